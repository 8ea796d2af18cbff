import Derived.Test.YtifjnoabmbckpaaGreatDoorNes2
import Derived.Test.YtifjnoabmbckpaaGreatDoorProg
namespace Go.Proofs.D
open Go Go.Den
theorem mixed : Tryz.prog.follows .mixedOrders = true := by kernel_rfl
end Go.Proofs.D
namespace Go.Proofs.D
open Go Go.Den
set_option maxRecDepth 100000
set_option maxHeartbeats 4000000
/- (*replevin/syntax.parser).declare -/
def d36 : DCode :=
  .seq (.ops [⟨some 2, .base (.alloc 56 [vI 0, vS [], vL none 0 0, vL none 0 0, vL none 0 0, vI 0, vI 0] false), none⟩])
 (.seq (.ops [⟨some 4, .base (.mv (.tmp 0)), none⟩,
  ⟨some 5, .call (.func 88) [.tmp 4, .const (vI 1)] (.one true [.int .i64, .str, .slice, .slice, .slice, .int .i64, .int .i64]), none⟩,
  ⟨some 3, .base (.alloc 56 [vI 0, vS [], vL none 0 0, vL none 0 0, vL none 0 0, vI 0, vI 0] false), none⟩,
  ⟨none, .base (.store 7 (.tmp 3) (.tmp 5)), none⟩])
 (.seq (.ops [⟨some 6, .base (.mv (.tmp 0)), none⟩,
  ⟨some 7, .call (.func 89) [.tmp 6, .const (vI 1)] (.one true [.int .i64, .str, .int .i64, .str, .int .i64, .int .i64]), none⟩,
  ⟨some 8, .base (.field false 1 1 (.tmp 7)), none⟩,
  ⟨some 9, .base (.fieldAddr 1 (.tmp 3)), none⟩,
  ⟨none, .base (.store 1 (.tmp 9) (.tmp 8)), none⟩])
 (.seq (.seq (.ops [⟨some 10, .base (.mv (.tmp 0)), none⟩,
  ⟨some 11, .call (.func 90) [.tmp 10, .const (vS [61])] (.one false [.bool]), none⟩])
 (.cond (.tmp 11) (.ops [⟨some 12, .base (.mv (.tmp 0)), none⟩,
    ⟨some 13, .call (.func 91) [.tmp 12] (.one true [.int .i64, .str, .str, .int .i64, .str, .slice, .int .i64, .int .i64]), none⟩,
    ⟨some 14, .heap (.buildSlice 48 1 [vI 0, vS [], vS [], vI 0, vS [], vL none 0 0, vI 0, vI 0] [(0, 8, .tmp 13)]), none⟩,
    ⟨some 15, .base (.fieldAddr 2 (.tmp 3)), none⟩,
    ⟨none, .base (.store 1 (.tmp 15) (.tmp 14)), none⟩])
 (.skip)))
 (.seq (.ops [⟨some 16, .base (.mv (.tmp 0)), none⟩,
  ⟨some 17, .call (.func 92) [.tmp 16, .const (vS [59])] (.tup []), none⟩])
 (.seq (.ops [⟨some 18, .load true [.int .i64, .str, .slice, .slice, .slice, .int .i64, .int .i64] (.tmp 3), none⟩,
  ⟨none, .base (.store 7 (.tmp 2) (.tmp 18)), none⟩])
 (.ret))))))
theorem low36 : low Tryz.prog (fun _ => false) (Tryz.f36.body.getD .skip) = some (eC d36) := by kernel_rfl
theorem res36 : lowRes Tryz.prog Tryz.f36.results.toList = some [.cell 2 true 7] := by kernel_rfl
def R36 (xb1 : Nat) (xo1 : Nat) (h : PHeap) (Q : Value → PHeap → Prop) : Prop :=
  Tri Tryz.prog 88 [vP xb1 xo1, vI 1] h fun v_1 h_1 =>
  ∃ (Kind1 : Int) (Name1 : List UInt8) (Argsa1 : Option Addr) (Argsn1 Argsc1 : Nat) (Bodya1 : Option Addr) (Bodyn1 Bodyc1 : Nat) (Elsea1 : Option Addr) (Elsen1 Elsec1 : Nat) (Line1 Column1 : Int), v_1 = vA [vI Kind1, vS Name1, vL Argsa1 Argsn1 Argsc1, vL Bodya1 Bodyn1 Bodyc1, vL Elsea1 Elsen1 Elsec1, vI Line1, vI Column1] ∧
  Tri Tryz.prog 89 [vP xb1 xo1, vI 1] h_1 fun v_2 h_2 =>
  ∃ (Kind2 : Int) (Text1 : List UInt8) (Value1 : Int) (Bytes1 : List UInt8) (Line2 Column2 : Int), v_2 = vA [vI Kind2, vS Text1, vI Value1, vS Bytes1, vI Line2, vI Column2] ∧
  Tri Tryz.prog 90 [vP xb1 xo1, vS [61]] h_2 fun v_3 h_3 =>
  ∃ (c1 : Bool), v_3 = vB c1 ∧
  br c1
  (Tri Tryz.prog 91 [vP xb1 xo1] h_3 fun v_4 h_4 =>
    ∃ (Kind3 : Int) (Op1 Name2 : List UInt8) (Value2 : Int) (Text2 : List UInt8) (Argsa2 : Option Addr) (Argsn2 Argsc2 : Nat) (Line3 Column3 : Int), v_4 = vA [vI Kind3, vS Op1, vS Name2, vI Value2, vS Text2, vL Argsa2 Argsn2 Argsc2, vI Line3, vI Column3] ∧
    ∀ (b1 : Nat), h_4 b1 = none → ∀ (h_5 : PHeap), h_5 = h_4.put b1 (.cells ⟨[vI Kind3, vS Op1, vS Name2, vI Value2, vS Text2, vL Argsa2 Argsn2 Argsc2, vI Line3, vI Column3]⟩ 48) →
    Tri Tryz.prog 92 [vP xb1 xo1, vS [59]] h_5 fun v_5 h_6 =>
    v_5 = vT [] ∧
    Q (vA [vI Kind1, vS Text1, vL (ad b1 0) 1 1, vL Bodya1 Bodyn1 Bodyc1, vL Elsea1 Elsen1 Elsec1, vI Line1, vI Column1]) h_6)
  (Tri Tryz.prog 92 [vP xb1 xo1, vS [59]] h_3 fun v_6 h_7 =>
    v_6 = vT [] ∧
    Q (vA [vI Kind1, vS Text1, vL Argsa1 Argsn1 Argsc1, vL Bodya1 Bodyn1 Bodyc1, vL Elsea1 Elsen1 Elsec1, vI Line1, vI Column1]) h_7)
theorem e36 (xb1 : Nat) (xo1 : Nat) (h : PHeap) (Q : Value → PHeap → Prop) : dnF Tryz.prog Tryz.f36.ntmps d36 [.cell 2 true 7] [vP xb1 xo1] h Q = R36 xb1 xo1 h Q := by kernel_rfl
theorem T36 {xb1 : Nat} {xo1 : Nat} {h : PHeap} {Q : Value → PHeap → Prop} (hR : R36 xb1 xo1 h Q) : Tri Tryz.prog 36 [vP xb1 xo1] h Q :=
  tri_of_dn mixed Tryz.func36 rfl (by kernel_rfl) low36 res36 rfl (Eq.mpr (e36 xb1 xo1 h Q) hR)
/- (*replevin/syntax.parser).ifStmt -/
def d37 : DCode :=
  .seq (.ops [⟨some 2, .base (.alloc 56 [vI 0, vS [], vL none 0 0, vL none 0 0, vL none 0 0, vI 0, vI 0] false), none⟩])
 (.seq (.ops [⟨some 4, .base (.mv (.tmp 0)), none⟩,
  ⟨some 5, .call (.func 88) [.tmp 4, .const (vI 5)] (.one true [.int .i64, .str, .slice, .slice, .slice, .int .i64, .int .i64]), none⟩,
  ⟨some 3, .base (.alloc 56 [vI 0, vS [], vL none 0 0, vL none 0 0, vL none 0 0, vI 0, vI 0] false), none⟩,
  ⟨none, .base (.store 7 (.tmp 3) (.tmp 5)), none⟩])
 (.seq (.ops [⟨some 6, .base (.mv (.tmp 0)), none⟩,
  ⟨some 7, .call (.func 93) [.tmp 6] (.one false [.slice]), none⟩,
  ⟨some 8, .base (.fieldAddr 2 (.tmp 3)), none⟩,
  ⟨none, .base (.store 1 (.tmp 8) (.tmp 7)), none⟩])
 (.seq (.ops [⟨some 9, .base (.mv (.tmp 0)), none⟩,
  ⟨some 10, .call (.func 94) [.tmp 9] (.one false [.slice]), none⟩,
  ⟨some 11, .base (.fieldAddr 3 (.tmp 3)), none⟩,
  ⟨none, .base (.store 1 (.tmp 11) (.tmp 10)), none⟩])
 (.seq (.seq (.ops [⟨some 12, .base (.mv (.tmp 0)), none⟩,
  ⟨some 13, .call (.func 90) [.tmp 12, .const (vS [101, 108, 115, 101])] (.one false [.bool]), none⟩])
 (.cond (.tmp 13) (.seq (.ops [⟨some 14, .base (.mv (.tmp 0)), none⟩,
    ⟨some 15, .call (.func 44) [.tmp 14, .const (vS [105, 102])] (.one false [.bool]), none⟩])
   (.cond (.tmp 15) (.ops [⟨some 16, .base (.mv (.tmp 0)), none⟩,
      ⟨some 17, .call (.func 37) [.tmp 16] (.one true [.int .i64, .str, .slice, .slice, .slice, .int .i64, .int .i64]), none⟩,
      ⟨some 18, .heap (.buildSlice 56 1 [vI 0, vS [], vL none 0 0, vL none 0 0, vL none 0 0, vI 0, vI 0] [(0, 7, .tmp 17)]), none⟩,
      ⟨some 19, .base (.fieldAddr 4 (.tmp 3)), none⟩,
      ⟨none, .base (.store 1 (.tmp 19) (.tmp 18)), none⟩])
   (.ops [⟨some 20, .base (.mv (.tmp 0)), none⟩,
      ⟨some 21, .call (.func 94) [.tmp 20] (.one false [.slice]), none⟩,
      ⟨some 22, .base (.fieldAddr 4 (.tmp 3)), none⟩,
      ⟨none, .base (.store 1 (.tmp 22) (.tmp 21)), none⟩])))
 (.skip)))
 (.seq (.ops [⟨some 23, .load true [.int .i64, .str, .slice, .slice, .slice, .int .i64, .int .i64] (.tmp 3), none⟩,
  ⟨none, .base (.store 7 (.tmp 2) (.tmp 23)), none⟩])
 (.ret))))))
theorem low37 : low Tryz.prog (fun _ => false) (Tryz.f37.body.getD .skip) = some (eC d37) := by kernel_rfl
theorem res37 : lowRes Tryz.prog Tryz.f37.results.toList = some [.cell 2 true 7] := by kernel_rfl
def R37 (xb1 : Nat) (xo1 : Nat) (h : PHeap) (Q : Value → PHeap → Prop) : Prop :=
  Tri Tryz.prog 88 [vP xb1 xo1, vI 5] h fun v_1 h_1 =>
  ∃ (Kind1 : Int) (Name1 : List UInt8) (Argsa1 : Option Addr) (Argsn1 Argsc1 : Nat) (Bodya1 : Option Addr) (Bodyn1 Bodyc1 : Nat) (Elsea1 : Option Addr) (Elsen1 Elsec1 : Nat) (Line1 Column1 : Int), v_1 = vA [vI Kind1, vS Name1, vL Argsa1 Argsn1 Argsc1, vL Bodya1 Bodyn1 Bodyc1, vL Elsea1 Elsen1 Elsec1, vI Line1, vI Column1] ∧
  Tri Tryz.prog 93 [vP xb1 xo1] h_1 fun v_2 h_2 =>
  ∃ (sa1 : Option Addr) (sn1 sc1 : Nat), v_2 = vL sa1 sn1 sc1 ∧
  Tri Tryz.prog 94 [vP xb1 xo1] h_2 fun v_3 h_3 =>
  ∃ (sa2 : Option Addr) (sn2 sc2 : Nat), v_3 = vL sa2 sn2 sc2 ∧
  Tri Tryz.prog 90 [vP xb1 xo1, vS [101, 108, 115, 101]] h_3 fun v_4 h_4 =>
  ∃ (c1 : Bool), v_4 = vB c1 ∧
  br c1
  (Tri Tryz.prog 44 [vP xb1 xo1, vS [105, 102]] h_4 fun v_5 h_5 =>
    ∃ (c2 : Bool), v_5 = vB c2 ∧
    br c2
    (Tri Tryz.prog 37 [vP xb1 xo1] h_5 fun v_6 h_6 =>
      ∃ (Kind2 : Int) (Name2 : List UInt8) (Argsa2 : Option Addr) (Argsn2 Argsc2 : Nat) (Bodya2 : Option Addr) (Bodyn2 Bodyc2 : Nat) (Elsea2 : Option Addr) (Elsen2 Elsec2 : Nat) (Line2 Column2 : Int), v_6 = vA [vI Kind2, vS Name2, vL Argsa2 Argsn2 Argsc2, vL Bodya2 Bodyn2 Bodyc2, vL Elsea2 Elsen2 Elsec2, vI Line2, vI Column2] ∧
      ∀ (b1 : Nat), h_6 b1 = none → ∀ (h_7 : PHeap), h_7 = h_6.put b1 (.cells ⟨[vI Kind2, vS Name2, vL Argsa2 Argsn2 Argsc2, vL Bodya2 Bodyn2 Bodyc2, vL Elsea2 Elsen2 Elsec2, vI Line2, vI Column2]⟩ 56) →
      Q (vA [vI Kind1, vS Name1, vL sa1 sn1 sc1, vL sa2 sn2 sc2, vL (ad b1 0) 1 1, vI Line1, vI Column1]) h_7)
    (Tri Tryz.prog 94 [vP xb1 xo1] h_5 fun v_7 h_8 =>
      ∃ (sa3 : Option Addr) (sn3 sc3 : Nat), v_7 = vL sa3 sn3 sc3 ∧
      Q (vA [vI Kind1, vS Name1, vL sa1 sn1 sc1, vL sa2 sn2 sc2, vL sa3 sn3 sc3, vI Line1, vI Column1]) h_8))
  (Q (vA [vI Kind1, vS Name1, vL sa1 sn1 sc1, vL sa2 sn2 sc2, vL Elsea1 Elsen1 Elsec1, vI Line1, vI Column1]) h_4)
theorem e37 (xb1 : Nat) (xo1 : Nat) (h : PHeap) (Q : Value → PHeap → Prop) : dnF Tryz.prog Tryz.f37.ntmps d37 [.cell 2 true 7] [vP xb1 xo1] h Q = R37 xb1 xo1 h Q := by kernel_rfl
theorem T37 {xb1 : Nat} {xo1 : Nat} {h : PHeap} {Q : Value → PHeap → Prop} (hR : R37 xb1 xo1 h Q) : Tri Tryz.prog 37 [vP xb1 xo1] h Q :=
  tri_of_dn mixed Tryz.func37 rfl (by kernel_rfl) low37 res37 rfl (Eq.mpr (e37 xb1 xo1 h Q) hR)
/- (*replevin/syntax.parser).while -/
def d38 : DCode :=
  .seq (.ops [⟨some 2, .base (.alloc 56 [vI 0, vS [], vL none 0 0, vL none 0 0, vL none 0 0, vI 0, vI 0] false), none⟩])
 (.seq (.ops [⟨some 4, .base (.mv (.tmp 0)), none⟩,
  ⟨some 5, .call (.func 88) [.tmp 4, .const (vI 6)] (.one true [.int .i64, .str, .slice, .slice, .slice, .int .i64, .int .i64]), none⟩,
  ⟨some 3, .base (.alloc 56 [vI 0, vS [], vL none 0 0, vL none 0 0, vL none 0 0, vI 0, vI 0] false), none⟩,
  ⟨none, .base (.store 7 (.tmp 3) (.tmp 5)), none⟩])
 (.seq (.ops [⟨some 6, .base (.mv (.tmp 0)), none⟩,
  ⟨some 7, .call (.func 93) [.tmp 6] (.one false [.slice]), none⟩,
  ⟨some 8, .base (.fieldAddr 2 (.tmp 3)), none⟩,
  ⟨none, .base (.store 1 (.tmp 8) (.tmp 7)), none⟩])
 (.seq (.ops [⟨some 9, .base (.mv (.tmp 0)), none⟩,
  ⟨some 10, .call (.func 94) [.tmp 9] (.one false [.slice]), none⟩,
  ⟨some 11, .base (.fieldAddr 3 (.tmp 3)), none⟩,
  ⟨none, .base (.store 1 (.tmp 11) (.tmp 10)), none⟩])
 (.seq (.ops [⟨some 12, .load true [.int .i64, .str, .slice, .slice, .slice, .int .i64, .int .i64] (.tmp 3), none⟩,
  ⟨none, .base (.store 7 (.tmp 2) (.tmp 12)), none⟩])
 (.ret)))))
theorem low38 : low Tryz.prog (fun _ => false) (Tryz.f38.body.getD .skip) = some (eC d38) := by kernel_rfl
theorem res38 : lowRes Tryz.prog Tryz.f38.results.toList = some [.cell 2 true 7] := by kernel_rfl
def R38 (xb1 : Nat) (xo1 : Nat) (h : PHeap) (Q : Value → PHeap → Prop) : Prop :=
  Tri Tryz.prog 88 [vP xb1 xo1, vI 6] h fun v_1 h_1 =>
  ∃ (Kind1 : Int) (Name1 : List UInt8) (Argsa1 : Option Addr) (Argsn1 Argsc1 : Nat) (Bodya1 : Option Addr) (Bodyn1 Bodyc1 : Nat) (Elsea1 : Option Addr) (Elsen1 Elsec1 : Nat) (Line1 Column1 : Int), v_1 = vA [vI Kind1, vS Name1, vL Argsa1 Argsn1 Argsc1, vL Bodya1 Bodyn1 Bodyc1, vL Elsea1 Elsen1 Elsec1, vI Line1, vI Column1] ∧
  Tri Tryz.prog 93 [vP xb1 xo1] h_1 fun v_2 h_2 =>
  ∃ (sa1 : Option Addr) (sn1 sc1 : Nat), v_2 = vL sa1 sn1 sc1 ∧
  Tri Tryz.prog 94 [vP xb1 xo1] h_2 fun v_3 h_3 =>
  ∃ (sa2 : Option Addr) (sn2 sc2 : Nat), v_3 = vL sa2 sn2 sc2 ∧
  Q (vA [vI Kind1, vS Name1, vL sa1 sn1 sc1, vL sa2 sn2 sc2, vL Elsea1 Elsen1 Elsec1, vI Line1, vI Column1]) h_3
theorem e38 (xb1 : Nat) (xo1 : Nat) (h : PHeap) (Q : Value → PHeap → Prop) : dnF Tryz.prog Tryz.f38.ntmps d38 [.cell 2 true 7] [vP xb1 xo1] h Q = R38 xb1 xo1 h Q := by kernel_rfl
theorem T38 {xb1 : Nat} {xo1 : Nat} {h : PHeap} {Q : Value → PHeap → Prop} (hR : R38 xb1 xo1 h Q) : Tri Tryz.prog 38 [vP xb1 xo1] h Q :=
  tri_of_dn mixed Tryz.func38 rfl (by kernel_rfl) low38 res38 rfl (Eq.mpr (e38 xb1 xo1 h Q) hR)
/- (*replevin/syntax.parser).returnStmt -/
abbrev o39_0 : Op := .unOp Go.UnOp.not 4 (Go.Operand.tmp 7)
def d39 : DCode :=
  .seq (.ops [⟨some 2, .base (.alloc 56 [vI 0, vS [], vL none 0 0, vL none 0 0, vL none 0 0, vI 0, vI 0] false), none⟩])
 (.seq (.ops [⟨some 4, .base (.mv (.tmp 0)), none⟩,
  ⟨some 5, .call (.func 88) [.tmp 4, .const (vI 7)] (.one true [.int .i64, .str, .slice, .slice, .slice, .int .i64, .int .i64]), none⟩,
  ⟨some 3, .base (.alloc 56 [vI 0, vS [], vL none 0 0, vL none 0 0, vL none 0 0, vI 0, vI 0] false), none⟩,
  ⟨none, .base (.store 7 (.tmp 3) (.tmp 5)), none⟩])
 (.seq (.seq (.ops [⟨some 6, .base (.mv (.tmp 0)), none⟩,
  ⟨some 7, .call (.func 44) [.tmp 6, .const (vS [59])] (.one false [.bool]), none⟩,
  ⟨some 8, .base (.pure o39_0 4), none⟩])
 (.cond (.tmp 8) (.ops [⟨some 9, .base (.mv (.tmp 0)), none⟩,
    ⟨some 10, .call (.func 91) [.tmp 9] (.one true [.int .i64, .str, .str, .int .i64, .str, .slice, .int .i64, .int .i64]), none⟩,
    ⟨some 11, .heap (.buildSlice 48 1 [vI 0, vS [], vS [], vI 0, vS [], vL none 0 0, vI 0, vI 0] [(0, 8, .tmp 10)]), none⟩,
    ⟨some 12, .base (.fieldAddr 2 (.tmp 3)), none⟩,
    ⟨none, .base (.store 1 (.tmp 12) (.tmp 11)), none⟩])
 (.skip)))
 (.seq (.ops [⟨some 13, .base (.mv (.tmp 0)), none⟩,
  ⟨some 14, .call (.func 92) [.tmp 13, .const (vS [59])] (.tup []), none⟩])
 (.seq (.ops [⟨some 15, .load true [.int .i64, .str, .slice, .slice, .slice, .int .i64, .int .i64] (.tmp 3), none⟩,
  ⟨none, .base (.store 7 (.tmp 2) (.tmp 15)), none⟩])
 (.ret)))))
theorem low39 : low Tryz.prog (fun _ => false) (Tryz.f39.body.getD .skip) = some (eC d39) := by kernel_rfl
theorem res39 : lowRes Tryz.prog Tryz.f39.results.toList = some [.cell 2 true 7] := by kernel_rfl
def R39 (xb1 : Nat) (xo1 : Nat) (h : PHeap) (Q : Value → PHeap → Prop) : Prop :=
  Tri Tryz.prog 88 [vP xb1 xo1, vI 7] h fun v_1 h_1 =>
  ∃ (Kind1 : Int) (Name1 : List UInt8) (Argsa1 : Option Addr) (Argsn1 Argsc1 : Nat) (Bodya1 : Option Addr) (Bodyn1 Bodyc1 : Nat) (Elsea1 : Option Addr) (Elsen1 Elsec1 : Nat) (Line1 Column1 : Int), v_1 = vA [vI Kind1, vS Name1, vL Argsa1 Argsn1 Argsc1, vL Bodya1 Bodyn1 Bodyc1, vL Elsea1 Elsen1 Elsec1, vI Line1, vI Column1] ∧
  Tri Tryz.prog 44 [vP xb1 xo1, vS [59]] h_1 fun v_2 h_2 =>
  ∃ (c1 : Bool), v_2 = vB c1 ∧
  br (!c1)
  (Tri Tryz.prog 91 [vP xb1 xo1] h_2 fun v_3 h_3 =>
    ∃ (Kind2 : Int) (Op1 Name2 : List UInt8) (Value1 : Int) (Text1 : List UInt8) (Argsa2 : Option Addr) (Argsn2 Argsc2 : Nat) (Line2 Column2 : Int), v_3 = vA [vI Kind2, vS Op1, vS Name2, vI Value1, vS Text1, vL Argsa2 Argsn2 Argsc2, vI Line2, vI Column2] ∧
    ∀ (b1 : Nat), h_3 b1 = none → ∀ (h_4 : PHeap), h_4 = h_3.put b1 (.cells ⟨[vI Kind2, vS Op1, vS Name2, vI Value1, vS Text1, vL Argsa2 Argsn2 Argsc2, vI Line2, vI Column2]⟩ 48) →
    Tri Tryz.prog 92 [vP xb1 xo1, vS [59]] h_4 fun v_4 h_5 =>
    v_4 = vT [] ∧
    Q (vA [vI Kind1, vS Name1, vL (ad b1 0) 1 1, vL Bodya1 Bodyn1 Bodyc1, vL Elsea1 Elsen1 Elsec1, vI Line1, vI Column1]) h_5)
  (Tri Tryz.prog 92 [vP xb1 xo1, vS [59]] h_2 fun v_5 h_6 =>
    v_5 = vT [] ∧
    Q (vA [vI Kind1, vS Name1, vL Argsa1 Argsn1 Argsc1, vL Bodya1 Bodyn1 Bodyc1, vL Elsea1 Elsen1 Elsec1, vI Line1, vI Column1]) h_6)
theorem e39 (xb1 : Nat) (xo1 : Nat) (h : PHeap) (Q : Value → PHeap → Prop) : dnF Tryz.prog Tryz.f39.ntmps d39 [.cell 2 true 7] [vP xb1 xo1] h Q = R39 xb1 xo1 h Q := by kernel_rfl
theorem T39 {xb1 : Nat} {xo1 : Nat} {h : PHeap} {Q : Value → PHeap → Prop} (hR : R39 xb1 xo1 h Q) : Tri Tryz.prog 39 [vP xb1 xo1] h Q :=
  tri_of_dn mixed Tryz.func39 rfl (by kernel_rfl) low39 res39 rfl (Eq.mpr (e39 xb1 xo1 h Q) hR)
/- replevin/syntax.Parse_1 -/
def d40 : DCode :=
  .seq (.ops [⟨some 1, .base (.alloc 56 [vI 0, vS [], vL none 0 0, vL none 0 0, vL none 0 0, vI 0, vI 0] false), none⟩])
 (.seq (.ops [⟨some 2, .load false [.ptr] (.tmp 0), none⟩,
  ⟨some 3, .call (.func 41) [.tmp 2, .const (vI 8)] (.one true [.int .i64, .str, .slice, .slice, .slice, .int .i64, .int .i64]), none⟩,
  ⟨none, .base (.store 7 (.tmp 1) (.tmp 3)), none⟩])
 (.ret))
theorem low40 : low Tryz.prog (fun _ => false) (Tryz.f40.body.getD .skip) = some (eC d40) := by kernel_rfl
theorem res40 : lowRes Tryz.prog Tryz.f40.results.toList = some [.cell 1 true 7] := by kernel_rfl
def R40 (fvb1 : Nat) (fvo1 : Nat) (h : PHeap) (Q : Value → PHeap → Prop) : Prop :=
  ∃ (pb1 po1 : Nat), h.cell fvb1 fvo1 = some (vP pb1 po1) ∧
  Tri Tryz.prog 41 [vP pb1 po1, vI 8] h fun v_1 h_1 =>
  ∃ (Kind1 : Int) (Name1 : List UInt8) (Argsa1 : Option Addr) (Argsn1 Argsc1 : Nat) (Bodya1 : Option Addr) (Bodyn1 Bodyc1 : Nat) (Elsea1 : Option Addr) (Elsen1 Elsec1 : Nat) (Line1 Column1 : Int), v_1 = vA [vI Kind1, vS Name1, vL Argsa1 Argsn1 Argsc1, vL Bodya1 Bodyn1 Bodyc1, vL Elsea1 Elsen1 Elsec1, vI Line1, vI Column1] ∧
  Q (vA [vI Kind1, vS Name1, vL Argsa1 Argsn1 Argsc1, vL Bodya1 Bodyn1 Bodyc1, vL Elsea1 Elsen1 Elsec1, vI Line1, vI Column1]) h_1
theorem e40 (fvb1 : Nat) (fvo1 : Nat) (h : PHeap) (Q : Value → PHeap → Prop) : dnF Tryz.prog Tryz.f40.ntmps d40 [.cell 1 true 7] [vP fvb1 fvo1] h Q = R40 fvb1 fvo1 h Q := by kernel_rfl
theorem T40 {fvb1 : Nat} {fvo1 : Nat} {h : PHeap} {Q : Value → PHeap → Prop} (hR : R40 fvb1 fvo1 h Q) : Tri Tryz.prog 40 [vP fvb1 fvo1] h Q :=
  tri_of_dn mixed Tryz.func40 rfl (by kernel_rfl) low40 res40 rfl (Eq.mpr (e40 fvb1 fvo1 h Q) hR)
/- (*replevin/syntax.parser).word -/
def d41 : DCode :=
  .seq (.ops [⟨some 4, .base (.alloc 56 [vI 0, vS [], vL none 0 0, vL none 0 0, vL none 0 0, vI 0, vI 0] false), none⟩])
 (.seq (.ops [⟨some 6, .base (.mv (.tmp 0)), none⟩,
  ⟨some 7, .base (.mv (.tmp 1)), none⟩,
  ⟨some 8, .call (.func 88) [.tmp 6, .tmp 7] (.one true [.int .i64, .str, .slice, .slice, .slice, .int .i64, .int .i64]), none⟩,
  ⟨some 5, .base (.alloc 56 [vI 0, vS [], vL none 0 0, vL none 0 0, vL none 0 0, vI 0, vI 0] false), none⟩,
  ⟨none, .base (.store 7 (.tmp 5) (.tmp 8)), none⟩])
 (.seq (.ops [⟨some 9, .base (.mv (.tmp 0)), none⟩,
  ⟨some 10, .call (.func 92) [.tmp 9, .const (vS [59])] (.tup []), none⟩])
 (.seq (.ops [⟨some 11, .load true [.int .i64, .str, .slice, .slice, .slice, .int .i64, .int .i64] (.tmp 5), none⟩,
  ⟨none, .base (.store 7 (.tmp 4) (.tmp 11)), none⟩])
 (.ret))))
theorem low41 : low Tryz.prog (fun _ => false) (Tryz.f41.body.getD .skip) = some (eC d41) := by kernel_rfl
theorem res41 : lowRes Tryz.prog Tryz.f41.results.toList = some [.cell 4 true 7] := by kernel_rfl
def R41 (xb1 : Nat) (xo1 : Nat) (kind1 : Int) (h : PHeap) (Q : Value → PHeap → Prop) : Prop :=
  Tri Tryz.prog 88 [vP xb1 xo1, vI kind1] h fun v_1 h_1 =>
  ∃ (Kind1 : Int) (Name1 : List UInt8) (Argsa1 : Option Addr) (Argsn1 Argsc1 : Nat) (Bodya1 : Option Addr) (Bodyn1 Bodyc1 : Nat) (Elsea1 : Option Addr) (Elsen1 Elsec1 : Nat) (Line1 Column1 : Int), v_1 = vA [vI Kind1, vS Name1, vL Argsa1 Argsn1 Argsc1, vL Bodya1 Bodyn1 Bodyc1, vL Elsea1 Elsen1 Elsec1, vI Line1, vI Column1] ∧
  Tri Tryz.prog 92 [vP xb1 xo1, vS [59]] h_1 fun v_2 h_2 =>
  v_2 = vT [] ∧
  Q (vA [vI Kind1, vS Name1, vL Argsa1 Argsn1 Argsc1, vL Bodya1 Bodyn1 Bodyc1, vL Elsea1 Elsen1 Elsec1, vI Line1, vI Column1]) h_2
theorem e41 (xb1 : Nat) (xo1 : Nat) (kind1 : Int) (h : PHeap) (Q : Value → PHeap → Prop) : dnF Tryz.prog Tryz.f41.ntmps d41 [.cell 4 true 7] [vP xb1 xo1, vI kind1] h Q = R41 xb1 xo1 kind1 h Q := by kernel_rfl
theorem T41 {xb1 : Nat} {xo1 : Nat} {kind1 : Int} {h : PHeap} {Q : Value → PHeap → Prop} (hR : R41 xb1 xo1 kind1 h Q) : Tri Tryz.prog 41 [vP xb1 xo1, vI kind1] h Q :=
  tri_of_dn mixed Tryz.func41 rfl (by kernel_rfl) low41 res41 rfl (Eq.mpr (e41 xb1 xo1 kind1 h Q) hR)
/- replevin/syntax.Parse_2 -/
def d42 : DCode :=
  .seq (.ops [⟨some 1, .base (.alloc 56 [vI 0, vS [], vL none 0 0, vL none 0 0, vL none 0 0, vI 0, vI 0] false), none⟩])
 (.seq (.ops [⟨some 2, .load false [.ptr] (.tmp 0), none⟩,
  ⟨some 3, .call (.func 41) [.tmp 2, .const (vI 9)] (.one true [.int .i64, .str, .slice, .slice, .slice, .int .i64, .int .i64]), none⟩,
  ⟨none, .base (.store 7 (.tmp 1) (.tmp 3)), none⟩])
 (.ret))
theorem low42 : low Tryz.prog (fun _ => false) (Tryz.f42.body.getD .skip) = some (eC d42) := by kernel_rfl
theorem res42 : lowRes Tryz.prog Tryz.f42.results.toList = some [.cell 1 true 7] := by kernel_rfl
def R42 (fvb1 : Nat) (fvo1 : Nat) (h : PHeap) (Q : Value → PHeap → Prop) : Prop :=
  ∃ (pb1 po1 : Nat), h.cell fvb1 fvo1 = some (vP pb1 po1) ∧
  Tri Tryz.prog 41 [vP pb1 po1, vI 9] h fun v_1 h_1 =>
  ∃ (Kind1 : Int) (Name1 : List UInt8) (Argsa1 : Option Addr) (Argsn1 Argsc1 : Nat) (Bodya1 : Option Addr) (Bodyn1 Bodyc1 : Nat) (Elsea1 : Option Addr) (Elsen1 Elsec1 : Nat) (Line1 Column1 : Int), v_1 = vA [vI Kind1, vS Name1, vL Argsa1 Argsn1 Argsc1, vL Bodya1 Bodyn1 Bodyc1, vL Elsea1 Elsen1 Elsec1, vI Line1, vI Column1] ∧
  Q (vA [vI Kind1, vS Name1, vL Argsa1 Argsn1 Argsc1, vL Bodya1 Bodyn1 Bodyc1, vL Elsea1 Elsen1 Elsec1, vI Line1, vI Column1]) h_1
theorem e42 (fvb1 : Nat) (fvo1 : Nat) (h : PHeap) (Q : Value → PHeap → Prop) : dnF Tryz.prog Tryz.f42.ntmps d42 [.cell 1 true 7] [vP fvb1 fvo1] h Q = R42 fvb1 fvo1 h Q := by kernel_rfl
theorem T42 {fvb1 : Nat} {fvo1 : Nat} {h : PHeap} {Q : Value → PHeap → Prop} (hR : R42 fvb1 fvo1 h Q) : Tri Tryz.prog 42 [vP fvb1 fvo1] h Q :=
  tri_of_dn mixed Tryz.func42 rfl (by kernel_rfl) low42 res42 rfl (Eq.mpr (e42 fvb1 fvo1 h Q) hR)
/- (*replevin/syntax.parser).isKind -/
abbrev o43_0 : Op := .binOp Go.BinOp.eql 27 (Go.Operand.tmp 8) (Go.Operand.const (vI 0)) 27
abbrev o43_1 : Op := .binOp Go.BinOp.eql 3 (Go.Operand.tmp 17) (Go.Operand.tmp 18) 3
def d43 : DCode :=
  .seq (.ops [⟨some 4, .base (.mv (.const (vB false))), none⟩])
 (.seq (.ops [⟨some 5, .base (.mv (.tmp 0)), none⟩,
  ⟨some 6, .base (.nilCheck (.tmp 5)), none⟩,
  ⟨some 7, .base (.fieldAddr 5 (.tmp 6)), none⟩,
  ⟨some 8, .load false [.int .i64] (.tmp 7), none⟩,
  ⟨some 9, .base (.pure o43_0 4), none⟩,
  ⟨some 10, .base (.mv (.tmp 9)), none⟩,
  ⟨some 11, .base (.mv (.tmp 0)), some (10, true)⟩,
  ⟨some 12, .base (.nilCheck (.tmp 11)), some (10, true)⟩,
  ⟨some 13, .base (.fieldAddr 0 (.tmp 12)), some (10, true)⟩,
  ⟨some 14, .load false [.slice] (.tmp 13), some (10, true)⟩,
  ⟨some 15, .indexAddr 6 (.tmp 14) (.const (vI 0)), some (10, true)⟩,
  ⟨some 16, .base (.fieldAddr 0 (.tmp 15)), some (10, true)⟩,
  ⟨some 17, .load false [.int .i64] (.tmp 16), some (10, true)⟩,
  ⟨some 18, .base (.mv (.tmp 1)), some (10, true)⟩,
  ⟨some 19, .base (.pure o43_1 4), some (10, true)⟩,
  ⟨some 20, .base (.pick (.tmp 10) (.tmp 19) (.const (vB false))), none⟩,
  ⟨some 4, .base (.mv (.tmp 20)), none⟩])
 (.ret))
theorem low43 : low Tryz.prog (fun _ => false) (Tryz.f43.body.getD .skip) = some (eC d43) := by kernel_rfl
theorem res43 : lowRes Tryz.prog Tryz.f43.results.toList = some [.tmp 4] := by kernel_rfl
def R43 (xb1 : Nat) (xo1 : Nat) (kind1 : Int) (h : PHeap) (Q : Value → PHeap → Prop) : Prop :=
  ∃ (i1 : Int), h.cell xb1 (xo1 + 5) = some (vI i1) ∧
  br (i1 == 0)
  (∃ (sa1 : Option Addr) (sn1 sc1 : Nat), h.cell xb1 xo1 = some (vL sa1 sn1 sc1) ∧
    ∃ (b1 o1 : Nat), sa1 = some ⟨b1, o1, none⟩ ∧ (0 ≤ (0 : Int) ∧ (0 : Int) < sn1) ∧
    ∃ (i2 : Int), h.cell b1 o1 = some (vI i2) ∧
    Q (vB (i2 == kind1)) h)
  (Q (vB false) h)
theorem e43 (xb1 : Nat) (xo1 : Nat) (kind1 : Int) (h : PHeap) (Q : Value → PHeap → Prop) : dnF Tryz.prog Tryz.f43.ntmps d43 [.tmp 4] [vP xb1 xo1, vI kind1] h Q = R43 xb1 xo1 kind1 h Q := by kernel_rfl
theorem T43 {xb1 : Nat} {xo1 : Nat} {kind1 : Int} {h : PHeap} {Q : Value → PHeap → Prop} (hR : R43 xb1 xo1 kind1 h Q) : Tri Tryz.prog 43 [vP xb1 xo1, vI kind1] h Q :=
  tri_of_dn mixed Tryz.func43 rfl (by kernel_rfl) low43 res43 rfl (Eq.mpr (e43 xb1 xo1 kind1 h Q) hR)
/- (*replevin/syntax.parser).is -/
def d44 : DCode :=
  .seq (.ops [⟨some 4, .base (.mv (.const (vB false))), none⟩])
 (.seq (.ops [⟨some 5, .base (.mv (.tmp 0)), none⟩,
  ⟨some 6, .call (.func 43) [.tmp 5, .const (vI 4)] (.one false [.bool]), none⟩,
  ⟨some 7, .base (.mv (.tmp 6)), none⟩,
  ⟨some 8, .base (.mv (.tmp 0)), some (7, false)⟩,
  ⟨some 9, .call (.func 43) [.tmp 8, .const (vI 5)] (.one false [.bool]), some (7, false)⟩,
  ⟨some 10, .base (.pick (.tmp 7) (.const (vB true)) (.tmp 9)), none⟩,
  ⟨some 11, .base (.mv (.tmp 10)), none⟩,
  ⟨some 12, .base (.mv (.tmp 0)), some (11, true)⟩,
  ⟨some 13, .base (.nilCheck (.tmp 12)), some (11, true)⟩,
  ⟨some 14, .base (.fieldAddr 0 (.tmp 13)), some (11, true)⟩,
  ⟨some 15, .load false [.slice] (.tmp 14), some (11, true)⟩,
  ⟨some 16, .indexAddr 6 (.tmp 15) (.const (vI 0)), some (11, true)⟩,
  ⟨some 17, .base (.fieldAddr 1 (.tmp 16)), some (11, true)⟩,
  ⟨some 18, .load false [.str] (.tmp 17), some (11, true)⟩,
  ⟨some 19, .base (.mv (.tmp 1)), some (11, true)⟩,
  ⟨some 20, .base (.eqS false (.tmp 18) (.tmp 19)), some (11, true)⟩,
  ⟨some 21, .base (.pick (.tmp 11) (.tmp 20) (.const (vB false))), none⟩,
  ⟨some 4, .base (.mv (.tmp 21)), none⟩])
 (.ret))
theorem low44 : low Tryz.prog (fun _ => false) (Tryz.f44.body.getD .skip) = some (eC d44) := by kernel_rfl
theorem res44 : lowRes Tryz.prog Tryz.f44.results.toList = some [.tmp 4] := by kernel_rfl
def R44 (xb1 : Nat) (xo1 : Nat) (text1 : List UInt8) (h : PHeap) (Q : Value → PHeap → Prop) : Prop :=
  Tri Tryz.prog 43 [vP xb1 xo1, vI 4] h fun v_1 h_1 =>
  ∃ (c1 : Bool), v_1 = vB c1 ∧
  br c1
  (∃ (sa1 : Option Addr) (sn1 sc1 : Nat), h_1.cell xb1 xo1 = some (vL sa1 sn1 sc1) ∧
    ∃ (b1 o1 : Nat), sa1 = some ⟨b1, o1, none⟩ ∧ (0 ≤ (0 : Int) ∧ (0 : Int) < sn1) ∧
    ∃ (l1 : List UInt8), h_1.cell b1 (o1 + 1) = some (vS l1) ∧
    Q (vB (l1 == text1)) h_1)
  (Tri Tryz.prog 43 [vP xb1 xo1, vI 5] h_1 fun v_2 h_2 =>
    ∃ (c2 : Bool), v_2 = vB c2 ∧
    br c2
    (∃ (sa2 : Option Addr) (sn2 sc2 : Nat), h_2.cell xb1 xo1 = some (vL sa2 sn2 sc2) ∧
      ∃ (b2 o2 : Nat), sa2 = some ⟨b2, o2, none⟩ ∧ (0 ≤ (0 : Int) ∧ (0 : Int) < sn2) ∧
      ∃ (l2 : List UInt8), h_2.cell b2 (o2 + 1) = some (vS l2) ∧
      Q (vB (l2 == text1)) h_2)
    (Q (vB false) h_2))
theorem e44 (xb1 : Nat) (xo1 : Nat) (text1 : List UInt8) (h : PHeap) (Q : Value → PHeap → Prop) : dnF Tryz.prog Tryz.f44.ntmps d44 [.tmp 4] [vP xb1 xo1, vS text1] h Q = R44 xb1 xo1 text1 h Q := by kernel_rfl
theorem T44 {xb1 : Nat} {xo1 : Nat} {text1 : List UInt8} {h : PHeap} {Q : Value → PHeap → Prop} (hR : R44 xb1 xo1 text1 h Q) : Tri Tryz.prog 44 [vP xb1 xo1, vS text1] h Q :=
  tri_of_dn mixed Tryz.func44 rfl (by kernel_rfl) low44 res44 rfl (Eq.mpr (e44 xb1 xo1 text1 h Q) hR)
/- (*replevin/syntax.parser).global -/
def d45 : DCode :=
  .seq (.ops [⟨some 2, .base (.alloc 86 [vS [], vI 0, vI 0, vI 0, vI 0] false), none⟩])
 (.seq (.ops [⟨some 5, .base (.mv (.tmp 0)), none⟩,
  ⟨some 6, .call (.func 92) [.tmp 5, .const (vS [118, 97, 114])] (.tup []), none⟩])
 (.seq (.ops [⟨some 7, .base (.mv (.tmp 0)), none⟩,
  ⟨some 8, .call (.func 89) [.tmp 7, .const (vI 1)] (.one true [.int .i64, .str, .int .i64, .str, .int .i64, .int .i64]), none⟩,
  ⟨some 3, .base (.alloc 162 [vI 0, vS [], vI 0, vS [], vI 0, vI 0] false), none⟩,
  ⟨none, .base (.store 6 (.tmp 3) (.tmp 8)), none⟩])
 (.seq (.ops [⟨some 9, .base (.fieldAddr 1 (.tmp 3)), none⟩,
  ⟨some 10, .load false [.str] (.tmp 9), none⟩,
  ⟨some 11, .base (.fieldAddr 4 (.tmp 3)), none⟩,
  ⟨some 12, .load false [.int .i64] (.tmp 11), none⟩,
  ⟨some 13, .base (.fieldAddr 5 (.tmp 3)), none⟩,
  ⟨some 14, .load false [.int .i64] (.tmp 13), none⟩,
  ⟨some 15, .base (.build [vS [], vI 0, vI 0, vI 0, vI 0] [(0, 1, .tmp 10), (3, 1, .tmp 12), (4, 1, .tmp 14)]), none⟩,
  ⟨some 4, .base (.alloc 86 [vS [], vI 0, vI 0, vI 0, vI 0] false), none⟩,
  ⟨none, .base (.store 5 (.tmp 4) (.tmp 15)), none⟩])
 (.seq (.block 0 (.seq (.ops [⟨some 17, .base (.mv (.tmp 0)), none⟩,
    ⟨some 18, .call (.func 90) [.tmp 17, .const (vS [61])] (.one false [.bool]), none⟩,
    ⟨some 16, .base (.mv (.tmp 18)), none⟩])
   (.cond (.tmp 16) (.ops [⟨some 19, .base (.mv (.tmp 0)), none⟩,
      ⟨some 20, .call (.func 89) [.tmp 19, .const (vI 2)] (.one true [.int .i64, .str, .int .i64, .str, .int .i64, .int .i64]), none⟩,
      ⟨some 21, .base (.field false 2 1 (.tmp 20)), none⟩,
      ⟨some 22, .base (.fieldAddr 2 (.tmp 4)), none⟩,
      ⟨none, .base (.store 1 (.tmp 22) (.tmp 21)), none⟩])
   (.seq (.ops [⟨some 24, .base (.mv (.tmp 0)), none⟩,
      ⟨some 25, .call (.func 90) [.tmp 24, .const (vS [91])] (.one false [.bool]), none⟩,
      ⟨some 23, .base (.mv (.tmp 25)), none⟩])
     (.cond (.tmp 23) (.seq (.ops [⟨some 26, .base (.mv (.tmp 0)), none⟩,
        ⟨some 27, .call (.func 89) [.tmp 26, .const (vI 2)] (.one true [.int .i64, .str, .int .i64, .str, .int .i64, .int .i64]), none⟩,
        ⟨some 28, .base (.field false 2 1 (.tmp 27)), none⟩,
        ⟨some 29, .base (.fieldAddr 1 (.tmp 4)), none⟩,
        ⟨none, .base (.store 1 (.tmp 29) (.tmp 28)), none⟩])
       (.ops [⟨some 30, .base (.mv (.tmp 0)), none⟩,
        ⟨some 31, .call (.func 92) [.tmp 30, .const (vS [93])] (.tup []), none⟩]))
     (.skip))))))
 (.seq (.ops [⟨some 32, .base (.mv (.tmp 0)), none⟩,
  ⟨some 33, .call (.func 92) [.tmp 32, .const (vS [59])] (.tup []), none⟩])
 (.seq (.ops [⟨some 34, .load true [.str, .int .i64, .int .i64, .int .i64, .int .i64] (.tmp 4), none⟩,
  ⟨none, .base (.store 5 (.tmp 2) (.tmp 34)), none⟩])
 (.ret)))))))
theorem low45 : low Tryz.prog (fun _ => false) (Tryz.f45.body.getD .skip) = some (eC d45) := by kernel_rfl
theorem res45 : lowRes Tryz.prog Tryz.f45.results.toList = some [.cell 2 true 5] := by kernel_rfl
def R45 (xb1 : Nat) (xo1 : Nat) (h : PHeap) (Q : Value → PHeap → Prop) : Prop :=
  Tri Tryz.prog 92 [vP xb1 xo1, vS [118, 97, 114]] h fun v_1 h_1 =>
  v_1 = vT [] ∧
  Tri Tryz.prog 89 [vP xb1 xo1, vI 1] h_1 fun v_2 h_2 =>
  ∃ (Kind1 : Int) (Text1 : List UInt8) (Value1 : Int) (Bytes1 : List UInt8) (Line1 Column1 : Int), v_2 = vA [vI Kind1, vS Text1, vI Value1, vS Bytes1, vI Line1, vI Column1] ∧
  Tri Tryz.prog 90 [vP xb1 xo1, vS [61]] h_2 fun v_3 h_3 =>
  ∃ (c1 : Bool), v_3 = vB c1 ∧
  br c1
  (Tri Tryz.prog 89 [vP xb1 xo1, vI 2] h_3 fun v_4 h_4 =>
    ∃ (Kind2 : Int) (Text2 : List UInt8) (Value2 : Int) (Bytes2 : List UInt8) (Line2 Column2 : Int), v_4 = vA [vI Kind2, vS Text2, vI Value2, vS Bytes2, vI Line2, vI Column2] ∧
    Tri Tryz.prog 92 [vP xb1 xo1, vS [59]] h_4 fun v_5 h_5 =>
    v_5 = vT [] ∧
    Q (vA [vS Text1, vI 0, vI Value2, vI Line1, vI Column1]) h_5)
  (Tri Tryz.prog 90 [vP xb1 xo1, vS [91]] h_3 fun v_6 h_6 =>
    ∃ (c2 : Bool), v_6 = vB c2 ∧
    br c2
    (Tri Tryz.prog 89 [vP xb1 xo1, vI 2] h_6 fun v_7 h_7 =>
      ∃ (Kind3 : Int) (Text3 : List UInt8) (Value3 : Int) (Bytes3 : List UInt8) (Line3 Column3 : Int), v_7 = vA [vI Kind3, vS Text3, vI Value3, vS Bytes3, vI Line3, vI Column3] ∧
      Tri Tryz.prog 92 [vP xb1 xo1, vS [93]] h_7 fun v_8 h_8 =>
      v_8 = vT [] ∧
      Tri Tryz.prog 92 [vP xb1 xo1, vS [59]] h_8 fun v_9 h_9 =>
      v_9 = vT [] ∧
      Q (vA [vS Text1, vI Value3, vI 0, vI Line1, vI Column1]) h_9)
    (Tri Tryz.prog 92 [vP xb1 xo1, vS [59]] h_6 fun v_10 h_10 =>
      v_10 = vT [] ∧
      Q (vA [vS Text1, vI 0, vI 0, vI Line1, vI Column1]) h_10))
theorem e45 (xb1 : Nat) (xo1 : Nat) (h : PHeap) (Q : Value → PHeap → Prop) : dnF Tryz.prog Tryz.f45.ntmps d45 [.cell 2 true 5] [vP xb1 xo1] h Q = R45 xb1 xo1 h Q := by kernel_rfl
theorem T45 {xb1 : Nat} {xo1 : Nat} {h : PHeap} {Q : Value → PHeap → Prop} (hR : R45 xb1 xo1 h Q) : Tri Tryz.prog 45 [vP xb1 xo1] h Q :=
  tri_of_dn mixed Tryz.func45 rfl (by kernel_rfl) low45 res45 rfl (Eq.mpr (e45 xb1 xo1 h Q) hR)
/- (*replevin/syntax.parser).function -/
abbrev o46_0 : Op := .unOp Go.UnOp.not 4 (Go.Operand.tmp 19)
abbrev o46_1 : Op := .call { callee := (Go.Callee.builtin Go.Builtin.append), args := #[(Go.Operand.tmp 22), (Go.Operand.tmp 26)], argTypes := #[51, 51] }
abbrev o46_2 : Op := .call { callee := (Go.Callee.builtin Go.Builtin.append), args := #[(Go.Operand.tmp 32), (Go.Operand.tmp 36)], argTypes := #[51, 51] }
def d46 : DCode :=
  .seq (.ops [⟨some 2, .base (.alloc 54 [vS [], vL none 0 0, vL none 0 0, vI 0, vI 0] false), none⟩])
 (.seq (.ops [⟨some 5, .base (.mv (.tmp 0)), none⟩,
  ⟨some 6, .call (.func 92) [.tmp 5, .const (vS [102, 117, 110, 99])] (.tup []), none⟩])
 (.seq (.ops [⟨some 7, .base (.mv (.tmp 0)), none⟩,
  ⟨some 8, .call (.func 89) [.tmp 7, .const (vI 1)] (.one true [.int .i64, .str, .int .i64, .str, .int .i64, .int .i64]), none⟩,
  ⟨some 3, .base (.alloc 162 [vI 0, vS [], vI 0, vS [], vI 0, vI 0] false), none⟩,
  ⟨none, .base (.store 6 (.tmp 3) (.tmp 8)), none⟩])
 (.seq (.ops [⟨some 9, .base (.fieldAddr 1 (.tmp 3)), none⟩,
  ⟨some 10, .load false [.str] (.tmp 9), none⟩,
  ⟨some 11, .base (.fieldAddr 4 (.tmp 3)), none⟩,
  ⟨some 12, .load false [.int .i64] (.tmp 11), none⟩,
  ⟨some 13, .base (.fieldAddr 5 (.tmp 3)), none⟩,
  ⟨some 14, .load false [.int .i64] (.tmp 13), none⟩,
  ⟨some 15, .base (.build [vS [], vL none 0 0, vL none 0 0, vI 0, vI 0] [(0, 1, .tmp 10), (3, 1, .tmp 12), (4, 1, .tmp 14)]), none⟩,
  ⟨some 4, .base (.alloc 54 [vS [], vL none 0 0, vL none 0 0, vI 0, vI 0] false), none⟩,
  ⟨none, .base (.store 5 (.tmp 4) (.tmp 15)), none⟩])
 (.seq (.ops [⟨some 16, .base (.mv (.tmp 0)), none⟩,
  ⟨some 17, .call (.func 92) [.tmp 16, .const (vS [40])] (.tup []), none⟩])
 (.seq (.seq (.ops [⟨some 18, .base (.mv (.tmp 0)), none⟩,
  ⟨some 19, .call (.func 44) [.tmp 18, .const (vS [41])] (.one false [.bool]), none⟩,
  ⟨some 20, .base (.pure o46_0 4), none⟩])
 (.cond (.tmp 20) (.seq (.draw [(⟨some 21, .base (.fieldAddr 1 (.tmp 4)), none⟩, []),
    (⟨some 22, .load false [.slice] (.tmp 21), none⟩, [0]),
    (⟨some 23, .base (.mv (.tmp 0)), none⟩, []),
    (⟨some 24, .call (.func 89) [.tmp 23, .const (vI 1)] (.one true [.int .i64, .str, .int .i64, .str, .int .i64, .int .i64]), none⟩, [2]),
    (⟨some 25, .base (.field false 1 1 (.tmp 24)), none⟩, [3]),
    (⟨some 26, .heap (.buildSlice 9 1 [vS []] [(0, 1, .tmp 25)]), none⟩, [4]),
    (⟨some 27, .raw o46_1 51 (.one false [.slice]), none⟩, [1, 5, 3]),
    (⟨some 28, .base (.fieldAddr 1 (.tmp 4)), none⟩, [0, 1, 2, 3, 4, 5, 6]),
    (⟨none, .base (.store 1 (.tmp 28) (.tmp 27)), none⟩, [7, 6, 6, 0, 1, 2, 3, 4, 5, 6])])
   (.block 0 (.loop [29, 30, 31, 32, 33, 34, 35, 36, 37, 38] [] [(4, [.str, .slice, .slice, .int .i64, .int .i64])] (.seq (.seq (.ops [⟨some 29, .base (.mv (.tmp 0)), none⟩,
        ⟨some 30, .call (.func 90) [.tmp 29, .const (vS [44])] (.one false [.bool]), none⟩])
       (.cond (.tmp 30) (.skip)
       (.exit 0)))
       (.block 1 (.draw [(⟨some 31, .base (.fieldAddr 1 (.tmp 4)), none⟩, []),
          (⟨some 32, .load false [.slice] (.tmp 31), none⟩, [0]),
          (⟨some 33, .base (.mv (.tmp 0)), none⟩, []),
          (⟨some 34, .call (.func 89) [.tmp 33, .const (vI 1)] (.one true [.int .i64, .str, .int .i64, .str, .int .i64, .int .i64]), none⟩, [2]),
          (⟨some 35, .base (.field false 1 1 (.tmp 34)), none⟩, [3]),
          (⟨some 36, .heap (.buildSlice 9 1 [vS []] [(0, 1, .tmp 35)]), none⟩, [4]),
          (⟨some 37, .raw o46_2 51 (.one false [.slice]), none⟩, [1, 5, 3]),
          (⟨some 38, .base (.fieldAddr 1 (.tmp 4)), none⟩, [0, 1, 2, 3, 4, 5, 6]),
          (⟨none, .base (.store 1 (.tmp 38) (.tmp 37)), none⟩, [7, 6, 6, 0, 1, 2, 3, 4, 5, 6])]))))))
 (.skip)))
 (.seq (.ops [⟨some 39, .base (.mv (.tmp 0)), none⟩,
  ⟨some 40, .call (.func 92) [.tmp 39, .const (vS [41])] (.tup []), none⟩])
 (.seq (.ops [⟨some 41, .base (.mv (.tmp 0)), none⟩,
  ⟨some 42, .call (.func 94) [.tmp 41] (.one false [.slice]), none⟩,
  ⟨some 43, .base (.fieldAddr 2 (.tmp 4)), none⟩,
  ⟨none, .base (.store 1 (.tmp 43) (.tmp 42)), none⟩])
 (.seq (.ops [⟨some 44, .load true [.str, .slice, .slice, .int .i64, .int .i64] (.tmp 4), none⟩,
  ⟨none, .base (.store 5 (.tmp 2) (.tmp 44)), none⟩])
 (.ret)))))))))
theorem low46 : low Tryz.prog (fun _ => false) (Tryz.f46.body.getD .skip) = some (eC d46) := by kernel_rfl
theorem res46 : lowRes Tryz.prog Tryz.f46.results.toList = some [.cell 2 true 5] := by kernel_rfl
def R46 (xb1 : Nat) (xo1 : Nat) (h : PHeap) (Q : Value → PHeap → Prop) : Prop :=
  Tri Tryz.prog 92 [vP xb1 xo1, vS [102, 117, 110, 99]] h fun v_1 h_1 =>
  v_1 = vT [] ∧
  Tri Tryz.prog 89 [vP xb1 xo1, vI 1] h_1 fun v_2 h_2 =>
  ∃ (Kind1 : Int) (Text1 : List UInt8) (Value1 : Int) (Bytes1 : List UInt8) (Line1 Column1 : Int), v_2 = vA [vI Kind1, vS Text1, vI Value1, vS Bytes1, vI Line1, vI Column1] ∧
  Tri Tryz.prog 92 [vP xb1 xo1, vS [40]] h_2 fun v_3 h_3 =>
  v_3 = vT [] ∧
  Tri Tryz.prog 44 [vP xb1 xo1, vS [41]] h_3 fun v_4 h_4 =>
  ∃ (c1 : Bool), v_4 = vB c1 ∧
  br (!c1)
  (Tri Tryz.prog 89 [vP xb1 xo1, vI 1] h_4 fun v_5 h_5 =>
    ∃ (Kind2 : Int) (Text2 : List UInt8) (Value2 : Int) (Bytes2 : List UInt8) (Line2 Column2 : Int), v_5 = vA [vI Kind2, vS Text2, vI Value2, vS Bytes2, vI Line2, vI Column2] ∧
    (([vL none 0 0] : List Value) = ([vL none 0 0] : List Value)) ∧
    ∀ (b1 : Nat), h_5 b1 = none → ∀ (h_6 : PHeap), h_6 = h_5.put b1 (.cells ⟨[vS Text2]⟩ 9) →
    (([vL none 0 0] : List Value) = ([vL none 0 0] : List Value)) ∧
    Raw Tryz.prog (execOp (rho [(22, vL none 0 0), (26, vL (ad b1 0) 1 1)]) (mkO o46_1 51)) h_6 fun v_6 h_7 =>
    ∃ (sa1 : Option Addr) (sn1 sc1 : Nat), v_6 = vL sa1 sn1 sc1 ∧
    ∃ (I_1 : Nat → List UInt8 → Option Addr → Nat → Nat → Option Addr → Nat → Nat → Int → Int → PHeap → Prop), (∃ (m2 : Nat), I_1 m2 Text1 sa1 sn1 sc1 none 0 0 Line1 Column1 h_7) ∧
    ∀ (m1 : Nat) (Name1 : List UInt8) (Paramsa1 : Option Addr) (Paramsn1 : Nat) (Paramsc1 : Nat) (Bodya1 : Option Addr) (Bodyn1 : Nat) (Bodyc1 : Nat) (Line3 : Int) (Column3 : Int) (h_8 : PHeap), I_1 m1 Name1 Paramsa1 Paramsn1 Paramsc1 Bodya1 Bodyn1 Bodyc1 Line3 Column3 h_8 →
    Tri Tryz.prog 90 [vP xb1 xo1, vS [44]] h_8 fun v_7 h_9 =>
    ∃ (c2 : Bool), v_7 = vB c2 ∧
    br c2
    (Tri Tryz.prog 89 [vP xb1 xo1, vI 1] h_9 fun v_8 h_10 =>
      ∃ (Kind3 : Int) (Text3 : List UInt8) (Value3 : Int) (Bytes3 : List UInt8) (Line4 Column4 : Int), v_8 = vA [vI Kind3, vS Text3, vI Value3, vS Bytes3, vI Line4, vI Column4] ∧
      (([vL Paramsa1 Paramsn1 Paramsc1] : List Value) = ([vL Paramsa1 Paramsn1 Paramsc1] : List Value)) ∧
      ∀ (b2 : Nat), h_10 b2 = none → ∀ (h_11 : PHeap), h_11 = h_10.put b2 (.cells ⟨[vS Text3]⟩ 9) →
      (([vL Paramsa1 Paramsn1 Paramsc1] : List Value) = ([vL Paramsa1 Paramsn1 Paramsc1] : List Value)) ∧
      Raw Tryz.prog (execOp (rho [(32, vL Paramsa1 Paramsn1 Paramsc1), (36, vL (ad b2 0) 1 1)]) (mkO o46_2 51)) h_11 fun v_9 h_12 =>
      ∃ (sa2 : Option Addr) (sn2 sc2 : Nat), v_9 = vL sa2 sn2 sc2 ∧
      ∃ (m3 : Nat), m3 < m1 ∧ I_1 m3 Name1 sa2 sn2 sc2 Bodya1 Bodyn1 Bodyc1 Line3 Column3 h_12 ∧
      ([vI Kind1, vS Text1, vI Value1, vS Bytes1, vI Line1, vI Column1] : List Value) = ([vI Kind1, vS Text1, vI Value1, vS Bytes1, vI Line1, vI Column1] : List Value) ∧ ([vS [], vL none 0 0, vL none 0 0, vI 0, vI 0] : List Value) = ([vS [], vL none 0 0, vL none 0 0, vI 0, vI 0] : List Value) ∧ True)
    (Tri Tryz.prog 92 [vP xb1 xo1, vS [41]] h_9 fun v_10 h_13 =>
      v_10 = vT [] ∧
      Tri Tryz.prog 94 [vP xb1 xo1] h_13 fun v_11 h_14 =>
      ∃ (sa3 : Option Addr) (sn3 sc3 : Nat), v_11 = vL sa3 sn3 sc3 ∧
      Q (vA [vS Name1, vL Paramsa1 Paramsn1 Paramsc1, vL sa3 sn3 sc3, vI Line3, vI Column3]) h_14))
  (Tri Tryz.prog 92 [vP xb1 xo1, vS [41]] h_4 fun v_12 h_15 =>
    v_12 = vT [] ∧
    Tri Tryz.prog 94 [vP xb1 xo1] h_15 fun v_13 h_16 =>
    ∃ (sa4 : Option Addr) (sn4 sc4 : Nat), v_13 = vL sa4 sn4 sc4 ∧
    Q (vA [vS Text1, vL none 0 0, vL sa4 sn4 sc4, vI Line1, vI Column1]) h_16)
theorem e46 (xb1 : Nat) (xo1 : Nat) (h : PHeap) (Q : Value → PHeap → Prop) : dnF Tryz.prog Tryz.f46.ntmps d46 [.cell 2 true 5] [vP xb1 xo1] h Q = R46 xb1 xo1 h Q := by kernel_rfl
theorem T46 {xb1 : Nat} {xo1 : Nat} {h : PHeap} {Q : Value → PHeap → Prop} (hR : R46 xb1 xo1 h Q) : Tri Tryz.prog 46 [vP xb1 xo1] h Q :=
  tri_of_dn mixed Tryz.func46 rfl (by kernel_rfl) low46 res46 rfl (Eq.mpr (e46 xb1 xo1 h Q) hR)
/- (*replevin/syntax.parser).fail -/
abbrev o47_0 : Op := .binOp Go.BinOp.eql 27 (Go.Operand.tmp 7) (Go.Operand.const (vI 0)) 27
def d47 : DCode :=
  .seq (.ops [⟨some 4, .base (.mv (.tmp 0)), none⟩,
  ⟨some 5, .base (.nilCheck (.tmp 4)), none⟩,
  ⟨some 6, .base (.fieldAddr 5 (.tmp 5)), none⟩,
  ⟨some 7, .load false [.int .i64] (.tmp 6), none⟩,
  ⟨some 8, .base (.pure o47_0 4), none⟩])
 (.cond (.tmp 8) (.draw [(⟨some 9, .base (.mv (.tmp 0)), none⟩, []),
    (⟨some 10, .base (.mv (.tmp 0)), none⟩, []),
    (⟨some 11, .base (.mv (.tmp 0)), none⟩, []),
    (⟨some 12, .base (.mv (.tmp 0)), none⟩, []),
    (⟨some 13, .base (.nilCheck (.tmp 12)), none⟩, [3]),
    (⟨some 14, .base (.fieldAddr 0 (.tmp 13)), none⟩, [4]),
    (⟨some 15, .load false [.slice] (.tmp 14), none⟩, [5]),
    (⟨some 16, .indexAddr 6 (.tmp 15) (.const (vI 0)), none⟩, [6]),
    (⟨some 17, .base (.fieldAddr 4 (.tmp 16)), none⟩, [7]),
    (⟨some 18, .load false [.int .i64] (.tmp 17), none⟩, [8]),
    (⟨some 19, .base (.mv (.tmp 0)), none⟩, []),
    (⟨some 20, .base (.nilCheck (.tmp 19)), none⟩, [10]),
    (⟨some 21, .base (.fieldAddr 0 (.tmp 20)), none⟩, [11]),
    (⟨some 22, .load false [.slice] (.tmp 21), none⟩, [12]),
    (⟨some 23, .indexAddr 6 (.tmp 22) (.const (vI 0)), none⟩, [13]),
    (⟨some 24, .base (.fieldAddr 5 (.tmp 23)), none⟩, [14]),
    (⟨some 25, .load false [.int .i64] (.tmp 24), none⟩, [15]),
    (⟨some 26, .base (.mv (.tmp 1)), none⟩, []),
    (⟨some 27, .base (.nilCheck (.tmp 9)), none⟩, [0, 0, 3, 4, 5, 6, 7, 8, 9, 13, 16]),
    (⟨some 28, .base (.fieldAddr 3 (.tmp 27)), none⟩, [18, 0, 3, 4, 5, 6, 7, 8, 9, 13, 16]),
    (⟨none, .heap (.store 1 (.tmp 28) (.tmp 18)), none⟩, [19, 9, 0, 3, 4, 5, 6, 7, 8, 9, 13, 16]),
    (⟨some 29, .base (.nilCheck (.tmp 10)), none⟩, [1, 0, 1, 3, 4, 5, 6, 7, 8, 9, 10, 11, 12, 13, 14, 15, 16, 18, 19, 20]),
    (⟨some 30, .base (.fieldAddr 4 (.tmp 29)), none⟩, [21, 0, 1, 3, 4, 5, 6, 7, 8, 9, 10, 11, 12, 13, 14, 15, 16, 18, 19, 20]),
    (⟨none, .heap (.store 1 (.tmp 30) (.tmp 25)), none⟩, [22, 16, 20, 0, 1, 3, 4, 5, 6, 7, 8, 9, 10, 11, 12, 13, 14, 15, 16, 18, 19, 20]),
    (⟨some 31, .base (.nilCheck (.tmp 11)), none⟩, [2, 0, 1, 2, 3, 4, 5, 6, 7, 8, 9, 10, 11, 12, 13, 14, 15, 16, 17, 18, 19, 20, 21, 22, 23]),
    (⟨some 32, .base (.fieldAddr 5 (.tmp 31)), none⟩, [24, 0, 1, 2, 3, 4, 5, 6, 7, 8, 9, 10, 11, 12, 13, 14, 15, 16, 17, 18, 19, 20, 21, 22, 23]),
    (⟨none, .heap (.store 1 (.tmp 32) (.tmp 26)), none⟩, [25, 17, 23, 0, 1, 2, 3, 4, 5, 6, 7, 8, 9, 10, 11, 12, 13, 14, 15, 16, 17, 18, 19, 20, 21, 22, 23])])
 (.skip))
theorem low47 : low Tryz.prog (fun _ => false) (Tryz.f47.body.getD .skip) = some (eC d47) := by kernel_rfl
theorem res47 : lowRes Tryz.prog Tryz.f47.results.toList = some [] := by kernel_rfl
def R47 (xb1 : Nat) (xo1 : Nat) (e_1 : Int) (h : PHeap) (Q : Value → PHeap → Prop) : Prop :=
  ∃ (i1 : Int), h.cell xb1 (xo1 + 5) = some (vI i1) ∧
  br (i1 == 0)
  (∃ (sa1 : Option Addr) (sn1 sc1 : Nat), h.cell xb1 xo1 = some (vL sa1 sn1 sc1) ∧
    ∃ (b1 o1 : Nat), sa1 = some ⟨b1, o1, none⟩ ∧ (0 ≤ (0 : Int) ∧ (0 : Int) < sn1) ∧
    ∃ (i2 : Int), h.cell b1 (o1 + 4) = some (vI i2) ∧
    ∃ (sa2 : Option Addr) (sn2 sc2 : Nat), h.cell xb1 xo1 = some (vL sa2 sn2 sc2) ∧
    ∃ (b2 o2 : Nat), sa2 = some ⟨b2, o2, none⟩ ∧ (0 ≤ (0 : Int) ∧ (0 : Int) < sn2) ∧
    ∃ (i3 : Int), h.cell b2 (o2 + 5) = some (vI i3) ∧
    ∃ (l1 : List Value) (t1 : TypeId) (z1 : Nat × Nat), h xb1 = some (.cells ⟨l1⟩ t1 z1) ∧ ((xo1 + 3) + 1 ≤ l1.length ∧ z1.2 ≤ (xo1 + 3)) ∧
    ∀ (h_1 : PHeap), h_1 = h.put xb1 (.cells ⟨splice l1 (xo1 + 3) [vI i2]⟩ t1 z1) →
    ∃ (l2 : List Value) (t2 : TypeId) (z2 : Nat × Nat), h_1 xb1 = some (.cells ⟨l2⟩ t2 z2) ∧ ((xo1 + 4) + 1 ≤ l2.length ∧ z2.2 ≤ (xo1 + 4)) ∧
    ∀ (h_2 : PHeap), h_2 = h_1.put xb1 (.cells ⟨splice l2 (xo1 + 4) [vI i3]⟩ t2 z2) →
    ∃ (l3 : List Value) (t3 : TypeId) (z3 : Nat × Nat), h_2 xb1 = some (.cells ⟨l3⟩ t3 z3) ∧ ((xo1 + 5) + 1 ≤ l3.length ∧ z3.2 ≤ (xo1 + 5)) ∧
    ∀ (h_3 : PHeap), h_3 = h_2.put xb1 (.cells ⟨splice l3 (xo1 + 5) [vI e_1]⟩ t3 z3) →
    Q (vT []) h_3)
  (Q (vT []) h)
theorem e47 (xb1 : Nat) (xo1 : Nat) (e_1 : Int) (h : PHeap) (Q : Value → PHeap → Prop) : dnF Tryz.prog Tryz.f47.ntmps d47 [] [vP xb1 xo1, vI e_1] h Q = R47 xb1 xo1 e_1 h Q := by kernel_rfl
theorem T47 {xb1 : Nat} {xo1 : Nat} {e_1 : Int} {h : PHeap} {Q : Value → PHeap → Prop} (hR : R47 xb1 xo1 e_1 h Q) : Tri Tryz.prog 47 [vP xb1 xo1, vI e_1] h Q :=
  tri_of_dn mixed Tryz.func47 rfl (by kernel_rfl) low47 res47 rfl (Eq.mpr (e47 xb1 xo1 e_1 h Q) hR)
/- (*replevin/syntax.parser).begin -/
def d88 : DCode :=
  .seq (.ops [⟨some 4, .base (.alloc 56 [vI 0, vS [], vL none 0 0, vL none 0 0, vL none 0 0, vI 0, vI 0] false), none⟩])
 (.seq (.ops [⟨some 6, .base (.mv (.tmp 0)), none⟩,
  ⟨some 7, .call (.func 139) [.tmp 6] (.one true [.int .i64, .str, .int .i64, .str, .int .i64, .int .i64]), none⟩,
  ⟨some 5, .base (.alloc 162 [vI 0, vS [], vI 0, vS [], vI 0, vI 0] false), none⟩,
  ⟨none, .base (.store 6 (.tmp 5) (.tmp 7)), none⟩])
 (.seq (.ops [⟨some 8, .base (.mv (.tmp 1)), none⟩,
  ⟨some 9, .base (.fieldAddr 4 (.tmp 5)), none⟩,
  ⟨some 10, .load false [.int .i64] (.tmp 9), none⟩,
  ⟨some 11, .base (.fieldAddr 5 (.tmp 5)), none⟩,
  ⟨some 12, .load false [.int .i64] (.tmp 11), none⟩,
  ⟨some 13, .base (.build [vI 0, vS [], vL none 0 0, vL none 0 0, vL none 0 0, vI 0, vI 0] [(0, 1, .tmp 8), (5, 1, .tmp 10), (6, 1, .tmp 12)]), none⟩,
  ⟨none, .base (.store 7 (.tmp 4) (.tmp 13)), none⟩])
 (.ret)))
theorem low88 : low Tryz.prog (fun _ => false) (Tryz.f88.body.getD .skip) = some (eC d88) := by kernel_rfl
theorem res88 : lowRes Tryz.prog Tryz.f88.results.toList = some [.cell 4 true 7] := by kernel_rfl
def R88 (xb1 : Nat) (xo1 : Nat) (kind1 : Int) (h : PHeap) (Q : Value → PHeap → Prop) : Prop :=
  Tri Tryz.prog 139 [vP xb1 xo1] h fun v_1 h_1 =>
  ∃ (Kind1 : Int) (Text1 : List UInt8) (Value1 : Int) (Bytes1 : List UInt8) (Line1 Column1 : Int), v_1 = vA [vI Kind1, vS Text1, vI Value1, vS Bytes1, vI Line1, vI Column1] ∧
  Q (vA [vI kind1, vS [], vL none 0 0, vL none 0 0, vL none 0 0, vI Line1, vI Column1]) h_1
theorem e88 (xb1 : Nat) (xo1 : Nat) (kind1 : Int) (h : PHeap) (Q : Value → PHeap → Prop) : dnF Tryz.prog Tryz.f88.ntmps d88 [.cell 4 true 7] [vP xb1 xo1, vI kind1] h Q = R88 xb1 xo1 kind1 h Q := by kernel_rfl
theorem T88 {xb1 : Nat} {xo1 : Nat} {kind1 : Int} {h : PHeap} {Q : Value → PHeap → Prop} (hR : R88 xb1 xo1 kind1 h Q) : Tri Tryz.prog 88 [vP xb1 xo1, vI kind1] h Q :=
  tri_of_dn mixed Tryz.func88 rfl (by kernel_rfl) low88 res88 rfl (Eq.mpr (e88 xb1 xo1 kind1 h Q) hR)
/- (*replevin/syntax.parser).takeKind -/
abbrev o89_0 : Op := .unOp Go.UnOp.not 4 (Go.Operand.tmp 7)
def d89 : DCode :=
  .seq (.ops [⟨some 4, .base (.alloc 162 [vI 0, vS [], vI 0, vS [], vI 0, vI 0] false), none⟩])
 (.seq (.seq (.ops [⟨some 5, .base (.mv (.tmp 0)), none⟩,
  ⟨some 6, .base (.mv (.tmp 1)), none⟩,
  ⟨some 7, .call (.func 43) [.tmp 5, .tmp 6] (.one false [.bool]), none⟩,
  ⟨some 8, .base (.pure o89_0 4), none⟩])
 (.cond (.tmp 8) (.seq (.ops [⟨some 9, .base (.mv (.tmp 0)), none⟩,
    ⟨some 10, .call (.func 47) [.tmp 9, .const (vI 30)] (.tup []), none⟩])
   (.seq (.ops [⟨some 11, .base (.build [vI 0, vS [], vI 0, vS [], vI 0, vI 0] []), none⟩,
    ⟨none, .base (.store 6 (.tmp 4) (.tmp 11)), none⟩])
   (.ret)))
 (.skip)))
 (.seq (.ops [⟨some 12, .base (.mv (.tmp 0)), none⟩,
  ⟨some 13, .call (.func 139) [.tmp 12] (.one true [.int .i64, .str, .int .i64, .str, .int .i64, .int .i64]), none⟩,
  ⟨none, .base (.store 6 (.tmp 4) (.tmp 13)), none⟩])
 (.ret)))
theorem low89 : low Tryz.prog (fun _ => false) (Tryz.f89.body.getD .skip) = some (eC d89) := by kernel_rfl
theorem res89 : lowRes Tryz.prog Tryz.f89.results.toList = some [.cell 4 true 6] := by kernel_rfl
def R89 (xb1 : Nat) (xo1 : Nat) (kind1 : Int) (h : PHeap) (Q : Value → PHeap → Prop) : Prop :=
  Tri Tryz.prog 43 [vP xb1 xo1, vI kind1] h fun v_1 h_1 =>
  ∃ (c1 : Bool), v_1 = vB c1 ∧
  br (!c1)
  (Tri Tryz.prog 47 [vP xb1 xo1, vI 30] h_1 fun v_2 h_2 =>
    v_2 = vT [] ∧
    Q (vA [vI 0, vS [], vI 0, vS [], vI 0, vI 0]) h_2)
  (Tri Tryz.prog 139 [vP xb1 xo1] h_1 fun v_3 h_3 =>
    ∃ (Kind1 : Int) (Text1 : List UInt8) (Value1 : Int) (Bytes1 : List UInt8) (Line1 Column1 : Int), v_3 = vA [vI Kind1, vS Text1, vI Value1, vS Bytes1, vI Line1, vI Column1] ∧
    Q (vA [vI Kind1, vS Text1, vI Value1, vS Bytes1, vI Line1, vI Column1]) h_3)
theorem e89 (xb1 : Nat) (xo1 : Nat) (kind1 : Int) (h : PHeap) (Q : Value → PHeap → Prop) : dnF Tryz.prog Tryz.f89.ntmps d89 [.cell 4 true 6] [vP xb1 xo1, vI kind1] h Q = R89 xb1 xo1 kind1 h Q := by kernel_rfl
theorem T89 {xb1 : Nat} {xo1 : Nat} {kind1 : Int} {h : PHeap} {Q : Value → PHeap → Prop} (hR : R89 xb1 xo1 kind1 h Q) : Tri Tryz.prog 89 [vP xb1 xo1, vI kind1] h Q :=
  tri_of_dn mixed Tryz.func89 rfl (by kernel_rfl) low89 res89 rfl (Eq.mpr (e89 xb1 xo1 kind1 h Q) hR)
/- (*replevin/syntax.parser).accept -/
abbrev o90_0 : Op := .unOp Go.UnOp.not 4 (Go.Operand.tmp 7)
abbrev o90_1 : Op := .binOp Go.BinOp.eql 3 (Go.Operand.tmp 17) (Go.Operand.const (vI 32)) 3
abbrev o90_2 : Op := .binOp Go.BinOp.add 3 (Go.Operand.tmp 24) (Go.Operand.const (vI 1)) 3
abbrev o90_3 : Op := .binOp Go.BinOp.sub 3 (Go.Operand.tmp 35) (Go.Operand.const (vI 1)) 3
def d90 : DCode :=
  .seq (.ops [⟨some 4, .base (.mv (.const (vB false))), none⟩])
 (.seq (.seq (.ops [⟨some 5, .base (.mv (.tmp 0)), none⟩,
  ⟨some 6, .base (.mv (.tmp 1)), none⟩,
  ⟨some 7, .call (.func 44) [.tmp 5, .tmp 6] (.one false [.bool]), none⟩,
  ⟨some 8, .base (.pure o90_0 4), none⟩])
 (.cond (.tmp 8) (.seq (.ops [⟨some 4, .base (.mv (.const (vB false))), none⟩])
   (.ret))
 (.skip)))
 (.seq (.seq (.ops [⟨some 9, .base (.mv (.tmp 1)), none⟩])
 (.block 0 (.seq (.seq (.ops [⟨some 11, .base (.eqS false (.tmp 9) (.const (vS [40]))), none⟩,
    ⟨some 10, .base (.mv (.tmp 11)), none⟩])
   (.cond (.tmp 10) (.skip)
   (.seq (.ops [⟨some 12, .base (.eqS false (.tmp 9) (.const (vS [91]))), none⟩,
      ⟨some 10, .base (.mv (.tmp 12)), none⟩])
     (.cond (.tmp 10) (.skip)
     (.ops [⟨some 13, .base (.eqS false (.tmp 9) (.const (vS [123]))), none⟩,
        ⟨some 10, .base (.mv (.tmp 13)), none⟩])))))
   (.cond (.tmp 10) (.seq (.seq (.ops [⟨some 14, .base (.mv (.tmp 0)), none⟩,
      ⟨some 15, .base (.nilCheck (.tmp 14)), none⟩,
      ⟨some 16, .base (.fieldAddr 1 (.tmp 15)), none⟩,
      ⟨some 17, .load false [.int .i64] (.tmp 16), none⟩,
      ⟨some 18, .base (.pure o90_1 4), none⟩])
     (.cond (.tmp 18) (.seq (.ops [⟨some 19, .base (.mv (.tmp 0)), none⟩,
        ⟨some 20, .call (.func 47) [.tmp 19, .const (vI 9)] (.tup []), none⟩])
       (.seq (.ops [⟨some 4, .base (.mv (.const (vB false))), none⟩])
       (.ret)))
     (.skip)))
     (.ops [⟨some 21, .base (.mv (.tmp 0)), none⟩,
      ⟨some 22, .base (.nilCheck (.tmp 21)), none⟩,
      ⟨some 23, .base (.fieldAddr 1 (.tmp 22)), none⟩,
      ⟨some 24, .load false [.int .i64] (.tmp 23), none⟩,
      ⟨some 25, .base (.pure o90_2 3), none⟩,
      ⟨some 26, .base (.nilCheck (.tmp 21)), none⟩,
      ⟨some 27, .base (.fieldAddr 1 (.tmp 26)), none⟩,
      ⟨none, .heap (.store 1 (.tmp 27) (.tmp 25)), none⟩]))
   (.seq (.seq (.ops [⟨some 29, .base (.eqS false (.tmp 9) (.const (vS [41]))), none⟩,
      ⟨some 28, .base (.mv (.tmp 29)), none⟩])
     (.cond (.tmp 28) (.skip)
     (.seq (.ops [⟨some 30, .base (.eqS false (.tmp 9) (.const (vS [93]))), none⟩,
        ⟨some 28, .base (.mv (.tmp 30)), none⟩])
       (.cond (.tmp 28) (.skip)
       (.ops [⟨some 31, .base (.eqS false (.tmp 9) (.const (vS [125]))), none⟩,
          ⟨some 28, .base (.mv (.tmp 31)), none⟩])))))
     (.cond (.tmp 28) (.ops [⟨some 32, .base (.mv (.tmp 0)), none⟩,
        ⟨some 33, .base (.nilCheck (.tmp 32)), none⟩,
        ⟨some 34, .base (.fieldAddr 1 (.tmp 33)), none⟩,
        ⟨some 35, .load false [.int .i64] (.tmp 34), none⟩,
        ⟨some 36, .base (.pure o90_3 3), none⟩,
        ⟨some 37, .base (.nilCheck (.tmp 32)), none⟩,
        ⟨some 38, .base (.fieldAddr 1 (.tmp 37)), none⟩,
        ⟨none, .heap (.store 1 (.tmp 38) (.tmp 36)), none⟩])
     (.skip)))))))
 (.seq (.ops [⟨some 39, .base (.mv (.tmp 0)), none⟩,
  ⟨some 40, .call (.func 139) [.tmp 39] (.one true [.int .i64, .str, .int .i64, .str, .int .i64, .int .i64]), none⟩])
 (.seq (.ops [⟨some 4, .base (.mv (.const (vB true))), none⟩])
 (.ret)))))
theorem low90 : low Tryz.prog (fun _ => false) (Tryz.f90.body.getD .skip) = some (eC d90) := by kernel_rfl
theorem res90 : lowRes Tryz.prog Tryz.f90.results.toList = some [.tmp 4] := by kernel_rfl
def R90 (xb1 : Nat) (xo1 : Nat) (text1 : List UInt8) (h : PHeap) (Q : Value → PHeap → Prop) : Prop :=
  Tri Tryz.prog 44 [vP xb1 xo1, vS text1] h fun v_1 h_1 =>
  ∃ (c1 : Bool), v_1 = vB c1 ∧
  br (!c1)
  (Q (vB false) h_1)
  (br (text1 == [40])
    (∃ (i1 : Int), h_1.cell xb1 (xo1 + 1) = some (vI i1) ∧
      br (i1 == 32)
      (Tri Tryz.prog 47 [vP xb1 xo1, vI 9] h_1 fun v_2 h_2 =>
        v_2 = vT [] ∧
        Q (vB false) h_2)
      (∃ (i2 : Int), h_1.cell xb1 (xo1 + 1) = some (vI i2) ∧
        ∃ (l1 : List Value) (t1 : TypeId) (z1 : Nat × Nat), h_1 xb1 = some (.cells ⟨l1⟩ t1 z1) ∧ ((xo1 + 1) + 1 ≤ l1.length ∧ z1.2 ≤ (xo1 + 1)) ∧
        ∀ (h_3 : PHeap), h_3 = h_1.put xb1 (.cells ⟨splice l1 (xo1 + 1) [vI (IntKind.i64.wrap (i2 + 1))]⟩ t1 z1) →
        Tri Tryz.prog 139 [vP xb1 xo1] h_3 fun v_3 h_4 =>
        ∃ (Kind1 : Int) (Text1 : List UInt8) (Value1 : Int) (Bytes1 : List UInt8) (Line1 Column1 : Int), v_3 = vA [vI Kind1, vS Text1, vI Value1, vS Bytes1, vI Line1, vI Column1] ∧
        Q (vB true) h_4))
    (br (text1 == [91])
      (∃ (i3 : Int), h_1.cell xb1 (xo1 + 1) = some (vI i3) ∧
        br (i3 == 32)
        (Tri Tryz.prog 47 [vP xb1 xo1, vI 9] h_1 fun v_4 h_5 =>
          v_4 = vT [] ∧
          Q (vB false) h_5)
        (∃ (i4 : Int), h_1.cell xb1 (xo1 + 1) = some (vI i4) ∧
          ∃ (l2 : List Value) (t2 : TypeId) (z2 : Nat × Nat), h_1 xb1 = some (.cells ⟨l2⟩ t2 z2) ∧ ((xo1 + 1) + 1 ≤ l2.length ∧ z2.2 ≤ (xo1 + 1)) ∧
          ∀ (h_6 : PHeap), h_6 = h_1.put xb1 (.cells ⟨splice l2 (xo1 + 1) [vI (IntKind.i64.wrap (i4 + 1))]⟩ t2 z2) →
          Tri Tryz.prog 139 [vP xb1 xo1] h_6 fun v_5 h_7 =>
          ∃ (Kind2 : Int) (Text2 : List UInt8) (Value2 : Int) (Bytes2 : List UInt8) (Line2 Column2 : Int), v_5 = vA [vI Kind2, vS Text2, vI Value2, vS Bytes2, vI Line2, vI Column2] ∧
          Q (vB true) h_7))
      (br (text1 == [123])
        (∃ (i5 : Int), h_1.cell xb1 (xo1 + 1) = some (vI i5) ∧
          br (i5 == 32)
          (Tri Tryz.prog 47 [vP xb1 xo1, vI 9] h_1 fun v_6 h_8 =>
            v_6 = vT [] ∧
            Q (vB false) h_8)
          (∃ (i6 : Int), h_1.cell xb1 (xo1 + 1) = some (vI i6) ∧
            ∃ (l3 : List Value) (t3 : TypeId) (z3 : Nat × Nat), h_1 xb1 = some (.cells ⟨l3⟩ t3 z3) ∧ ((xo1 + 1) + 1 ≤ l3.length ∧ z3.2 ≤ (xo1 + 1)) ∧
            ∀ (h_9 : PHeap), h_9 = h_1.put xb1 (.cells ⟨splice l3 (xo1 + 1) [vI (IntKind.i64.wrap (i6 + 1))]⟩ t3 z3) →
            Tri Tryz.prog 139 [vP xb1 xo1] h_9 fun v_7 h_10 =>
            ∃ (Kind3 : Int) (Text3 : List UInt8) (Value3 : Int) (Bytes3 : List UInt8) (Line3 Column3 : Int), v_7 = vA [vI Kind3, vS Text3, vI Value3, vS Bytes3, vI Line3, vI Column3] ∧
            Q (vB true) h_10))
        (br (text1 == [41])
          (∃ (i7 : Int), h_1.cell xb1 (xo1 + 1) = some (vI i7) ∧
            ∃ (l4 : List Value) (t4 : TypeId) (z4 : Nat × Nat), h_1 xb1 = some (.cells ⟨l4⟩ t4 z4) ∧ ((xo1 + 1) + 1 ≤ l4.length ∧ z4.2 ≤ (xo1 + 1)) ∧
            ∀ (h_11 : PHeap), h_11 = h_1.put xb1 (.cells ⟨splice l4 (xo1 + 1) [vI (IntKind.i64.wrap (i7 - 1))]⟩ t4 z4) →
            Tri Tryz.prog 139 [vP xb1 xo1] h_11 fun v_8 h_12 =>
            ∃ (Kind4 : Int) (Text4 : List UInt8) (Value4 : Int) (Bytes4 : List UInt8) (Line4 Column4 : Int), v_8 = vA [vI Kind4, vS Text4, vI Value4, vS Bytes4, vI Line4, vI Column4] ∧
            Q (vB true) h_12)
          (br (text1 == [93])
            (∃ (i8 : Int), h_1.cell xb1 (xo1 + 1) = some (vI i8) ∧
              ∃ (l5 : List Value) (t5 : TypeId) (z5 : Nat × Nat), h_1 xb1 = some (.cells ⟨l5⟩ t5 z5) ∧ ((xo1 + 1) + 1 ≤ l5.length ∧ z5.2 ≤ (xo1 + 1)) ∧
              ∀ (h_13 : PHeap), h_13 = h_1.put xb1 (.cells ⟨splice l5 (xo1 + 1) [vI (IntKind.i64.wrap (i8 - 1))]⟩ t5 z5) →
              Tri Tryz.prog 139 [vP xb1 xo1] h_13 fun v_9 h_14 =>
              ∃ (Kind5 : Int) (Text5 : List UInt8) (Value5 : Int) (Bytes5 : List UInt8) (Line5 Column5 : Int), v_9 = vA [vI Kind5, vS Text5, vI Value5, vS Bytes5, vI Line5, vI Column5] ∧
              Q (vB true) h_14)
            (br (text1 == [125])
              (∃ (i9 : Int), h_1.cell xb1 (xo1 + 1) = some (vI i9) ∧
                ∃ (l6 : List Value) (t6 : TypeId) (z6 : Nat × Nat), h_1 xb1 = some (.cells ⟨l6⟩ t6 z6) ∧ ((xo1 + 1) + 1 ≤ l6.length ∧ z6.2 ≤ (xo1 + 1)) ∧
                ∀ (h_15 : PHeap), h_15 = h_1.put xb1 (.cells ⟨splice l6 (xo1 + 1) [vI (IntKind.i64.wrap (i9 - 1))]⟩ t6 z6) →
                Tri Tryz.prog 139 [vP xb1 xo1] h_15 fun v_10 h_16 =>
                ∃ (Kind6 : Int) (Text6 : List UInt8) (Value6 : Int) (Bytes6 : List UInt8) (Line6 Column6 : Int), v_10 = vA [vI Kind6, vS Text6, vI Value6, vS Bytes6, vI Line6, vI Column6] ∧
                Q (vB true) h_16)
              (Tri Tryz.prog 139 [vP xb1 xo1] h_1 fun v_11 h_17 =>
                ∃ (Kind7 : Int) (Text7 : List UInt8) (Value7 : Int) (Bytes7 : List UInt8) (Line7 Column7 : Int), v_11 = vA [vI Kind7, vS Text7, vI Value7, vS Bytes7, vI Line7, vI Column7] ∧
                Q (vB true) h_17)))))))
theorem e90 (xb1 : Nat) (xo1 : Nat) (text1 : List UInt8) (h : PHeap) (Q : Value → PHeap → Prop) : dnF Tryz.prog Tryz.f90.ntmps d90 [.tmp 4] [vP xb1 xo1, vS text1] h Q = R90 xb1 xo1 text1 h Q := by kernel_rfl
theorem T90 {xb1 : Nat} {xo1 : Nat} {text1 : List UInt8} {h : PHeap} {Q : Value → PHeap → Prop} (hR : R90 xb1 xo1 text1 h Q) : Tri Tryz.prog 90 [vP xb1 xo1, vS text1] h Q :=
  tri_of_dn mixed Tryz.func90 rfl (by kernel_rfl) low90 res90 rfl (Eq.mpr (e90 xb1 xo1 text1 h Q) hR)
/- (*replevin/syntax.parser).expr -/
def d91 : DCode :=
  .seq (.ops [⟨some 2, .base (.alloc 48 [vI 0, vS [], vS [], vI 0, vS [], vL none 0 0, vI 0, vI 0] false), none⟩])
 (.seq (.ops [⟨some 3, .base (.mv (.tmp 0)), none⟩,
  ⟨some 4, .call (.func 140) [.tmp 3, .const (vI 1)] (.one true [.int .i64, .str, .str, .int .i64, .str, .slice, .int .i64, .int .i64]), none⟩,
  ⟨none, .base (.store 8 (.tmp 2) (.tmp 4)), none⟩])
 (.ret))
theorem low91 : low Tryz.prog (fun _ => false) (Tryz.f91.body.getD .skip) = some (eC d91) := by kernel_rfl
theorem res91 : lowRes Tryz.prog Tryz.f91.results.toList = some [.cell 2 true 8] := by kernel_rfl
def R91 (xb1 : Nat) (xo1 : Nat) (h : PHeap) (Q : Value → PHeap → Prop) : Prop :=
  Tri Tryz.prog 140 [vP xb1 xo1, vI 1] h fun v_1 h_1 =>
  ∃ (Kind1 : Int) (Op1 Name1 : List UInt8) (Value1 : Int) (Text1 : List UInt8) (Argsa1 : Option Addr) (Argsn1 Argsc1 : Nat) (Line1 Column1 : Int), v_1 = vA [vI Kind1, vS Op1, vS Name1, vI Value1, vS Text1, vL Argsa1 Argsn1 Argsc1, vI Line1, vI Column1] ∧
  Q (vA [vI Kind1, vS Op1, vS Name1, vI Value1, vS Text1, vL Argsa1 Argsn1 Argsc1, vI Line1, vI Column1]) h_1
theorem e91 (xb1 : Nat) (xo1 : Nat) (h : PHeap) (Q : Value → PHeap → Prop) : dnF Tryz.prog Tryz.f91.ntmps d91 [.cell 2 true 8] [vP xb1 xo1] h Q = R91 xb1 xo1 h Q := by kernel_rfl
theorem T91 {xb1 : Nat} {xo1 : Nat} {h : PHeap} {Q : Value → PHeap → Prop} (hR : R91 xb1 xo1 h Q) : Tri Tryz.prog 91 [vP xb1 xo1] h Q :=
  tri_of_dn mixed Tryz.func91 rfl (by kernel_rfl) low91 res91 rfl (Eq.mpr (e91 xb1 xo1 h Q) hR)
/- (*replevin/syntax.parser).take -/
abbrev o92_0 : Op := .unOp Go.UnOp.not 4 (Go.Operand.tmp 6)
def d92 : DCode :=
  .seq (.ops [⟨some 4, .base (.mv (.tmp 0)), none⟩,
  ⟨some 5, .base (.mv (.tmp 1)), none⟩,
  ⟨some 6, .call (.func 90) [.tmp 4, .tmp 5] (.one false [.bool]), none⟩,
  ⟨some 7, .base (.pure o92_0 4), none⟩])
 (.cond (.tmp 7) (.ops [⟨some 8, .base (.mv (.tmp 0)), none⟩,
    ⟨some 9, .call (.func 47) [.tmp 8, .const (vI 30)] (.tup []), none⟩])
 (.skip))
theorem low92 : low Tryz.prog (fun _ => false) (Tryz.f92.body.getD .skip) = some (eC d92) := by kernel_rfl
theorem res92 : lowRes Tryz.prog Tryz.f92.results.toList = some [] := by kernel_rfl
def R92 (xb1 : Nat) (xo1 : Nat) (text1 : List UInt8) (h : PHeap) (Q : Value → PHeap → Prop) : Prop :=
  Tri Tryz.prog 90 [vP xb1 xo1, vS text1] h fun v_1 h_1 =>
  ∃ (c1 : Bool), v_1 = vB c1 ∧
  br (!c1)
  (Tri Tryz.prog 47 [vP xb1 xo1, vI 30] h_1 fun v_2 h_2 =>
    v_2 = vT [] ∧
    Q (vT []) h_2)
  (Q (vT []) h_1)
theorem e92 (xb1 : Nat) (xo1 : Nat) (text1 : List UInt8) (h : PHeap) (Q : Value → PHeap → Prop) : dnF Tryz.prog Tryz.f92.ntmps d92 [] [vP xb1 xo1, vS text1] h Q = R92 xb1 xo1 text1 h Q := by kernel_rfl
theorem T92 {xb1 : Nat} {xo1 : Nat} {text1 : List UInt8} {h : PHeap} {Q : Value → PHeap → Prop} (hR : R92 xb1 xo1 text1 h Q) : Tri Tryz.prog 92 [vP xb1 xo1, vS text1] h Q :=
  tri_of_dn mixed Tryz.func92 rfl (by kernel_rfl) low92 res92 rfl (Eq.mpr (e92 xb1 xo1 text1 h Q) hR)
/- (*replevin/syntax.parser).condition -/
def d93 : DCode :=
  .seq (.ops [⟨some 2, .base (.mv (.const (vL none 0 0))), none⟩])
 (.seq (.ops [⟨some 4, .base (.mv (.tmp 0)), none⟩,
  ⟨some 5, .call (.func 92) [.tmp 4, .const (vS [40])] (.tup []), none⟩])
 (.seq (.ops [⟨some 6, .base (.mv (.tmp 0)), none⟩,
  ⟨some 7, .call (.func 91) [.tmp 6] (.one true [.int .i64, .str, .str, .int .i64, .str, .slice, .int .i64, .int .i64]), none⟩,
  ⟨some 3, .base (.alloc 48 [vI 0, vS [], vS [], vI 0, vS [], vL none 0 0, vI 0, vI 0] false), none⟩,
  ⟨none, .base (.store 8 (.tmp 3) (.tmp 7)), none⟩])
 (.seq (.ops [⟨some 8, .base (.mv (.tmp 0)), none⟩,
  ⟨some 9, .call (.func 92) [.tmp 8, .const (vS [41])] (.tup []), none⟩])
 (.seq (.ops [⟨some 10, .load true [.int .i64, .str, .str, .int .i64, .str, .slice, .int .i64, .int .i64] (.tmp 3), none⟩,
  ⟨some 11, .heap (.buildSlice 48 1 [vI 0, vS [], vS [], vI 0, vS [], vL none 0 0, vI 0, vI 0] [(0, 8, .tmp 10)]), none⟩,
  ⟨some 2, .base (.mv (.tmp 11)), none⟩])
 (.ret)))))
theorem low93 : low Tryz.prog (fun _ => false) (Tryz.f93.body.getD .skip) = some (eC d93) := by kernel_rfl
theorem res93 : lowRes Tryz.prog Tryz.f93.results.toList = some [.tmp 2] := by kernel_rfl
def R93 (xb1 : Nat) (xo1 : Nat) (h : PHeap) (Q : Value → PHeap → Prop) : Prop :=
  Tri Tryz.prog 92 [vP xb1 xo1, vS [40]] h fun v_1 h_1 =>
  v_1 = vT [] ∧
  Tri Tryz.prog 91 [vP xb1 xo1] h_1 fun v_2 h_2 =>
  ∃ (Kind1 : Int) (Op1 Name1 : List UInt8) (Value1 : Int) (Text1 : List UInt8) (Argsa1 : Option Addr) (Argsn1 Argsc1 : Nat) (Line1 Column1 : Int), v_2 = vA [vI Kind1, vS Op1, vS Name1, vI Value1, vS Text1, vL Argsa1 Argsn1 Argsc1, vI Line1, vI Column1] ∧
  Tri Tryz.prog 92 [vP xb1 xo1, vS [41]] h_2 fun v_3 h_3 =>
  v_3 = vT [] ∧
  ∀ (b1 : Nat), h_3 b1 = none → ∀ (h_4 : PHeap), h_4 = h_3.put b1 (.cells ⟨[vI Kind1, vS Op1, vS Name1, vI Value1, vS Text1, vL Argsa1 Argsn1 Argsc1, vI Line1, vI Column1]⟩ 48) →
  Q (vL (ad b1 0) 1 1) h_4
theorem e93 (xb1 : Nat) (xo1 : Nat) (h : PHeap) (Q : Value → PHeap → Prop) : dnF Tryz.prog Tryz.f93.ntmps d93 [.tmp 2] [vP xb1 xo1] h Q = R93 xb1 xo1 h Q := by kernel_rfl
theorem T93 {xb1 : Nat} {xo1 : Nat} {h : PHeap} {Q : Value → PHeap → Prop} (hR : R93 xb1 xo1 h Q) : Tri Tryz.prog 93 [vP xb1 xo1] h Q :=
  tri_of_dn mixed Tryz.func93 rfl (by kernel_rfl) low93 res93 rfl (Eq.mpr (e93 xb1 xo1 h Q) hR)
/- (*replevin/syntax.parser).block -/
abbrev o94_0 : Op := .binOp Go.BinOp.eql 27 (Go.Operand.tmp 9) (Go.Operand.const (vI 0)) 27
abbrev o94_1 : Op := .unOp Go.UnOp.not 4 (Go.Operand.tmp 13)
abbrev o94_2 : Op := .call { callee := (Go.Callee.builtin Go.Builtin.append), args := #[(Go.Operand.tmp 16), (Go.Operand.tmp 19)], argTypes := #[52, 52] }
def d94 : DCode :=
  .seq (.ops [⟨some 2, .base (.mv (.const (vL none 0 0))), none⟩])
 (.seq (.ops [⟨some 3, .base (.mv (.const (vL none 0 0))), none⟩])
 (.seq (.ops [⟨some 4, .base (.mv (.tmp 0)), none⟩,
  ⟨some 5, .call (.func 92) [.tmp 4, .const (vS [123])] (.tup []), none⟩])
 (.seq (.block 0 (.loop [6, 7, 8, 9, 10, 11, 12, 13, 14, 15, 16, 17, 18, 19, 20, 3] [(3, .slice)] [] (.seq (.seq (.ops [⟨some 6, .base (.mv (.tmp 0)), none⟩,
      ⟨some 7, .base (.nilCheck (.tmp 6)), none⟩,
      ⟨some 8, .base (.fieldAddr 5 (.tmp 7)), none⟩,
      ⟨some 9, .load false [.int .i64] (.tmp 8), none⟩,
      ⟨some 10, .base (.pure o94_0 4), none⟩,
      ⟨some 11, .base (.mv (.tmp 10)), none⟩,
      ⟨some 12, .base (.mv (.tmp 0)), some (11, true)⟩,
      ⟨some 13, .call (.func 44) [.tmp 12, .const (vS [125])] (.one false [.bool]), some (11, true)⟩,
      ⟨some 14, .base (.pure o94_1 4), some (11, true)⟩,
      ⟨some 15, .base (.pick (.tmp 11) (.tmp 14) (.const (vB false))), none⟩])
     (.cond (.tmp 15) (.skip)
     (.exit 0)))
     (.block 1 (.ops [⟨some 16, .base (.mv (.tmp 3)), none⟩,
        ⟨some 17, .base (.mv (.tmp 0)), none⟩,
        ⟨some 18, .call (.func 141) [.tmp 17] (.one true [.int .i64, .str, .slice, .slice, .slice, .int .i64, .int .i64]), none⟩,
        ⟨some 19, .heap (.buildSlice 56 1 [vI 0, vS [], vL none 0 0, vL none 0 0, vL none 0 0, vI 0, vI 0] [(0, 7, .tmp 18)]), none⟩,
        ⟨some 20, .raw o94_2 52 (.one false [.slice]), none⟩,
        ⟨some 3, .base (.mv (.tmp 20)), none⟩])))))
 (.seq (.ops [⟨some 21, .base (.mv (.tmp 0)), none⟩,
  ⟨some 22, .call (.func 92) [.tmp 21, .const (vS [125])] (.tup []), none⟩])
 (.seq (.ops [⟨some 23, .base (.mv (.tmp 3)), none⟩,
  ⟨some 2, .base (.mv (.tmp 23)), none⟩])
 (.ret))))))
theorem low94 : low Tryz.prog (fun _ => false) (Tryz.f94.body.getD .skip) = some (eC d94) := by kernel_rfl
theorem res94 : lowRes Tryz.prog Tryz.f94.results.toList = some [.tmp 2] := by kernel_rfl
def R94 (xb1 : Nat) (xo1 : Nat) (h : PHeap) (Q : Value → PHeap → Prop) : Prop :=
  Tri Tryz.prog 92 [vP xb1 xo1, vS [123]] h fun v_1 h_1 =>
  v_1 = vT [] ∧
  ∃ (I_1 : Nat → Option Addr → Nat → Nat → PHeap → Prop), (∃ (m2 : Nat), I_1 m2 none 0 0 h_1) ∧
  ∀ (m1 : Nat) (la1 : Option Addr) (ln1 : Nat) (lc1 : Nat) (h_2 : PHeap), I_1 m1 la1 ln1 lc1 h_2 →
  ∃ (i1 : Int), h_2.cell xb1 (xo1 + 5) = some (vI i1) ∧
  br (i1 == 0)
  (Tri Tryz.prog 44 [vP xb1 xo1, vS [125]] h_2 fun v_2 h_3 =>
    ∃ (c1 : Bool), v_2 = vB c1 ∧
    br (!c1)
    (Tri Tryz.prog 141 [vP xb1 xo1] h_3 fun v_3 h_4 =>
      ∃ (Kind1 : Int) (Name1 : List UInt8) (Argsa1 : Option Addr) (Argsn1 Argsc1 : Nat) (Bodya1 : Option Addr) (Bodyn1 Bodyc1 : Nat) (Elsea1 : Option Addr) (Elsen1 Elsec1 : Nat) (Line1 Column1 : Int), v_3 = vA [vI Kind1, vS Name1, vL Argsa1 Argsn1 Argsc1, vL Bodya1 Bodyn1 Bodyc1, vL Elsea1 Elsen1 Elsec1, vI Line1, vI Column1] ∧
      ∀ (b1 : Nat), h_4 b1 = none → ∀ (h_5 : PHeap), h_5 = h_4.put b1 (.cells ⟨[vI Kind1, vS Name1, vL Argsa1 Argsn1 Argsc1, vL Bodya1 Bodyn1 Bodyc1, vL Elsea1 Elsen1 Elsec1, vI Line1, vI Column1]⟩ 56) →
      Raw Tryz.prog (execOp (rho [(16, vL la1 ln1 lc1), (19, vL (ad b1 0) 1 1)]) (mkO o94_2 52)) h_5 fun v_4 h_6 =>
      ∃ (sa1 : Option Addr) (sn1 sc1 : Nat), v_4 = vL sa1 sn1 sc1 ∧
      ∃ (m3 : Nat), m3 < m1 ∧ I_1 m3 sa1 sn1 sc1 h_6 ∧
      True)
    (Tri Tryz.prog 92 [vP xb1 xo1, vS [125]] h_3 fun v_5 h_7 =>
      v_5 = vT [] ∧
      Q (vL la1 ln1 lc1) h_7))
  (Tri Tryz.prog 92 [vP xb1 xo1, vS [125]] h_2 fun v_6 h_8 =>
    v_6 = vT [] ∧
    Q (vL la1 ln1 lc1) h_8)
theorem e94 (xb1 : Nat) (xo1 : Nat) (h : PHeap) (Q : Value → PHeap → Prop) : dnF Tryz.prog Tryz.f94.ntmps d94 [.tmp 2] [vP xb1 xo1] h Q = R94 xb1 xo1 h Q := by kernel_rfl
theorem T94 {xb1 : Nat} {xo1 : Nat} {h : PHeap} {Q : Value → PHeap → Prop} (hR : R94 xb1 xo1 h Q) : Tri Tryz.prog 94 [vP xb1 xo1] h Q :=
  tri_of_dn mixed Tryz.func94 rfl (by kernel_rfl) low94 res94 rfl (Eq.mpr (e94 xb1 xo1 h Q) hR)
/- (*replevin/syntax.parser).advance -/
def d139 : DCode :=
  .seq (.ops [⟨some 2, .base (.alloc 162 [vI 0, vS [], vI 0, vS [], vI 0, vI 0] false), none⟩])
 (.seq (.ops [⟨some 4, .base (.mv (.tmp 0)), none⟩,
  ⟨some 5, .base (.nilCheck (.tmp 4)), none⟩,
  ⟨some 6, .base (.fieldAddr 0 (.tmp 5)), none⟩,
  ⟨some 7, .load false [.slice] (.tmp 6), none⟩,
  ⟨some 8, .indexAddr 6 (.tmp 7) (.const (vI 0)), none⟩,
  ⟨some 9, .load true [.int .i64, .str, .int .i64, .str, .int .i64, .int .i64] (.tmp 8), none⟩,
  ⟨some 3, .base (.alloc 162 [vI 0, vS [], vI 0, vS [], vI 0, vI 0] false), none⟩,
  ⟨none, .base (.store 6 (.tmp 3) (.tmp 9)), none⟩])
 (.seq (.ops [⟨some 10, .base (.mv (.tmp 0)), none⟩,
  ⟨some 11, .base (.mv (.tmp 0)), none⟩,
  ⟨some 12, .base (.nilCheck (.tmp 11)), none⟩,
  ⟨some 13, .base (.fieldAddr 0 (.tmp 12)), none⟩,
  ⟨some 14, .load false [.slice] (.tmp 13), none⟩,
  ⟨some 15, .sliceL 6 (.tmp 14) (some (.const (vI 1))) none, none⟩,
  ⟨some 16, .base (.nilCheck (.tmp 10)), none⟩,
  ⟨some 17, .base (.fieldAddr 0 (.tmp 16)), none⟩,
  ⟨none, .heap (.store 1 (.tmp 17) (.tmp 15)), none⟩])
 (.seq (.ops [⟨some 18, .load true [.int .i64, .str, .int .i64, .str, .int .i64, .int .i64] (.tmp 3), none⟩,
  ⟨none, .base (.store 6 (.tmp 2) (.tmp 18)), none⟩])
 (.ret))))
theorem low139 : low Tryz.prog (fun _ => false) (Tryz.f139.body.getD .skip) = some (eC d139) := by kernel_rfl
theorem res139 : lowRes Tryz.prog Tryz.f139.results.toList = some [.cell 2 true 6] := by kernel_rfl
def R139 (xb1 : Nat) (xo1 : Nat) (h : PHeap) (Q : Value → PHeap → Prop) : Prop :=
  ∃ (sa1 : Option Addr) (sn1 sc1 : Nat), h.cell xb1 xo1 = some (vL sa1 sn1 sc1) ∧
  ∃ (b1 o1 : Nat), sa1 = some ⟨b1, o1, none⟩ ∧ (0 ≤ (0 : Int) ∧ (0 : Int) < sn1) ∧
  ∃ (Kind1 : Int) (Text1 : List UInt8) (Value1 : Int) (Bytes1 : List UInt8) (Line1 Column1 : Int), h.row b1 o1 [vI Kind1, vS Text1, vI Value1, vS Bytes1, vI Line1, vI Column1] ∧
  ∃ (sa2 : Option Addr) (sn2 sc2 : Nat), h.cell xb1 xo1 = some (vL sa2 sn2 sc2) ∧
  (okA sa2 sn2 sc2 ∧ 0 ≤ (1 : Int) ∧ (1 : Int) ≤ ((sn2 : Nat) : Int) ∧ ((sn2 : Nat) : Int) ≤ sc2) ∧ ∀ (a1 : Option Addr), SlA sa2 a1 1 sc2 6 →
  ∃ (l1 : List Value) (t1 : TypeId) (z1 : Nat × Nat), h xb1 = some (.cells ⟨l1⟩ t1 z1) ∧ (xo1 + 1 ≤ l1.length ∧ z1.2 ≤ xo1) ∧
  ∀ (h_1 : PHeap), h_1 = h.put xb1 (.cells ⟨splice l1 xo1 [vL a1 (((sn2 : Nat) : Int).toNat - 1) (sc2 - 1)]⟩ t1 z1) →
  Q (vA [vI Kind1, vS Text1, vI Value1, vS Bytes1, vI Line1, vI Column1]) h_1
theorem e139 (xb1 : Nat) (xo1 : Nat) (h : PHeap) (Q : Value → PHeap → Prop) : dnF Tryz.prog Tryz.f139.ntmps d139 [.cell 2 true 6] [vP xb1 xo1] h Q = R139 xb1 xo1 h Q := by kernel_rfl
theorem T139 {xb1 : Nat} {xo1 : Nat} {h : PHeap} {Q : Value → PHeap → Prop} (hR : R139 xb1 xo1 h Q) : Tri Tryz.prog 139 [vP xb1 xo1] h Q :=
  tri_of_dn mixed Tryz.func139 rfl (by kernel_rfl) low139 res139 rfl (Eq.mpr (e139 xb1 xo1 h Q) hR)
/- (*replevin/syntax.parser).binary -/
abbrev o140_0 : Op := .binOp Go.BinOp.eql 3 (Go.Operand.tmp 8) (Go.Operand.const (vI 11)) 3
abbrev o140_1 : Op := .binOp Go.BinOp.add 3 (Go.Operand.tmp 13) (Go.Operand.const (vI 1)) 3
abbrev o140_2 : Op := .binOp Go.BinOp.eql 3 (Go.Operand.tmp 26) (Go.Operand.tmp 27) 3
abbrev o140_3 : Op := .binOp Go.BinOp.add 3 (Go.Operand.tmp 33) (Go.Operand.const (vI 1)) 3
def d140 : DCode :=
  .seq (.ops [⟨some 4, .base (.alloc 48 [vI 0, vS [], vS [], vI 0, vS [], vL none 0 0, vI 0, vI 0] false), none⟩])
 (.seq (.seq (.ops [⟨some 8, .base (.mv (.tmp 1)), none⟩,
  ⟨some 9, .base (.pure o140_0 4), none⟩])
 (.cond (.tmp 9) (.seq (.ops [⟨some 10, .base (.mv (.tmp 0)), none⟩,
    ⟨some 11, .call (.func 172) [.tmp 10] (.one true [.int .i64, .str, .str, .int .i64, .str, .slice, .int .i64, .int .i64]), none⟩,
    ⟨none, .base (.store 8 (.tmp 4) (.tmp 11)), none⟩])
   (.ret))
 (.skip)))
 (.seq (.ops [⟨some 12, .base (.mv (.tmp 0)), none⟩,
  ⟨some 13, .base (.mv (.tmp 1)), none⟩,
  ⟨some 14, .base (.pure o140_1 3), none⟩,
  ⟨some 15, .call (.func 140) [.tmp 12, .tmp 14] (.one true [.int .i64, .str, .str, .int .i64, .str, .slice, .int .i64, .int .i64]), none⟩,
  ⟨some 5, .base (.alloc 48 [vI 0, vS [], vS [], vI 0, vS [], vL none 0 0, vI 0, vI 0] false), none⟩,
  ⟨none, .base (.store 8 (.tmp 5) (.tmp 15)), none⟩])
 (.seq (.block 0 (.loop [16, 17, 18, 19, 20, 21, 22, 23, 24, 25, 26, 27, 28, 29, 30, 31, 6, 32, 33, 34, 35, 7, 36, 37, 38, 39, 40, 41, 42, 43, 44, 45] [] [(5, [.int .i64, .str, .str, .int .i64, .str, .slice, .int .i64, .int .i64])] (.seq (.seq (.ops [⟨some 16, .base (.mv (.tmp 0)), none⟩,
      ⟨some 17, .call (.func 43) [.tmp 16, .const (vI 5)] (.one false [.bool]), none⟩,
      ⟨some 18, .base (.mv (.tmp 17)), none⟩,
      ⟨some 19, .base (.mv (.tmp 0)), some (18, true)⟩,
      ⟨some 20, .base (.nilCheck (.tmp 19)), some (18, true)⟩,
      ⟨some 21, .base (.fieldAddr 0 (.tmp 20)), some (18, true)⟩,
      ⟨some 22, .load false [.slice] (.tmp 21), some (18, true)⟩,
      ⟨some 23, .indexAddr 6 (.tmp 22) (.const (vI 0)), some (18, true)⟩,
      ⟨some 24, .base (.fieldAddr 1 (.tmp 23)), some (18, true)⟩,
      ⟨some 25, .load false [.str] (.tmp 24), some (18, true)⟩,
      ⟨some 26, .call (.func 26) [.tmp 25] (.one false [.int .i64]), some (18, true)⟩,
      ⟨some 27, .base (.mv (.tmp 1)), some (18, true)⟩,
      ⟨some 28, .base (.pure o140_2 4), some (18, true)⟩,
      ⟨some 29, .base (.pick (.tmp 18) (.tmp 28) (.const (vB false))), none⟩])
     (.cond (.tmp 29) (.skip)
     (.exit 0)))
     (.block 1 (.seq (.ops [⟨some 30, .base (.mv (.tmp 0)), none⟩,
        ⟨some 31, .call (.func 139) [.tmp 30] (.one true [.int .i64, .str, .int .i64, .str, .int .i64, .int .i64]), none⟩,
        ⟨some 6, .base (.alloc 162 [vI 0, vS [], vI 0, vS [], vI 0, vI 0] false), none⟩,
        ⟨none, .base (.store 6 (.tmp 6) (.tmp 31)), none⟩])
       (.seq (.ops [⟨some 32, .base (.mv (.tmp 0)), none⟩,
        ⟨some 33, .base (.mv (.tmp 1)), none⟩,
        ⟨some 34, .base (.pure o140_3 3), none⟩,
        ⟨some 35, .call (.func 140) [.tmp 32, .tmp 34] (.one true [.int .i64, .str, .str, .int .i64, .str, .slice, .int .i64, .int .i64]), none⟩,
        ⟨some 7, .base (.alloc 48 [vI 0, vS [], vS [], vI 0, vS [], vL none 0 0, vI 0, vI 0] false), none⟩,
        ⟨none, .base (.store 8 (.tmp 7) (.tmp 35)), none⟩])
       (.ops [⟨some 36, .base (.fieldAddr 1 (.tmp 6)), none⟩,
        ⟨some 37, .load false [.str] (.tmp 36), none⟩,
        ⟨some 38, .load true [.int .i64, .str, .str, .int .i64, .str, .slice, .int .i64, .int .i64] (.tmp 5), none⟩,
        ⟨some 39, .load true [.int .i64, .str, .str, .int .i64, .str, .slice, .int .i64, .int .i64] (.tmp 7), none⟩,
        ⟨some 40, .heap (.buildSlice 48 2 [vI 0, vS [], vS [], vI 0, vS [], vL none 0 0, vI 0, vI 0, vI 0, vS [], vS [], vI 0, vS [], vL none 0 0, vI 0, vI 0] [(0, 8, .tmp 38), (8, 8, .tmp 39)]), none⟩,
        ⟨some 41, .base (.fieldAddr 4 (.tmp 6)), none⟩,
        ⟨some 42, .load false [.int .i64] (.tmp 41), none⟩,
        ⟨some 43, .base (.fieldAddr 5 (.tmp 6)), none⟩,
        ⟨some 44, .load false [.int .i64] (.tmp 43), none⟩,
        ⟨some 45, .base (.build [vI 0, vS [], vS [], vI 0, vS [], vL none 0 0, vI 0, vI 0] [(0, 1, .const (vI 7)), (1, 1, .tmp 37), (5, 1, .tmp 40), (6, 1, .tmp 42), (7, 1, .tmp 44)]), none⟩,
        ⟨none, .base (.store 8 (.tmp 5) (.tmp 45)), none⟩])))))))
 (.seq (.ops [⟨some 46, .load true [.int .i64, .str, .str, .int .i64, .str, .slice, .int .i64, .int .i64] (.tmp 5), none⟩,
  ⟨none, .base (.store 8 (.tmp 4) (.tmp 46)), none⟩])
 (.ret)))))
theorem low140 : low Tryz.prog (fun _ => false) (Tryz.f140.body.getD .skip) = some (eC d140) := by kernel_rfl
theorem res140 : lowRes Tryz.prog Tryz.f140.results.toList = some [.cell 4 true 8] := by kernel_rfl
def R140 (xb1 : Nat) (xo1 : Nat) (level1 : Int) (h : PHeap) (Q : Value → PHeap → Prop) : Prop :=
  br (level1 == 11)
  (Tri Tryz.prog 172 [vP xb1 xo1] h fun v_1 h_1 =>
    ∃ (Kind1 : Int) (Op1 Name1 : List UInt8) (Value1 : Int) (Text1 : List UInt8) (Argsa1 : Option Addr) (Argsn1 Argsc1 : Nat) (Line1 Column1 : Int), v_1 = vA [vI Kind1, vS Op1, vS Name1, vI Value1, vS Text1, vL Argsa1 Argsn1 Argsc1, vI Line1, vI Column1] ∧
    Q (vA [vI Kind1, vS Op1, vS Name1, vI Value1, vS Text1, vL Argsa1 Argsn1 Argsc1, vI Line1, vI Column1]) h_1)
  (Tri Tryz.prog 140 [vP xb1 xo1, vI (IntKind.i64.wrap (level1 + 1))] h fun v_2 h_2 =>
    ∃ (Kind2 : Int) (Op2 Name2 : List UInt8) (Value2 : Int) (Text2 : List UInt8) (Argsa2 : Option Addr) (Argsn2 Argsc2 : Nat) (Line2 Column2 : Int), v_2 = vA [vI Kind2, vS Op2, vS Name2, vI Value2, vS Text2, vL Argsa2 Argsn2 Argsc2, vI Line2, vI Column2] ∧
    ∃ (I_1 : Nat → Int → List UInt8 → List UInt8 → Int → List UInt8 → Option Addr → Nat → Nat → Int → Int → PHeap → Prop), (∃ (m2 : Nat), I_1 m2 Kind2 Op2 Name2 Value2 Text2 Argsa2 Argsn2 Argsc2 Line2 Column2 h_2) ∧
    ∀ (m1 : Nat) (Kind3 : Int) (Op3 : List UInt8) (Name3 : List UInt8) (Value3 : Int) (Text3 : List UInt8) (Argsa3 : Option Addr) (Argsn3 : Nat) (Argsc3 : Nat) (Line3 : Int) (Column3 : Int) (h_3 : PHeap), I_1 m1 Kind3 Op3 Name3 Value3 Text3 Argsa3 Argsn3 Argsc3 Line3 Column3 h_3 →
    Tri Tryz.prog 43 [vP xb1 xo1, vI 5] h_3 fun v_3 h_4 =>
    ∃ (c1 : Bool), v_3 = vB c1 ∧
    br c1
    (∃ (sa1 : Option Addr) (sn1 sc1 : Nat), h_4.cell xb1 xo1 = some (vL sa1 sn1 sc1) ∧
      ∃ (b1 o1 : Nat), sa1 = some ⟨b1, o1, none⟩ ∧ (0 ≤ (0 : Int) ∧ (0 : Int) < sn1) ∧
      ∃ (l1 : List UInt8), h_4.cell b1 (o1 + 1) = some (vS l1) ∧
      Tri Tryz.prog 26 [vS l1] h_4 fun v_4 h_5 =>
      ∃ (i1 : Int), v_4 = vI i1 ∧
      br (i1 == level1)
      (Tri Tryz.prog 139 [vP xb1 xo1] h_5 fun v_5 h_6 =>
        ∃ (Kind4 : Int) (Text4 : List UInt8) (Value4 : Int) (Bytes1 : List UInt8) (Line4 Column4 : Int), v_5 = vA [vI Kind4, vS Text4, vI Value4, vS Bytes1, vI Line4, vI Column4] ∧
        Tri Tryz.prog 140 [vP xb1 xo1, vI (IntKind.i64.wrap (level1 + 1))] h_6 fun v_6 h_7 =>
        ∃ (Kind5 : Int) (Op4 Name4 : List UInt8) (Value5 : Int) (Text5 : List UInt8) (Argsa4 : Option Addr) (Argsn4 Argsc4 : Nat) (Line5 Column5 : Int), v_6 = vA [vI Kind5, vS Op4, vS Name4, vI Value5, vS Text5, vL Argsa4 Argsn4 Argsc4, vI Line5, vI Column5] ∧
        ∀ (b2 : Nat), h_7 b2 = none → ∀ (h_8 : PHeap), h_8 = h_7.put b2 (.cells ⟨[vI Kind3, vS Op3, vS Name3, vI Value3, vS Text3, vL Argsa3 Argsn3 Argsc3, vI Line3, vI Column3, vI Kind5, vS Op4, vS Name4, vI Value5, vS Text5, vL Argsa4 Argsn4 Argsc4, vI Line5, vI Column5]⟩ 48) →
        ∃ (m3 : Nat), m3 < m1 ∧ I_1 m3 (7 : Int) Text4 [] (0 : Int) [] (ad b2 0) 2 2 Line4 Column4 h_8 ∧
        ([vI 0, vS [], vS [], vI 0, vS [], vL none 0 0, vI 0, vI 0] : List Value) = ([vI 0, vS [], vS [], vI 0, vS [], vL none 0 0, vI 0, vI 0] : List Value) ∧ True)
      (Q (vA [vI Kind3, vS Op3, vS Name3, vI Value3, vS Text3, vL Argsa3 Argsn3 Argsc3, vI Line3, vI Column3]) h_5))
    (Q (vA [vI Kind3, vS Op3, vS Name3, vI Value3, vS Text3, vL Argsa3 Argsn3 Argsc3, vI Line3, vI Column3]) h_4))
theorem e140 (xb1 : Nat) (xo1 : Nat) (level1 : Int) (h : PHeap) (Q : Value → PHeap → Prop) : dnF Tryz.prog Tryz.f140.ntmps d140 [.cell 4 true 8] [vP xb1 xo1, vI level1] h Q = R140 xb1 xo1 level1 h Q := by kernel_rfl
theorem T140 {xb1 : Nat} {xo1 : Nat} {level1 : Int} {h : PHeap} {Q : Value → PHeap → Prop} (hR : R140 xb1 xo1 level1 h Q) : Tri Tryz.prog 140 [vP xb1 xo1, vI level1] h Q :=
  tri_of_dn mixed Tryz.func140 rfl (by kernel_rfl) low140 res140 rfl (Eq.mpr (e140 xb1 xo1 level1 h Q) hR)
/- (*replevin/syntax.parser).statement -/
abbrev o141_0 : Op := .lookup 79 (Go.Operand.tmp 15) (Go.Operand.tmp 22) true
abbrev o141_1 : Op := .extract (Go.Operand.tmp 11) 0
abbrev o141_2 : Op := .extract (Go.Operand.tmp 11) 1
def d141 : DCode :=
  .seq (.ops [⟨some 2, .base (.alloc 56 [vI 0, vS [], vL none 0 0, vL none 0 0, vL none 0 0, vI 0, vI 0] false), none⟩])
 (.seq (.seq (.ops [⟨some 5, .base (.mv (.tmp 0)), none⟩,
  ⟨some 6, .call (.func 43) [.tmp 5, .const (vI 1)] (.one false [.bool]), none⟩])
 (.cond (.tmp 6) (.seq (.ops [⟨some 7, .base (.mv (.tmp 0)), none⟩,
    ⟨some 8, .call (.func 173) [.tmp 7] (.one true [.int .i64, .str, .slice, .slice, .slice, .int .i64, .int .i64]), none⟩,
    ⟨none, .base (.store 7 (.tmp 2) (.tmp 8)), none⟩])
   (.ret))
 (.skip)))
 (.seq (.seq (.ops [⟨some 9, .base (.mv (.tmp 0)), none⟩,
  ⟨some 10, .call (.func 43) [.tmp 9, .const (vI 4)] (.one false [.bool]), none⟩])
 (.cond (.tmp 10) (.seq (.draw [(⟨some 12, .base (.mv (.tmp 0)), none⟩, []),
    (⟨some 13, .base (.nilCheck (.tmp 12)), none⟩, [0]),
    (⟨some 14, .base (.fieldAddr 2 (.tmp 13)), none⟩, [1]),
    (⟨some 15, .load false [.map] (.tmp 14), none⟩, [2]),
    (⟨some 16, .base (.mv (.tmp 0)), none⟩, []),
    (⟨some 17, .base (.nilCheck (.tmp 16)), none⟩, [4]),
    (⟨some 18, .base (.fieldAddr 0 (.tmp 17)), none⟩, [5]),
    (⟨some 19, .load false [.slice] (.tmp 18), none⟩, [6]),
    (⟨some 20, .indexAddr 6 (.tmp 19) (.const (vI 0)), none⟩, [7]),
    (⟨some 21, .base (.fieldAddr 1 (.tmp 20)), none⟩, [8]),
    (⟨some 22, .load false [.str] (.tmp 21), none⟩, [9]),
    (⟨some 23, .raw o141_0 235 (.tup [(false, [.any]), (false, [.bool])]), none⟩, [3, 10]),
    (⟨some 11, .base (.mv (.tmp 23)), none⟩, [11]),
    (⟨some 24, .base (.pure o141_1 82), none⟩, [12]),
    (⟨some 25, .base (.pure o141_2 4), none⟩, [12]),
    (⟨some 3, .base (.mv (.tmp 24)), none⟩, [13, 0, 1, 2, 3, 4, 5, 6, 7, 8, 9, 10, 11, 12, 13]),
    (⟨some 4, .base (.mv (.tmp 25)), none⟩, [14, 15, 0, 1, 2, 3, 4, 5, 6, 7, 8, 9, 10, 11, 12, 13, 14, 15])])
   (.seq (.ops [⟨some 26, .base (.mv (.tmp 4)), none⟩])
   (.cond (.tmp 26) (.seq (.ops [⟨some 27, .base (.mv (.tmp 3)), none⟩,
      ⟨some 28, .callA (.tmp 27) [] (.one true [.int .i64, .str, .slice, .slice, .slice, .int .i64, .int .i64]), none⟩,
      ⟨none, .base (.store 7 (.tmp 2) (.tmp 28)), none⟩])
     (.ret))
   (.skip))))
 (.skip)))
 (.seq (.ops [⟨some 29, .base (.mv (.tmp 0)), none⟩,
  ⟨some 30, .call (.func 47) [.tmp 29, .const (vI 30)] (.tup []), none⟩])
 (.seq (.ops [⟨some 31, .base (.build [vI 0, vS [], vL none 0 0, vL none 0 0, vL none 0 0, vI 0, vI 0] []), none⟩,
  ⟨none, .base (.store 7 (.tmp 2) (.tmp 31)), none⟩])
 (.ret)))))
theorem low141 : low Tryz.prog (fun _ => false) (Tryz.f141.body.getD .skip) = some (eC d141) := by kernel_rfl
theorem res141 : lowRes Tryz.prog Tryz.f141.results.toList = some [.cell 2 true 7] := by kernel_rfl
def R141 (xb1 : Nat) (xo1 : Nat) (h : PHeap) (Q : Value → PHeap → Prop) : Prop :=
  Tri Tryz.prog 43 [vP xb1 xo1, vI 1] h fun v_1 h_1 =>
  ∃ (c1 : Bool), v_1 = vB c1 ∧
  br c1
  (Tri Tryz.prog 173 [vP xb1 xo1] h_1 fun v_2 h_2 =>
    ∃ (Kind1 : Int) (Name1 : List UInt8) (Argsa1 : Option Addr) (Argsn1 Argsc1 : Nat) (Bodya1 : Option Addr) (Bodyn1 Bodyc1 : Nat) (Elsea1 : Option Addr) (Elsen1 Elsec1 : Nat) (Line1 Column1 : Int), v_2 = vA [vI Kind1, vS Name1, vL Argsa1 Argsn1 Argsc1, vL Bodya1 Bodyn1 Bodyc1, vL Elsea1 Elsen1 Elsec1, vI Line1, vI Column1] ∧
    Q (vA [vI Kind1, vS Name1, vL Argsa1 Argsn1 Argsc1, vL Bodya1 Bodyn1 Bodyc1, vL Elsea1 Elsen1 Elsec1, vI Line1, vI Column1]) h_2)
  (Tri Tryz.prog 43 [vP xb1 xo1, vI 4] h_1 fun v_3 h_3 =>
    ∃ (c2 : Bool), v_3 = vB c2 ∧
    br c2
    (∃ (m1 : Nat), h_3.cell xb1 (xo1 + 2) = some (vM m1) ∧
      ∃ (sa1 : Option Addr) (sn1 sc1 : Nat), h_3.cell xb1 xo1 = some (vL sa1 sn1 sc1) ∧
      ∃ (b1 o1 : Nat), sa1 = some ⟨b1, o1, none⟩ ∧ (0 ≤ (0 : Int) ∧ (0 : Int) < sn1) ∧
      ∃ (l1 : List UInt8), h_3.cell b1 (o1 + 1) = some (vS l1) ∧
      Raw Tryz.prog (execOp (rho [(15, vM m1), (22, vS l1)]) (mkO o141_0 235)) h_3 fun v_4 h_4 =>
      ∃ (u1 : Value) (c3 : Bool), v_4 = vT [u1, vB c3] ∧
      (h_4.cell xb1 xo1 = some (vL sa1 sn1 sc1)) ∧
      br c3
      (∃ (f1 : Nat) (x1 y1 : List Value), u1 = vF f1 x1 y1 ∧
        Tri Tryz.prog f1 (x1 ++ [] ++ y1) h_4 fun v_5 h_5 =>
        ∃ (Kind2 : Int) (Name2 : List UInt8) (Argsa2 : Option Addr) (Argsn2 Argsc2 : Nat) (Bodya2 : Option Addr) (Bodyn2 Bodyc2 : Nat) (Elsea2 : Option Addr) (Elsen2 Elsec2 : Nat) (Line2 Column2 : Int), v_5 = vA [vI Kind2, vS Name2, vL Argsa2 Argsn2 Argsc2, vL Bodya2 Bodyn2 Bodyc2, vL Elsea2 Elsen2 Elsec2, vI Line2, vI Column2] ∧
        Q (vA [vI Kind2, vS Name2, vL Argsa2 Argsn2 Argsc2, vL Bodya2 Bodyn2 Bodyc2, vL Elsea2 Elsen2 Elsec2, vI Line2, vI Column2]) h_5)
      (Tri Tryz.prog 47 [vP xb1 xo1, vI 30] h_4 fun v_6 h_6 =>
        v_6 = vT [] ∧
        Q (vA [vI 0, vS [], vL none 0 0, vL none 0 0, vL none 0 0, vI 0, vI 0]) h_6))
    (Tri Tryz.prog 47 [vP xb1 xo1, vI 30] h_3 fun v_7 h_7 =>
      v_7 = vT [] ∧
      Q (vA [vI 0, vS [], vL none 0 0, vL none 0 0, vL none 0 0, vI 0, vI 0]) h_7))
theorem e141 (xb1 : Nat) (xo1 : Nat) (h : PHeap) (Q : Value → PHeap → Prop) : dnF Tryz.prog Tryz.f141.ntmps d141 [.cell 2 true 7] [vP xb1 xo1] h Q = R141 xb1 xo1 h Q := by kernel_rfl
theorem T141 {xb1 : Nat} {xo1 : Nat} {h : PHeap} {Q : Value → PHeap → Prop} (hR : R141 xb1 xo1 h Q) : Tri Tryz.prog 141 [vP xb1 xo1] h Q :=
  tri_of_dn mixed Tryz.func141 rfl (by kernel_rfl) low141 res141 rfl (Eq.mpr (e141 xb1 xo1 h Q) hR)
/- (*replevin/syntax.parser).unary -/
abbrev o172_0 : Op := .unOp Go.UnOp.not 4 (Go.Operand.tmp 7)
def d172 : DCode :=
  .seq (.ops [⟨some 2, .base (.alloc 48 [vI 0, vS [], vS [], vI 0, vS [], vL none 0 0, vI 0, vI 0] false), none⟩])
 (.seq (.seq (.ops [⟨some 4, .heap (.buildSlice 9 3 [vS [], vS [], vS []] [(0, 1, .const (vS [45])), (1, 1, .const (vS [33])), (2, 1, .const (vS [126]))]), none⟩,
  ⟨some 5, .base (.mv (.tmp 0)), none⟩,
  ⟨some 6, .mkF 44 [.tmp 5] [] 40, none⟩,
  ⟨some 7, .call (.func 191) [.tmp 4, .tmp 6] (.one false [.bool]), none⟩,
  ⟨some 8, .base (.pure o172_0 4), none⟩])
 (.cond (.tmp 8) (.seq (.ops [⟨some 9, .base (.mv (.tmp 0)), none⟩,
    ⟨some 10, .call (.func 192) [.tmp 9] (.one true [.int .i64, .str, .str, .int .i64, .str, .slice, .int .i64, .int .i64]), none⟩,
    ⟨none, .base (.store 8 (.tmp 2) (.tmp 10)), none⟩])
   (.ret))
 (.skip)))
 (.seq (.ops [⟨some 11, .base (.mv (.tmp 0)), none⟩,
  ⟨some 12, .call (.func 139) [.tmp 11] (.one true [.int .i64, .str, .int .i64, .str, .int .i64, .int .i64]), none⟩,
  ⟨some 3, .base (.alloc 162 [vI 0, vS [], vI 0, vS [], vI 0, vI 0] false), none⟩,
  ⟨none, .base (.store 6 (.tmp 3) (.tmp 12)), none⟩])
 (.seq (.draw [(⟨some 13, .base (.fieldAddr 1 (.tmp 3)), none⟩, []),
  (⟨some 14, .load false [.str] (.tmp 13), none⟩, [0]),
  (⟨some 15, .base (.mv (.tmp 0)), none⟩, []),
  (⟨some 16, .call (.func 172) [.tmp 15] (.one true [.int .i64, .str, .str, .int .i64, .str, .slice, .int .i64, .int .i64]), none⟩, [2]),
  (⟨some 17, .heap (.buildSlice 48 1 [vI 0, vS [], vS [], vI 0, vS [], vL none 0 0, vI 0, vI 0] [(0, 8, .tmp 16)]), none⟩, [3]),
  (⟨some 18, .base (.fieldAddr 4 (.tmp 3)), none⟩, []),
  (⟨some 19, .load false [.int .i64] (.tmp 18), none⟩, [5]),
  (⟨some 20, .base (.fieldAddr 5 (.tmp 3)), none⟩, []),
  (⟨some 21, .load false [.int .i64] (.tmp 20), none⟩, [7]),
  (⟨some 22, .base (.build [vI 0, vS [], vS [], vI 0, vS [], vL none 0 0, vI 0, vI 0] [(0, 1, .const (vI 6)), (1, 1, .tmp 14), (5, 1, .tmp 17), (6, 1, .tmp 19), (7, 1, .tmp 21)]), none⟩, [1, 4, 6, 8]),
  (⟨none, .base (.store 8 (.tmp 2) (.tmp 22)), none⟩, [9, 3, 0, 1, 2, 3, 4, 5, 6, 7, 8, 9])])
 (.ret))))
theorem low172 : low Tryz.prog (fun _ => false) (Tryz.f172.body.getD .skip) = some (eC d172) := by kernel_rfl
theorem res172 : lowRes Tryz.prog Tryz.f172.results.toList = some [.cell 2 true 8] := by kernel_rfl
def R172 (xb1 : Nat) (xo1 : Nat) (h : PHeap) (Q : Value → PHeap → Prop) : Prop :=
  ∀ (b1 : Nat), h b1 = none → ∀ (h_1 : PHeap), h_1 = h.put b1 (.cells ⟨[vS [45], vS [33], vS [126]]⟩ 9) →
  Tri Tryz.prog 191 [vL (ad b1 0) 3 3, vF 44 [vP xb1 xo1] []] h_1 fun v_1 h_2 =>
  ∃ (c1 : Bool), v_1 = vB c1 ∧
  br (!c1)
  (Tri Tryz.prog 192 [vP xb1 xo1] h_2 fun v_2 h_3 =>
    ∃ (Kind1 : Int) (Op1 Name1 : List UInt8) (Value1 : Int) (Text1 : List UInt8) (Argsa1 : Option Addr) (Argsn1 Argsc1 : Nat) (Line1 Column1 : Int), v_2 = vA [vI Kind1, vS Op1, vS Name1, vI Value1, vS Text1, vL Argsa1 Argsn1 Argsc1, vI Line1, vI Column1] ∧
    Q (vA [vI Kind1, vS Op1, vS Name1, vI Value1, vS Text1, vL Argsa1 Argsn1 Argsc1, vI Line1, vI Column1]) h_3)
  (Tri Tryz.prog 139 [vP xb1 xo1] h_2 fun v_3 h_4 =>
    ∃ (Kind2 : Int) (Text2 : List UInt8) (Value2 : Int) (Bytes1 : List UInt8) (Line2 Column2 : Int), v_3 = vA [vI Kind2, vS Text2, vI Value2, vS Bytes1, vI Line2, vI Column2] ∧
    Tri Tryz.prog 172 [vP xb1 xo1] h_4 fun v_4 h_5 =>
    ∃ (Kind3 : Int) (Op2 Name2 : List UInt8) (Value3 : Int) (Text3 : List UInt8) (Argsa2 : Option Addr) (Argsn2 Argsc2 : Nat) (Line3 Column3 : Int), v_4 = vA [vI Kind3, vS Op2, vS Name2, vI Value3, vS Text3, vL Argsa2 Argsn2 Argsc2, vI Line3, vI Column3] ∧
    (([vI Column2] : List Value) = ([vI Column2] : List Value)) ∧
    (([vI Line2] : List Value) = ([vI Line2] : List Value)) ∧
    (([vS Text2] : List Value) = ([vS Text2] : List Value)) ∧
    ∀ (b2 : Nat), h_5 b2 = none → ∀ (h_6 : PHeap), h_6 = h_5.put b2 (.cells ⟨[vI Kind3, vS Op2, vS Name2, vI Value3, vS Text3, vL Argsa2 Argsn2 Argsc2, vI Line3, vI Column3]⟩ 48) →
    (([vI Column2] : List Value) = ([vI Column2] : List Value)) ∧
    (([vI Line2] : List Value) = ([vI Line2] : List Value)) ∧
    (([vS Text2] : List Value) = ([vS Text2] : List Value)) ∧
    Q (vA [vI 6, vS Text2, vS [], vI 0, vS [], vL (ad b2 0) 1 1, vI Line2, vI Column2]) h_6)
theorem e172 (xb1 : Nat) (xo1 : Nat) (h : PHeap) (Q : Value → PHeap → Prop) : dnF Tryz.prog Tryz.f172.ntmps d172 [.cell 2 true 8] [vP xb1 xo1] h Q = R172 xb1 xo1 h Q := by kernel_rfl
theorem T172 {xb1 : Nat} {xo1 : Nat} {h : PHeap} {Q : Value → PHeap → Prop} (hR : R172 xb1 xo1 h Q) : Tri Tryz.prog 172 [vP xb1 xo1] h Q :=
  tri_of_dn mixed Tryz.func172 rfl (by kernel_rfl) low172 res172 rfl (Eq.mpr (e172 xb1 xo1 h Q) hR)
/- (*replevin/syntax.parser).named -/
def d173 : DCode :=
  .seq (.ops [⟨some 2, .base (.alloc 56 [vI 0, vS [], vL none 0 0, vL none 0 0, vL none 0 0, vI 0, vI 0] false), none⟩])
 (.seq (.ops [⟨some 6, .base (.mv (.tmp 0)), none⟩,
  ⟨some 7, .base (.nilCheck (.tmp 6)), none⟩,
  ⟨some 8, .base (.fieldAddr 0 (.tmp 7)), none⟩,
  ⟨some 9, .load false [.slice] (.tmp 8), none⟩,
  ⟨some 10, .indexAddr 6 (.tmp 9) (.const (vI 0)), none⟩,
  ⟨some 11, .load true [.int .i64, .str, .int .i64, .str, .int .i64, .int .i64] (.tmp 10), none⟩,
  ⟨some 3, .base (.alloc 162 [vI 0, vS [], vI 0, vS [], vI 0, vI 0] false), none⟩,
  ⟨none, .base (.store 6 (.tmp 3) (.tmp 11)), none⟩])
 (.seq (.ops [⟨some 12, .base (.mv (.tmp 0)), none⟩,
  ⟨some 13, .call (.func 88) [.tmp 12, .const (vI 2)] (.one true [.int .i64, .str, .slice, .slice, .slice, .int .i64, .int .i64]), none⟩,
  ⟨some 4, .base (.alloc 56 [vI 0, vS [], vL none 0 0, vL none 0 0, vL none 0 0, vI 0, vI 0] false), none⟩,
  ⟨none, .base (.store 7 (.tmp 4) (.tmp 13)), none⟩])
 (.seq (.block 0 (.seq (.ops [⟨some 21, .base (.mv (.tmp 0)), none⟩,
    ⟨some 22, .call (.func 90) [.tmp 21, .const (vS [61])] (.one false [.bool]), none⟩,
    ⟨some 20, .base (.mv (.tmp 22)), none⟩])
   (.cond (.tmp 20) (.seq (.ops [⟨some 23, .base (.fieldAddr 1 (.tmp 3)), none⟩,
      ⟨some 24, .load false [.str] (.tmp 23), none⟩,
      ⟨some 25, .base (.fieldAddr 1 (.tmp 4)), none⟩,
      ⟨none, .base (.store 1 (.tmp 25) (.tmp 24)), none⟩])
     (.ops [⟨some 26, .base (.mv (.tmp 0)), none⟩,
      ⟨some 27, .call (.func 91) [.tmp 26] (.one true [.int .i64, .str, .str, .int .i64, .str, .slice, .int .i64, .int .i64]), none⟩,
      ⟨some 28, .heap (.buildSlice 48 1 [vI 0, vS [], vS [], vI 0, vS [], vL none 0 0, vI 0, vI 0] [(0, 8, .tmp 27)]), none⟩,
      ⟨some 29, .base (.fieldAddr 2 (.tmp 4)), none⟩,
      ⟨none, .base (.store 1 (.tmp 29) (.tmp 28)), none⟩]))
   (.seq (.ops [⟨some 31, .base (.mv (.tmp 0)), none⟩,
      ⟨some 32, .call (.func 90) [.tmp 31, .const (vS [91])] (.one false [.bool]), none⟩,
      ⟨some 30, .base (.mv (.tmp 32)), none⟩])
     (.cond (.tmp 30) (.seq (.draw [(⟨some 33, .base (.fieldAddr 1 (.tmp 3)), none⟩, []),
        (⟨some 34, .load false [.str] (.tmp 33), none⟩, [0]),
        (⟨some 35, .base (.fieldAddr 0 (.tmp 4)), none⟩, []),
        (⟨none, .base (.store 1 (.tmp 35) (.const (vI 3))), none⟩, [2]),
        (⟨some 36, .base (.fieldAddr 1 (.tmp 4)), none⟩, [0, 1, 2, 3]),
        (⟨none, .base (.store 1 (.tmp 36) (.tmp 34)), none⟩, [4, 1, 3, 0, 1, 2, 3])])
       (.seq (.ops [⟨some 37, .base (.mv (.tmp 0)), none⟩,
        ⟨some 38, .call (.func 91) [.tmp 37] (.one true [.int .i64, .str, .str, .int .i64, .str, .slice, .int .i64, .int .i64]), none⟩,
        ⟨some 5, .base (.alloc 48 [vI 0, vS [], vS [], vI 0, vS [], vL none 0 0, vI 0, vI 0] false), none⟩,
        ⟨none, .base (.store 8 (.tmp 5) (.tmp 38)), none⟩])
       (.seq (.ops [⟨some 39, .base (.mv (.tmp 0)), none⟩,
        ⟨some 40, .call (.func 92) [.tmp 39, .const (vS [93])] (.tup []), none⟩])
       (.seq (.ops [⟨some 41, .base (.mv (.tmp 0)), none⟩,
        ⟨some 42, .call (.func 92) [.tmp 41, .const (vS [61])] (.tup []), none⟩])
       (.draw [(⟨some 43, .load true [.int .i64, .str, .str, .int .i64, .str, .slice, .int .i64, .int .i64] (.tmp 5), none⟩, []),
        (⟨some 44, .base (.mv (.tmp 0)), none⟩, []),
        (⟨some 45, .call (.func 91) [.tmp 44] (.one true [.int .i64, .str, .str, .int .i64, .str, .slice, .int .i64, .int .i64]), none⟩, [1]),
        (⟨some 46, .heap (.buildSlice 48 2 [vI 0, vS [], vS [], vI 0, vS [], vL none 0 0, vI 0, vI 0, vI 0, vS [], vS [], vI 0, vS [], vL none 0 0, vI 0, vI 0] [(0, 8, .tmp 43), (8, 8, .tmp 45)]), none⟩, [0, 2]),
        (⟨some 47, .base (.fieldAddr 2 (.tmp 4)), none⟩, [0, 1, 2, 3]),
        (⟨none, .base (.store 1 (.tmp 47) (.tmp 46)), none⟩, [4, 3, 2, 0, 1, 2, 3])])))))
     (.seq (.ops [⟨some 14, .base (.fieldAddr 0 (.tmp 4)), none⟩,
        ⟨none, .base (.store 1 (.tmp 14) (.const (vI 4))), none⟩])
       (.ops [⟨some 15, .base (.mv (.tmp 0)), none⟩,
        ⟨some 16, .load true [.int .i64, .str, .int .i64, .str, .int .i64, .int .i64] (.tmp 3), none⟩,
        ⟨some 17, .call (.func 193) [.tmp 15, .tmp 16] (.one true [.int .i64, .str, .str, .int .i64, .str, .slice, .int .i64, .int .i64]), none⟩,
        ⟨some 18, .heap (.buildSlice 48 1 [vI 0, vS [], vS [], vI 0, vS [], vL none 0 0, vI 0, vI 0] [(0, 8, .tmp 17)]), none⟩,
        ⟨some 19, .base (.fieldAddr 2 (.tmp 4)), none⟩,
        ⟨none, .base (.store 1 (.tmp 19) (.tmp 18)), none⟩])))))))
 (.seq (.ops [⟨some 48, .base (.mv (.tmp 0)), none⟩,
  ⟨some 49, .call (.func 92) [.tmp 48, .const (vS [59])] (.tup []), none⟩])
 (.seq (.ops [⟨some 50, .load true [.int .i64, .str, .slice, .slice, .slice, .int .i64, .int .i64] (.tmp 4), none⟩,
  ⟨none, .base (.store 7 (.tmp 2) (.tmp 50)), none⟩])
 (.ret))))))
theorem low173 : low Tryz.prog (fun _ => false) (Tryz.f173.body.getD .skip) = some (eC d173) := by kernel_rfl
theorem res173 : lowRes Tryz.prog Tryz.f173.results.toList = some [.cell 2 true 7] := by kernel_rfl
def R173 (xb1 : Nat) (xo1 : Nat) (h : PHeap) (Q : Value → PHeap → Prop) : Prop :=
  ∃ (sa1 : Option Addr) (sn1 sc1 : Nat), h.cell xb1 xo1 = some (vL sa1 sn1 sc1) ∧
  ∃ (b1 o1 : Nat), sa1 = some ⟨b1, o1, none⟩ ∧ (0 ≤ (0 : Int) ∧ (0 : Int) < sn1) ∧
  ∃ (Kind1 : Int) (Text1 : List UInt8) (Value1 : Int) (Bytes1 : List UInt8) (Line1 Column1 : Int), h.row b1 o1 [vI Kind1, vS Text1, vI Value1, vS Bytes1, vI Line1, vI Column1] ∧
  Tri Tryz.prog 88 [vP xb1 xo1, vI 2] h fun v_1 h_1 =>
  ∃ (Kind2 : Int) (Name1 : List UInt8) (Argsa1 : Option Addr) (Argsn1 Argsc1 : Nat) (Bodya1 : Option Addr) (Bodyn1 Bodyc1 : Nat) (Elsea1 : Option Addr) (Elsen1 Elsec1 : Nat) (Line2 Column2 : Int), v_1 = vA [vI Kind2, vS Name1, vL Argsa1 Argsn1 Argsc1, vL Bodya1 Bodyn1 Bodyc1, vL Elsea1 Elsen1 Elsec1, vI Line2, vI Column2] ∧
  Tri Tryz.prog 90 [vP xb1 xo1, vS [61]] h_1 fun v_2 h_2 =>
  ∃ (c1 : Bool), v_2 = vB c1 ∧
  br c1
  (Tri Tryz.prog 91 [vP xb1 xo1] h_2 fun v_3 h_3 =>
    ∃ (Kind3 : Int) (Op1 Name2 : List UInt8) (Value2 : Int) (Text2 : List UInt8) (Argsa2 : Option Addr) (Argsn2 Argsc2 : Nat) (Line3 Column3 : Int), v_3 = vA [vI Kind3, vS Op1, vS Name2, vI Value2, vS Text2, vL Argsa2 Argsn2 Argsc2, vI Line3, vI Column3] ∧
    ∀ (b2 : Nat), h_3 b2 = none → ∀ (h_4 : PHeap), h_4 = h_3.put b2 (.cells ⟨[vI Kind3, vS Op1, vS Name2, vI Value2, vS Text2, vL Argsa2 Argsn2 Argsc2, vI Line3, vI Column3]⟩ 48) →
    Tri Tryz.prog 92 [vP xb1 xo1, vS [59]] h_4 fun v_4 h_5 =>
    v_4 = vT [] ∧
    Q (vA [vI Kind2, vS Text1, vL (ad b2 0) 1 1, vL Bodya1 Bodyn1 Bodyc1, vL Elsea1 Elsen1 Elsec1, vI Line2, vI Column2]) h_5)
  (Tri Tryz.prog 90 [vP xb1 xo1, vS [91]] h_2 fun v_5 h_6 =>
    ∃ (c2 : Bool), v_5 = vB c2 ∧
    br c2
    ((([vS Text1] : List Value) = ([vS Text1] : List Value)) ∧
      Tri Tryz.prog 91 [vP xb1 xo1] h_6 fun v_6 h_7 =>
      ∃ (Kind4 : Int) (Op2 Name3 : List UInt8) (Value3 : Int) (Text3 : List UInt8) (Argsa3 : Option Addr) (Argsn3 Argsc3 : Nat) (Line4 Column4 : Int), v_6 = vA [vI Kind4, vS Op2, vS Name3, vI Value3, vS Text3, vL Argsa3 Argsn3 Argsc3, vI Line4, vI Column4] ∧
      Tri Tryz.prog 92 [vP xb1 xo1, vS [93]] h_7 fun v_7 h_8 =>
      v_7 = vT [] ∧
      Tri Tryz.prog 92 [vP xb1 xo1, vS [61]] h_8 fun v_8 h_9 =>
      v_8 = vT [] ∧
      Tri Tryz.prog 91 [vP xb1 xo1] h_9 fun v_9 h_10 =>
      ∃ (Kind5 : Int) (Op3 Name4 : List UInt8) (Value4 : Int) (Text4 : List UInt8) (Argsa4 : Option Addr) (Argsn4 Argsc4 : Nat) (Line5 Column5 : Int), v_9 = vA [vI Kind5, vS Op3, vS Name4, vI Value4, vS Text4, vL Argsa4 Argsn4 Argsc4, vI Line5, vI Column5] ∧
      (([vI Kind4, vS Op2, vS Name3, vI Value3, vS Text3, vL Argsa3 Argsn3 Argsc3, vI Line4, vI Column4] : List Value) = ([vI Kind4, vS Op2, vS Name3, vI Value3, vS Text3, vL Argsa3 Argsn3 Argsc3, vI Line4, vI Column4] : List Value)) ∧
      ∀ (b3 : Nat), h_10 b3 = none → ∀ (h_11 : PHeap), h_11 = h_10.put b3 (.cells ⟨[vI Kind4, vS Op2, vS Name3, vI Value3, vS Text3, vL Argsa3 Argsn3 Argsc3, vI Line4, vI Column4, vI Kind5, vS Op3, vS Name4, vI Value4, vS Text4, vL Argsa4 Argsn4 Argsc4, vI Line5, vI Column5]⟩ 48) →
      Tri Tryz.prog 92 [vP xb1 xo1, vS [59]] h_11 fun v_10 h_12 =>
      v_10 = vT [] ∧
      Q (vA [vI 3, vS Text1, vL (ad b3 0) 2 2, vL Bodya1 Bodyn1 Bodyc1, vL Elsea1 Elsen1 Elsec1, vI Line2, vI Column2]) h_12)
    (Tri Tryz.prog 193 [vP xb1 xo1, vA [vI Kind1, vS Text1, vI Value1, vS Bytes1, vI Line1, vI Column1]] h_6 fun v_11 h_13 =>
      ∃ (Kind6 : Int) (Op4 Name5 : List UInt8) (Value5 : Int) (Text5 : List UInt8) (Argsa5 : Option Addr) (Argsn5 Argsc5 : Nat) (Line6 Column6 : Int), v_11 = vA [vI Kind6, vS Op4, vS Name5, vI Value5, vS Text5, vL Argsa5 Argsn5 Argsc5, vI Line6, vI Column6] ∧
      ∀ (b4 : Nat), h_13 b4 = none → ∀ (h_14 : PHeap), h_14 = h_13.put b4 (.cells ⟨[vI Kind6, vS Op4, vS Name5, vI Value5, vS Text5, vL Argsa5 Argsn5 Argsc5, vI Line6, vI Column6]⟩ 48) →
      Tri Tryz.prog 92 [vP xb1 xo1, vS [59]] h_14 fun v_12 h_15 =>
      v_12 = vT [] ∧
      Q (vA [vI 4, vS Name1, vL (ad b4 0) 1 1, vL Bodya1 Bodyn1 Bodyc1, vL Elsea1 Elsen1 Elsec1, vI Line2, vI Column2]) h_15))
theorem e173 (xb1 : Nat) (xo1 : Nat) (h : PHeap) (Q : Value → PHeap → Prop) : dnF Tryz.prog Tryz.f173.ntmps d173 [.cell 2 true 7] [vP xb1 xo1] h Q = R173 xb1 xo1 h Q := by kernel_rfl
theorem T173 {xb1 : Nat} {xo1 : Nat} {h : PHeap} {Q : Value → PHeap → Prop} (hR : R173 xb1 xo1 h Q) : Tri Tryz.prog 173 [vP xb1 xo1] h Q :=
  tri_of_dn mixed Tryz.func173 rfl (by kernel_rfl) low173 res173 rfl (Eq.mpr (e173 xb1 xo1 h Q) hR)
/- (*replevin/syntax.parser).primary -/
abbrev o192_0 : Op := .binOp Go.BinOp.neq 27 (Go.Operand.tmp 40) (Go.Operand.const (vI 0)) 27
def d192 : DCode :=
  .seq (.ops [⟨some 2, .base (.alloc 48 [vI 0, vS [], vS [], vI 0, vS [], vL none 0 0, vI 0, vI 0] false), none⟩])
 (.seq (.block 0 (.seq (.ops [⟨some 7, .base (.mv (.tmp 0)), none⟩,
    ⟨some 8, .call (.func 43) [.tmp 7, .const (vI 2)] (.one false [.bool]), none⟩,
    ⟨some 6, .base (.mv (.tmp 8)), none⟩])
   (.cond (.tmp 6) (.seq (.ops [⟨some 9, .base (.mv (.tmp 0)), none⟩,
      ⟨some 10, .call (.func 139) [.tmp 9] (.one true [.int .i64, .str, .int .i64, .str, .int .i64, .int .i64]), none⟩,
      ⟨some 3, .base (.alloc 162 [vI 0, vS [], vI 0, vS [], vI 0, vI 0] false), none⟩,
      ⟨none, .base (.store 6 (.tmp 3) (.tmp 10)), none⟩])
     (.seq (.ops [⟨some 11, .base (.fieldAddr 2 (.tmp 3)), none⟩,
      ⟨some 12, .load false [.int .i64] (.tmp 11), none⟩,
      ⟨some 13, .base (.fieldAddr 4 (.tmp 3)), none⟩,
      ⟨some 14, .load false [.int .i64] (.tmp 13), none⟩,
      ⟨some 15, .base (.fieldAddr 5 (.tmp 3)), none⟩,
      ⟨some 16, .load false [.int .i64] (.tmp 15), none⟩,
      ⟨some 17, .base (.build [vI 0, vS [], vS [], vI 0, vS [], vL none 0 0, vI 0, vI 0] [(0, 1, .const (vI 1)), (3, 1, .tmp 12), (6, 1, .tmp 14), (7, 1, .tmp 16)]), none⟩,
      ⟨none, .base (.store 8 (.tmp 2) (.tmp 17)), none⟩])
     (.ret)))
   (.seq (.ops [⟨some 19, .base (.mv (.tmp 0)), none⟩,
      ⟨some 20, .call (.func 43) [.tmp 19, .const (vI 3)] (.one false [.bool]), none⟩,
      ⟨some 18, .base (.mv (.tmp 20)), none⟩])
     (.cond (.tmp 18) (.seq (.ops [⟨some 21, .base (.mv (.tmp 0)), none⟩,
        ⟨some 22, .call (.func 139) [.tmp 21] (.one true [.int .i64, .str, .int .i64, .str, .int .i64, .int .i64]), none⟩,
        ⟨some 4, .base (.alloc 162 [vI 0, vS [], vI 0, vS [], vI 0, vI 0] false), none⟩,
        ⟨none, .base (.store 6 (.tmp 4) (.tmp 22)), none⟩])
       (.seq (.ops [⟨some 23, .base (.fieldAddr 3 (.tmp 4)), none⟩,
        ⟨some 24, .load false [.str] (.tmp 23), none⟩,
        ⟨some 25, .base (.fieldAddr 4 (.tmp 4)), none⟩,
        ⟨some 26, .load false [.int .i64] (.tmp 25), none⟩,
        ⟨some 27, .base (.fieldAddr 5 (.tmp 4)), none⟩,
        ⟨some 28, .load false [.int .i64] (.tmp 27), none⟩,
        ⟨some 29, .base (.build [vI 0, vS [], vS [], vI 0, vS [], vL none 0 0, vI 0, vI 0] [(0, 1, .const (vI 2)), (4, 1, .tmp 24), (6, 1, .tmp 26), (7, 1, .tmp 28)]), none⟩,
        ⟨none, .base (.store 8 (.tmp 2) (.tmp 29)), none⟩])
       (.ret)))
     (.seq (.ops [⟨some 31, .base (.mv (.tmp 0)), none⟩,
        ⟨some 32, .call (.func 43) [.tmp 31, .const (vI 1)] (.one false [.bool]), none⟩,
        ⟨some 30, .base (.mv (.tmp 32)), none⟩])
       (.cond (.tmp 30) (.seq (.ops [⟨some 33, .base (.mv (.tmp 0)), none⟩,
          ⟨some 34, .call (.func 202) [.tmp 33] (.one true [.int .i64, .str, .str, .int .i64, .str, .slice, .int .i64, .int .i64]), none⟩,
          ⟨none, .base (.store 8 (.tmp 2) (.tmp 34)), none⟩])
         (.ret))
       (.skip))))))))
 (.seq (.ops [⟨some 35, .base (.mv (.tmp 0)), none⟩,
  ⟨some 36, .call (.func 92) [.tmp 35, .const (vS [40])] (.tup []), none⟩])
 (.seq (.seq (.ops [⟨some 37, .base (.mv (.tmp 0)), none⟩,
  ⟨some 38, .base (.nilCheck (.tmp 37)), none⟩,
  ⟨some 39, .base (.fieldAddr 5 (.tmp 38)), none⟩,
  ⟨some 40, .load false [.int .i64] (.tmp 39), none⟩,
  ⟨some 41, .base (.pure o192_0 4), none⟩])
 (.cond (.tmp 41) (.seq (.ops [⟨some 42, .base (.build [vI 0, vS [], vS [], vI 0, vS [], vL none 0 0, vI 0, vI 0] []), none⟩,
    ⟨none, .base (.store 8 (.tmp 2) (.tmp 42)), none⟩])
   (.ret))
 (.skip)))
 (.seq (.ops [⟨some 43, .base (.mv (.tmp 0)), none⟩,
  ⟨some 44, .call (.func 91) [.tmp 43] (.one true [.int .i64, .str, .str, .int .i64, .str, .slice, .int .i64, .int .i64]), none⟩,
  ⟨some 5, .base (.alloc 48 [vI 0, vS [], vS [], vI 0, vS [], vL none 0 0, vI 0, vI 0] false), none⟩,
  ⟨none, .base (.store 8 (.tmp 5) (.tmp 44)), none⟩])
 (.seq (.ops [⟨some 45, .base (.mv (.tmp 0)), none⟩,
  ⟨some 46, .call (.func 92) [.tmp 45, .const (vS [41])] (.tup []), none⟩])
 (.seq (.ops [⟨some 47, .load true [.int .i64, .str, .str, .int .i64, .str, .slice, .int .i64, .int .i64] (.tmp 5), none⟩,
  ⟨none, .base (.store 8 (.tmp 2) (.tmp 47)), none⟩])
 (.ret)))))))
theorem low192 : low Tryz.prog (fun _ => false) (Tryz.f192.body.getD .skip) = some (eC d192) := by kernel_rfl
theorem res192 : lowRes Tryz.prog Tryz.f192.results.toList = some [.cell 2 true 8] := by kernel_rfl
def R192 (xb1 : Nat) (xo1 : Nat) (h : PHeap) (Q : Value → PHeap → Prop) : Prop :=
  Tri Tryz.prog 43 [vP xb1 xo1, vI 2] h fun v_1 h_1 =>
  ∃ (c1 : Bool), v_1 = vB c1 ∧
  br c1
  (Tri Tryz.prog 139 [vP xb1 xo1] h_1 fun v_2 h_2 =>
    ∃ (Kind1 : Int) (Text1 : List UInt8) (Value1 : Int) (Bytes1 : List UInt8) (Line1 Column1 : Int), v_2 = vA [vI Kind1, vS Text1, vI Value1, vS Bytes1, vI Line1, vI Column1] ∧
    Q (vA [vI 1, vS [], vS [], vI Value1, vS [], vL none 0 0, vI Line1, vI Column1]) h_2)
  (Tri Tryz.prog 43 [vP xb1 xo1, vI 3] h_1 fun v_3 h_3 =>
    ∃ (c2 : Bool), v_3 = vB c2 ∧
    br c2
    (Tri Tryz.prog 139 [vP xb1 xo1] h_3 fun v_4 h_4 =>
      ∃ (Kind2 : Int) (Text2 : List UInt8) (Value2 : Int) (Bytes2 : List UInt8) (Line2 Column2 : Int), v_4 = vA [vI Kind2, vS Text2, vI Value2, vS Bytes2, vI Line2, vI Column2] ∧
      Q (vA [vI 2, vS [], vS [], vI 0, vS Bytes2, vL none 0 0, vI Line2, vI Column2]) h_4)
    (Tri Tryz.prog 43 [vP xb1 xo1, vI 1] h_3 fun v_5 h_5 =>
      ∃ (c3 : Bool), v_5 = vB c3 ∧
      br c3
      (Tri Tryz.prog 202 [vP xb1 xo1] h_5 fun v_6 h_6 =>
        ∃ (Kind3 : Int) (Op1 Name1 : List UInt8) (Value3 : Int) (Text3 : List UInt8) (Argsa1 : Option Addr) (Argsn1 Argsc1 : Nat) (Line3 Column3 : Int), v_6 = vA [vI Kind3, vS Op1, vS Name1, vI Value3, vS Text3, vL Argsa1 Argsn1 Argsc1, vI Line3, vI Column3] ∧
        Q (vA [vI Kind3, vS Op1, vS Name1, vI Value3, vS Text3, vL Argsa1 Argsn1 Argsc1, vI Line3, vI Column3]) h_6)
      (Tri Tryz.prog 92 [vP xb1 xo1, vS [40]] h_5 fun v_7 h_7 =>
        v_7 = vT [] ∧
        ∃ (i1 : Int), h_7.cell xb1 (xo1 + 5) = some (vI i1) ∧
        br (i1 != 0)
        (Q (vA [vI 0, vS [], vS [], vI 0, vS [], vL none 0 0, vI 0, vI 0]) h_7)
        (Tri Tryz.prog 91 [vP xb1 xo1] h_7 fun v_8 h_8 =>
          ∃ (Kind4 : Int) (Op2 Name2 : List UInt8) (Value4 : Int) (Text4 : List UInt8) (Argsa2 : Option Addr) (Argsn2 Argsc2 : Nat) (Line4 Column4 : Int), v_8 = vA [vI Kind4, vS Op2, vS Name2, vI Value4, vS Text4, vL Argsa2 Argsn2 Argsc2, vI Line4, vI Column4] ∧
          Tri Tryz.prog 92 [vP xb1 xo1, vS [41]] h_8 fun v_9 h_9 =>
          v_9 = vT [] ∧
          Q (vA [vI Kind4, vS Op2, vS Name2, vI Value4, vS Text4, vL Argsa2 Argsn2 Argsc2, vI Line4, vI Column4]) h_9))))
theorem e192 (xb1 : Nat) (xo1 : Nat) (h : PHeap) (Q : Value → PHeap → Prop) : dnF Tryz.prog Tryz.f192.ntmps d192 [.cell 2 true 8] [vP xb1 xo1] h Q = R192 xb1 xo1 h Q := by kernel_rfl
theorem T192 {xb1 : Nat} {xo1 : Nat} {h : PHeap} {Q : Value → PHeap → Prop} (hR : R192 xb1 xo1 h Q) : Tri Tryz.prog 192 [vP xb1 xo1] h Q :=
  tri_of_dn mixed Tryz.func192 rfl (by kernel_rfl) low192 res192 rfl (Eq.mpr (e192 xb1 xo1 h Q) hR)
/- (*replevin/syntax.parser).call -/
abbrev o193_0 : Op := .binOp Go.BinOp.eql 27 (Go.Operand.tmp 18) (Go.Operand.const (vI 0)) 27
abbrev o193_1 : Op := .unOp Go.UnOp.not 4 (Go.Operand.tmp 22)
abbrev o193_2 : Op := .call { callee := (Go.Callee.builtin Go.Builtin.append), args := #[(Go.Operand.tmp 26), (Go.Operand.tmp 29)], argTypes := #[46, 46] }
abbrev o193_3 : Op := .call { callee := (Go.Callee.builtin Go.Builtin.append), args := #[(Go.Operand.tmp 35), (Go.Operand.tmp 38)], argTypes := #[46, 46] }
def d193 : DCode :=
  .seq (.ops [⟨some 3, .base (.box 162 (.tmp 1) false), none⟩,
  ⟨some 4, .base (.alloc 48 [vI 0, vS [], vS [], vI 0, vS [], vL none 0 0, vI 0, vI 0] false), none⟩])
 (.seq (.ops [⟨some 6, .base (.fieldAddr 1 (.tmp 3)), none⟩,
  ⟨some 7, .load false [.str] (.tmp 6), none⟩,
  ⟨some 8, .base (.fieldAddr 4 (.tmp 3)), none⟩,
  ⟨some 9, .load false [.int .i64] (.tmp 8), none⟩,
  ⟨some 10, .base (.fieldAddr 5 (.tmp 3)), none⟩,
  ⟨some 11, .load false [.int .i64] (.tmp 10), none⟩,
  ⟨some 12, .base (.build [vI 0, vS [], vS [], vI 0, vS [], vL none 0 0, vI 0, vI 0] [(0, 1, .const (vI 5)), (2, 1, .tmp 7), (6, 1, .tmp 9), (7, 1, .tmp 11)]), none⟩,
  ⟨some 5, .base (.alloc 48 [vI 0, vS [], vS [], vI 0, vS [], vL none 0 0, vI 0, vI 0] false), none⟩,
  ⟨none, .base (.store 8 (.tmp 5) (.tmp 12)), none⟩])
 (.seq (.ops [⟨some 13, .base (.mv (.tmp 0)), none⟩,
  ⟨some 14, .call (.func 92) [.tmp 13, .const (vS [40])] (.tup []), none⟩])
 (.seq (.seq (.ops [⟨some 15, .base (.mv (.tmp 0)), none⟩,
  ⟨some 16, .base (.nilCheck (.tmp 15)), none⟩,
  ⟨some 17, .base (.fieldAddr 5 (.tmp 16)), none⟩,
  ⟨some 18, .load false [.int .i64] (.tmp 17), none⟩,
  ⟨some 19, .base (.pure o193_0 4), none⟩,
  ⟨some 20, .base (.mv (.tmp 19)), none⟩,
  ⟨some 21, .base (.mv (.tmp 0)), some (20, true)⟩,
  ⟨some 22, .call (.func 44) [.tmp 21, .const (vS [41])] (.one false [.bool]), some (20, true)⟩,
  ⟨some 23, .base (.pure o193_1 4), some (20, true)⟩,
  ⟨some 24, .base (.pick (.tmp 20) (.tmp 23) (.const (vB false))), none⟩])
 (.cond (.tmp 24) (.seq (.draw [(⟨some 25, .base (.fieldAddr 5 (.tmp 5)), none⟩, []),
    (⟨some 26, .load false [.slice] (.tmp 25), none⟩, [0]),
    (⟨some 27, .base (.mv (.tmp 0)), none⟩, []),
    (⟨some 28, .call (.func 91) [.tmp 27] (.one true [.int .i64, .str, .str, .int .i64, .str, .slice, .int .i64, .int .i64]), none⟩, [2]),
    (⟨some 29, .heap (.buildSlice 48 1 [vI 0, vS [], vS [], vI 0, vS [], vL none 0 0, vI 0, vI 0] [(0, 8, .tmp 28)]), none⟩, [3]),
    (⟨some 30, .raw o193_2 46 (.one false [.slice]), none⟩, [1, 4, 3]),
    (⟨some 31, .base (.fieldAddr 5 (.tmp 5)), none⟩, [0, 1, 2, 3, 4, 5]),
    (⟨none, .base (.store 1 (.tmp 31) (.tmp 30)), none⟩, [6, 5, 5, 0, 1, 2, 3, 4, 5])])
   (.block 0 (.loop [32, 33, 34, 35, 36, 37, 38, 39, 40] [] [(5, [.int .i64, .str, .str, .int .i64, .str, .slice, .int .i64, .int .i64])] (.seq (.seq (.ops [⟨some 32, .base (.mv (.tmp 0)), none⟩,
        ⟨some 33, .call (.func 90) [.tmp 32, .const (vS [44])] (.one false [.bool]), none⟩])
       (.cond (.tmp 33) (.skip)
       (.exit 0)))
       (.block 1 (.draw [(⟨some 34, .base (.fieldAddr 5 (.tmp 5)), none⟩, []),
          (⟨some 35, .load false [.slice] (.tmp 34), none⟩, [0]),
          (⟨some 36, .base (.mv (.tmp 0)), none⟩, []),
          (⟨some 37, .call (.func 91) [.tmp 36] (.one true [.int .i64, .str, .str, .int .i64, .str, .slice, .int .i64, .int .i64]), none⟩, [2]),
          (⟨some 38, .heap (.buildSlice 48 1 [vI 0, vS [], vS [], vI 0, vS [], vL none 0 0, vI 0, vI 0] [(0, 8, .tmp 37)]), none⟩, [3]),
          (⟨some 39, .raw o193_3 46 (.one false [.slice]), none⟩, [1, 4, 3]),
          (⟨some 40, .base (.fieldAddr 5 (.tmp 5)), none⟩, [0, 1, 2, 3, 4, 5]),
          (⟨none, .base (.store 1 (.tmp 40) (.tmp 39)), none⟩, [6, 5, 5, 0, 1, 2, 3, 4, 5])]))))))
 (.skip)))
 (.seq (.ops [⟨some 41, .base (.mv (.tmp 0)), none⟩,
  ⟨some 42, .call (.func 92) [.tmp 41, .const (vS [41])] (.tup []), none⟩])
 (.seq (.ops [⟨some 43, .load true [.int .i64, .str, .str, .int .i64, .str, .slice, .int .i64, .int .i64] (.tmp 5), none⟩,
  ⟨none, .base (.store 8 (.tmp 4) (.tmp 43)), none⟩])
 (.ret))))))
theorem low193 : low Tryz.prog (fun _ => false) (Tryz.f193.body.getD .skip) = some (eC d193) := by kernel_rfl
theorem res193 : lowRes Tryz.prog Tryz.f193.results.toList = some [.cell 4 true 8] := by kernel_rfl
def R193 (xb1 : Nat) (xo1 : Nat) (t_Kind1 : Int) (t_Text1 : List UInt8) (t_Value1 : Int) (t_Bytes1 : List UInt8) (t_Line1 : Int) (t_Column1 : Int) (h : PHeap) (Q : Value → PHeap → Prop) : Prop :=
  Tri Tryz.prog 92 [vP xb1 xo1, vS [40]] h fun v_1 h_1 =>
  v_1 = vT [] ∧
  ∃ (i1 : Int), h_1.cell xb1 (xo1 + 5) = some (vI i1) ∧
  br (i1 == 0)
  (Tri Tryz.prog 44 [vP xb1 xo1, vS [41]] h_1 fun v_2 h_2 =>
    ∃ (c1 : Bool), v_2 = vB c1 ∧
    br (!c1)
    (Tri Tryz.prog 91 [vP xb1 xo1] h_2 fun v_3 h_3 =>
      ∃ (Kind1 : Int) (Op1 Name1 : List UInt8) (Value1 : Int) (Text1 : List UInt8) (Argsa1 : Option Addr) (Argsn1 Argsc1 : Nat) (Line1 Column1 : Int), v_3 = vA [vI Kind1, vS Op1, vS Name1, vI Value1, vS Text1, vL Argsa1 Argsn1 Argsc1, vI Line1, vI Column1] ∧
      (([vL none 0 0] : List Value) = ([vL none 0 0] : List Value)) ∧
      ∀ (b1 : Nat), h_3 b1 = none → ∀ (h_4 : PHeap), h_4 = h_3.put b1 (.cells ⟨[vI Kind1, vS Op1, vS Name1, vI Value1, vS Text1, vL Argsa1 Argsn1 Argsc1, vI Line1, vI Column1]⟩ 48) →
      (([vL none 0 0] : List Value) = ([vL none 0 0] : List Value)) ∧
      Raw Tryz.prog (execOp (rho [(26, vL none 0 0), (29, vL (ad b1 0) 1 1)]) (mkO o193_2 46)) h_4 fun v_4 h_5 =>
      ∃ (sa1 : Option Addr) (sn1 sc1 : Nat), v_4 = vL sa1 sn1 sc1 ∧
      ∃ (I_1 : Nat → Int → List UInt8 → List UInt8 → Int → List UInt8 → Option Addr → Nat → Nat → Int → Int → PHeap → Prop), (∃ (m2 : Nat), I_1 m2 (5 : Int) [] t_Text1 (0 : Int) [] sa1 sn1 sc1 t_Line1 t_Column1 h_5) ∧
      ∀ (m1 : Nat) (Kind2 : Int) (Op2 : List UInt8) (Name2 : List UInt8) (Value2 : Int) (Text2 : List UInt8) (Argsa2 : Option Addr) (Argsn2 : Nat) (Argsc2 : Nat) (Line2 : Int) (Column2 : Int) (h_6 : PHeap), I_1 m1 Kind2 Op2 Name2 Value2 Text2 Argsa2 Argsn2 Argsc2 Line2 Column2 h_6 →
      Tri Tryz.prog 90 [vP xb1 xo1, vS [44]] h_6 fun v_5 h_7 =>
      ∃ (c2 : Bool), v_5 = vB c2 ∧
      br c2
      (Tri Tryz.prog 91 [vP xb1 xo1] h_7 fun v_6 h_8 =>
        ∃ (Kind3 : Int) (Op3 Name3 : List UInt8) (Value3 : Int) (Text3 : List UInt8) (Argsa3 : Option Addr) (Argsn3 Argsc3 : Nat) (Line3 Column3 : Int), v_6 = vA [vI Kind3, vS Op3, vS Name3, vI Value3, vS Text3, vL Argsa3 Argsn3 Argsc3, vI Line3, vI Column3] ∧
        (([vL Argsa2 Argsn2 Argsc2] : List Value) = ([vL Argsa2 Argsn2 Argsc2] : List Value)) ∧
        ∀ (b2 : Nat), h_8 b2 = none → ∀ (h_9 : PHeap), h_9 = h_8.put b2 (.cells ⟨[vI Kind3, vS Op3, vS Name3, vI Value3, vS Text3, vL Argsa3 Argsn3 Argsc3, vI Line3, vI Column3]⟩ 48) →
        (([vL Argsa2 Argsn2 Argsc2] : List Value) = ([vL Argsa2 Argsn2 Argsc2] : List Value)) ∧
        Raw Tryz.prog (execOp (rho [(35, vL Argsa2 Argsn2 Argsc2), (38, vL (ad b2 0) 1 1)]) (mkO o193_3 46)) h_9 fun v_7 h_10 =>
        ∃ (sa2 : Option Addr) (sn2 sc2 : Nat), v_7 = vL sa2 sn2 sc2 ∧
        ∃ (m3 : Nat), m3 < m1 ∧ I_1 m3 Kind2 Op2 Name2 Value2 Text2 sa2 sn2 sc2 Line2 Column2 h_10 ∧
        ([vI 0, vS [], vS [], vI 0, vS [], vL none 0 0, vI 0, vI 0] : List Value) = ([vI 0, vS [], vS [], vI 0, vS [], vL none 0 0, vI 0, vI 0] : List Value) ∧ ([vI t_Kind1, vS t_Text1, vI t_Value1, vS t_Bytes1, vI t_Line1, vI t_Column1] : List Value) = ([vI t_Kind1, vS t_Text1, vI t_Value1, vS t_Bytes1, vI t_Line1, vI t_Column1] : List Value) ∧ True)
      (Tri Tryz.prog 92 [vP xb1 xo1, vS [41]] h_7 fun v_8 h_11 =>
        v_8 = vT [] ∧
        Q (vA [vI Kind2, vS Op2, vS Name2, vI Value2, vS Text2, vL Argsa2 Argsn2 Argsc2, vI Line2, vI Column2]) h_11))
    (Tri Tryz.prog 92 [vP xb1 xo1, vS [41]] h_2 fun v_9 h_12 =>
      v_9 = vT [] ∧
      Q (vA [vI 5, vS [], vS t_Text1, vI 0, vS [], vL none 0 0, vI t_Line1, vI t_Column1]) h_12))
  (Tri Tryz.prog 92 [vP xb1 xo1, vS [41]] h_1 fun v_10 h_13 =>
    v_10 = vT [] ∧
    Q (vA [vI 5, vS [], vS t_Text1, vI 0, vS [], vL none 0 0, vI t_Line1, vI t_Column1]) h_13)
theorem e193 (xb1 : Nat) (xo1 : Nat) (t_Kind1 : Int) (t_Text1 : List UInt8) (t_Value1 : Int) (t_Bytes1 : List UInt8) (t_Line1 : Int) (t_Column1 : Int) (h : PHeap) (Q : Value → PHeap → Prop) : dnF Tryz.prog Tryz.f193.ntmps d193 [.cell 4 true 8] [vP xb1 xo1, vA [vI t_Kind1, vS t_Text1, vI t_Value1, vS t_Bytes1, vI t_Line1, vI t_Column1]] h Q = R193 xb1 xo1 t_Kind1 t_Text1 t_Value1 t_Bytes1 t_Line1 t_Column1 h Q := by kernel_rfl
theorem T193 {xb1 : Nat} {xo1 : Nat} {t_Kind1 : Int} {t_Text1 : List UInt8} {t_Value1 : Int} {t_Bytes1 : List UInt8} {t_Line1 : Int} {t_Column1 : Int} {h : PHeap} {Q : Value → PHeap → Prop} (hR : R193 xb1 xo1 t_Kind1 t_Text1 t_Value1 t_Bytes1 t_Line1 t_Column1 h Q) : Tri Tryz.prog 193 [vP xb1 xo1, vA [vI t_Kind1, vS t_Text1, vI t_Value1, vS t_Bytes1, vI t_Line1, vI t_Column1]] h Q :=
  tri_of_dn mixed Tryz.func193 rfl (by kernel_rfl) low193 res193 rfl (Eq.mpr (e193 xb1 xo1 t_Kind1 t_Text1 t_Value1 t_Bytes1 t_Line1 t_Column1 h Q) hR)
/- (*replevin/syntax.parser).name -/
def d202 : DCode :=
  .seq (.ops [⟨some 2, .base (.alloc 48 [vI 0, vS [], vS [], vI 0, vS [], vL none 0 0, vI 0, vI 0] false), none⟩])
 (.seq (.ops [⟨some 5, .base (.mv (.tmp 0)), none⟩,
  ⟨some 6, .call (.func 139) [.tmp 5] (.one true [.int .i64, .str, .int .i64, .str, .int .i64, .int .i64]), none⟩,
  ⟨some 3, .base (.alloc 162 [vI 0, vS [], vI 0, vS [], vI 0, vI 0] false), none⟩,
  ⟨none, .base (.store 6 (.tmp 3) (.tmp 6)), none⟩])
 (.seq (.seq (.ops [⟨some 7, .base (.mv (.tmp 0)), none⟩,
  ⟨some 8, .call (.func 44) [.tmp 7, .const (vS [40])] (.one false [.bool]), none⟩])
 (.cond (.tmp 8) (.seq (.ops [⟨some 9, .base (.mv (.tmp 0)), none⟩,
    ⟨some 10, .load true [.int .i64, .str, .int .i64, .str, .int .i64, .int .i64] (.tmp 3), none⟩,
    ⟨some 11, .call (.func 193) [.tmp 9, .tmp 10] (.one true [.int .i64, .str, .str, .int .i64, .str, .slice, .int .i64, .int .i64]), none⟩,
    ⟨none, .base (.store 8 (.tmp 2) (.tmp 11)), none⟩])
   (.ret))
 (.skip)))
 (.seq (.ops [⟨some 12, .base (.fieldAddr 1 (.tmp 3)), none⟩,
  ⟨some 13, .load false [.str] (.tmp 12), none⟩,
  ⟨some 14, .base (.fieldAddr 4 (.tmp 3)), none⟩,
  ⟨some 15, .load false [.int .i64] (.tmp 14), none⟩,
  ⟨some 16, .base (.fieldAddr 5 (.tmp 3)), none⟩,
  ⟨some 17, .load false [.int .i64] (.tmp 16), none⟩,
  ⟨some 18, .base (.build [vI 0, vS [], vS [], vI 0, vS [], vL none 0 0, vI 0, vI 0] [(0, 1, .const (vI 3)), (2, 1, .tmp 13), (6, 1, .tmp 15), (7, 1, .tmp 17)]), none⟩,
  ⟨some 4, .base (.alloc 48 [vI 0, vS [], vS [], vI 0, vS [], vL none 0 0, vI 0, vI 0] false), none⟩,
  ⟨none, .base (.store 8 (.tmp 4) (.tmp 18)), none⟩])
 (.seq (.seq (.ops [⟨some 19, .base (.mv (.tmp 0)), none⟩,
  ⟨some 20, .call (.func 44) [.tmp 19, .const (vS [91])] (.one false [.bool]), none⟩])
 (.cond (.tmp 20) (.seq (.ops [⟨some 21, .base (.mv (.tmp 0)), none⟩,
    ⟨some 22, .call (.func 92) [.tmp 21, .const (vS [91])] (.tup []), none⟩])
   (.seq (.ops [⟨some 23, .base (.fieldAddr 0 (.tmp 4)), none⟩,
    ⟨none, .base (.store 1 (.tmp 23) (.const (vI 4))), none⟩])
   (.seq (.ops [⟨some 24, .base (.mv (.tmp 0)), none⟩,
    ⟨some 25, .call (.func 91) [.tmp 24] (.one true [.int .i64, .str, .str, .int .i64, .str, .slice, .int .i64, .int .i64]), none⟩,
    ⟨some 26, .heap (.buildSlice 48 1 [vI 0, vS [], vS [], vI 0, vS [], vL none 0 0, vI 0, vI 0] [(0, 8, .tmp 25)]), none⟩,
    ⟨some 27, .base (.fieldAddr 5 (.tmp 4)), none⟩,
    ⟨none, .base (.store 1 (.tmp 27) (.tmp 26)), none⟩])
   (.ops [⟨some 28, .base (.mv (.tmp 0)), none⟩,
    ⟨some 29, .call (.func 92) [.tmp 28, .const (vS [93])] (.tup []), none⟩]))))
 (.skip)))
 (.seq (.ops [⟨some 30, .load true [.int .i64, .str, .str, .int .i64, .str, .slice, .int .i64, .int .i64] (.tmp 4), none⟩,
  ⟨none, .base (.store 8 (.tmp 2) (.tmp 30)), none⟩])
 (.ret))))))
theorem low202 : low Tryz.prog (fun _ => false) (Tryz.f202.body.getD .skip) = some (eC d202) := by kernel_rfl
theorem res202 : lowRes Tryz.prog Tryz.f202.results.toList = some [.cell 2 true 8] := by kernel_rfl
def R202 (xb1 : Nat) (xo1 : Nat) (h : PHeap) (Q : Value → PHeap → Prop) : Prop :=
  Tri Tryz.prog 139 [vP xb1 xo1] h fun v_1 h_1 =>
  ∃ (Kind1 : Int) (Text1 : List UInt8) (Value1 : Int) (Bytes1 : List UInt8) (Line1 Column1 : Int), v_1 = vA [vI Kind1, vS Text1, vI Value1, vS Bytes1, vI Line1, vI Column1] ∧
  Tri Tryz.prog 44 [vP xb1 xo1, vS [40]] h_1 fun v_2 h_2 =>
  ∃ (c1 : Bool), v_2 = vB c1 ∧
  br c1
  (Tri Tryz.prog 193 [vP xb1 xo1, vA [vI Kind1, vS Text1, vI Value1, vS Bytes1, vI Line1, vI Column1]] h_2 fun v_3 h_3 =>
    ∃ (Kind2 : Int) (Op1 Name1 : List UInt8) (Value2 : Int) (Text2 : List UInt8) (Argsa1 : Option Addr) (Argsn1 Argsc1 : Nat) (Line2 Column2 : Int), v_3 = vA [vI Kind2, vS Op1, vS Name1, vI Value2, vS Text2, vL Argsa1 Argsn1 Argsc1, vI Line2, vI Column2] ∧
    Q (vA [vI Kind2, vS Op1, vS Name1, vI Value2, vS Text2, vL Argsa1 Argsn1 Argsc1, vI Line2, vI Column2]) h_3)
  (Tri Tryz.prog 44 [vP xb1 xo1, vS [91]] h_2 fun v_4 h_4 =>
    ∃ (c2 : Bool), v_4 = vB c2 ∧
    br c2
    (Tri Tryz.prog 92 [vP xb1 xo1, vS [91]] h_4 fun v_5 h_5 =>
      v_5 = vT [] ∧
      Tri Tryz.prog 91 [vP xb1 xo1] h_5 fun v_6 h_6 =>
      ∃ (Kind3 : Int) (Op2 Name2 : List UInt8) (Value3 : Int) (Text3 : List UInt8) (Argsa2 : Option Addr) (Argsn2 Argsc2 : Nat) (Line3 Column3 : Int), v_6 = vA [vI Kind3, vS Op2, vS Name2, vI Value3, vS Text3, vL Argsa2 Argsn2 Argsc2, vI Line3, vI Column3] ∧
      ∀ (b1 : Nat), h_6 b1 = none → ∀ (h_7 : PHeap), h_7 = h_6.put b1 (.cells ⟨[vI Kind3, vS Op2, vS Name2, vI Value3, vS Text3, vL Argsa2 Argsn2 Argsc2, vI Line3, vI Column3]⟩ 48) →
      Tri Tryz.prog 92 [vP xb1 xo1, vS [93]] h_7 fun v_7 h_8 =>
      v_7 = vT [] ∧
      Q (vA [vI 4, vS [], vS Text1, vI 0, vS [], vL (ad b1 0) 1 1, vI Line1, vI Column1]) h_8)
    (Q (vA [vI 3, vS [], vS Text1, vI 0, vS [], vL none 0 0, vI Line1, vI Column1]) h_4))
theorem e202 (xb1 : Nat) (xo1 : Nat) (h : PHeap) (Q : Value → PHeap → Prop) : dnF Tryz.prog Tryz.f202.ntmps d202 [.cell 2 true 8] [vP xb1 xo1] h Q = R202 xb1 xo1 h Q := by kernel_rfl
theorem T202 {xb1 : Nat} {xo1 : Nat} {h : PHeap} {Q : Value → PHeap → Prop} (hR : R202 xb1 xo1 h Q) : Tri Tryz.prog 202 [vP xb1 xo1] h Q :=
  tri_of_dn mixed Tryz.func202 rfl (by kernel_rfl) low202 res202 rfl (Eq.mpr (e202 xb1 xo1 h Q) hR)
end Go.Proofs.D
namespace Go.Proofs.L
open Go Go.Den
set_option maxRecDepth 100000
set_option maxHeartbeats 4000000
theorem mixed : Tryz.prog.follows .mixedOrders = true := by kernel_rfl
/- slices.Contains[[]string,string] -/
noncomputable def s102 : {sc : SCode // low Tryz.prog (fun _ => false) (Tryz.f102.body.getD .skip) = some sc} := ⟨_, rfl⟩
noncomputable def r102 : {rs : List SRes // lowRes Tryz.prog Tryz.f102.results.toList = some rs} := ⟨_, rfl⟩
theorem t102 {args : List Value} {h : PHeap} {Q : Value → PHeap → Prop} (hn : Nat.ble args.length Tryz.f102.ntmps = true) (hd : denF Tryz.prog Tryz.f102.ntmps s102.1 r102.1 args h Q) : Tri Tryz.prog 102 args h Q :=
  tri_of_den mixed Tryz.func102 rfl (by kernel_rfl) s102.2 r102.2 hn hd
/- strings.HasPrefix -/
noncomputable def s131 : {sc : SCode // low Tryz.prog (fun _ => false) (Tryz.f131.body.getD .skip) = some sc} := ⟨_, rfl⟩
noncomputable def r131 : {rs : List SRes // lowRes Tryz.prog Tryz.f131.results.toList = some rs} := ⟨_, rfl⟩
theorem t131 {args : List Value} {h : PHeap} {Q : Value → PHeap → Prop} (hn : Nat.ble args.length Tryz.f131.ntmps = true) (hd : denF Tryz.prog Tryz.f131.ntmps s131.1 r131.1 args h Q) : Tri Tryz.prog 131 args h Q :=
  tri_of_den mixed Tryz.func131 rfl (by kernel_rfl) s131.2 r131.2 hn hd
/- replevin/lexer.leading -/
noncomputable def s132 : {sc : SCode // low Tryz.prog (fun _ => false) (Tryz.f132.body.getD .skip) = some sc} := ⟨_, rfl⟩
noncomputable def r132 : {rs : List SRes // lowRes Tryz.prog Tryz.f132.results.toList = some rs} := ⟨_, rfl⟩
theorem t132 {args : List Value} {h : PHeap} {Q : Value → PHeap → Prop} (hn : Nat.ble args.length Tryz.f132.ntmps = true) (hd : denF Tryz.prog Tryz.f132.ntmps s132.1 r132.1 args h Q) : Tri Tryz.prog 132 args h Q :=
  tri_of_den mixed Tryz.func132 rfl (by kernel_rfl) s132.2 r132.2 hn hd
/- (*replevin/lexer.scanner).skip_1 -/
noncomputable def s133 : {sc : SCode // low Tryz.prog (fun _ => false) (Tryz.f133.body.getD .skip) = some sc} := ⟨_, rfl⟩
noncomputable def r133 : {rs : List SRes // lowRes Tryz.prog Tryz.f133.results.toList = some rs} := ⟨_, rfl⟩
theorem t133 {args : List Value} {h : PHeap} {Q : Value → PHeap → Prop} (hn : Nat.ble args.length Tryz.f133.ntmps = true) (hd : denF Tryz.prog Tryz.f133.ntmps s133.1 r133.1 args h Q) : Tri Tryz.prog 133 args h Q :=
  tri_of_den mixed Tryz.func133 rfl (by kernel_rfl) s133.2 r133.2 hn hd
/- replevin/lexer.word -/
noncomputable def s134 : {sc : SCode // low Tryz.prog (fun _ => false) (Tryz.f134.body.getD .skip) = some sc} := ⟨_, rfl⟩
noncomputable def r134 : {rs : List SRes // lowRes Tryz.prog Tryz.f134.results.toList = some rs} := ⟨_, rfl⟩
theorem t134 {args : List Value} {h : PHeap} {Q : Value → PHeap → Prop} (hn : Nat.ble args.length Tryz.f134.ntmps = true) (hd : denF Tryz.prog Tryz.f134.ntmps s134.1 r134.1 args h Q) : Tri Tryz.prog 134 args h Q :=
  tri_of_den mixed Tryz.func134 rfl (by kernel_rfl) s134.2 r134.2 hn hd
/- replevin/lexer.number -/
noncomputable def s135 : {sc : SCode // low Tryz.prog (fun _ => false) (Tryz.f135.body.getD .skip) = some sc} := ⟨_, rfl⟩
noncomputable def r135 : {rs : List SRes // lowRes Tryz.prog Tryz.f135.results.toList = some rs} := ⟨_, rfl⟩
theorem t135 {args : List Value} {h : PHeap} {Q : Value → PHeap → Prop} (hn : Nat.ble args.length Tryz.f135.ntmps = true) (hd : denF Tryz.prog Tryz.f135.ntmps s135.1 r135.1 args h Q) : Tri Tryz.prog 135 args h Q :=
  tri_of_den mixed Tryz.func135 rfl (by kernel_rfl) s135.2 r135.2 hn hd
/- replevin/lexer.character -/
noncomputable def s136 : {sc : SCode // low Tryz.prog (fun _ => false) (Tryz.f136.body.getD .skip) = some sc} := ⟨_, rfl⟩
noncomputable def r136 : {rs : List SRes // lowRes Tryz.prog Tryz.f136.results.toList = some rs} := ⟨_, rfl⟩
theorem t136 {args : List Value} {h : PHeap} {Q : Value → PHeap → Prop} (hn : Nat.ble args.length Tryz.f136.ntmps = true) (hd : denF Tryz.prog Tryz.f136.ntmps s136.1 r136.1 args h Q) : Tri Tryz.prog 136 args h Q :=
  tri_of_den mixed Tryz.func136 rfl (by kernel_rfl) s136.2 r136.2 hn hd
/- replevin/lexer.quoted -/
noncomputable def s137 : {sc : SCode // low Tryz.prog (fun _ => false) (Tryz.f137.body.getD .skip) = some sc} := ⟨_, rfl⟩
noncomputable def r137 : {rs : List SRes // lowRes Tryz.prog Tryz.f137.results.toList = some rs} := ⟨_, rfl⟩
theorem t137 {args : List Value} {h : PHeap} {Q : Value → PHeap → Prop} (hn : Nat.ble args.length Tryz.f137.ntmps = true) (hd : denF Tryz.prog Tryz.f137.ntmps s137.1 r137.1 args h Q) : Tri Tryz.prog 137 args h Q :=
  tri_of_den mixed Tryz.func137 rfl (by kernel_rfl) s137.2 r137.2 hn hd
/- replevin/lexer.symbol -/
noncomputable def s138 : {sc : SCode // low Tryz.prog (fun _ => false) (Tryz.f138.body.getD .skip) = some sc} := ⟨_, rfl⟩
noncomputable def r138 : {rs : List SRes // lowRes Tryz.prog Tryz.f138.results.toList = some rs} := ⟨_, rfl⟩
theorem t138 {args : List Value} {h : PHeap} {Q : Value → PHeap → Prop} (hn : Nat.ble args.length Tryz.f138.ntmps = true) (hd : denF Tryz.prog Tryz.f138.ntmps s138.1 r138.1 args h Q) : Tri Tryz.prog 138 args h Q :=
  tri_of_den mixed Tryz.func138 rfl (by kernel_rfl) s138.2 r138.2 hn hd
/- slices.Index[[]string,string] -/
noncomputable def s149 : {sc : SCode // low Tryz.prog (fun _ => false) (Tryz.f149.body.getD .skip) = some sc} := ⟨_, rfl⟩
noncomputable def r149 : {rs : List SRes // lowRes Tryz.prog Tryz.f149.results.toList = some rs} := ⟨_, rfl⟩
theorem t149 {args : List Value} {h : PHeap} {Q : Value → PHeap → Prop} (hn : Nat.ble args.length Tryz.f149.ntmps = true) (hd : denF Tryz.prog Tryz.f149.ntmps s149.1 r149.1 args h Q) : Tri Tryz.prog 149 args h Q :=
  tri_of_den mixed Tryz.func149 rfl (by kernel_rfl) s149.2 r149.2 hn hd
/- internal/stringslite.HasPrefix -/
noncomputable def s164 : {sc : SCode // low Tryz.prog (fun _ => false) (Tryz.f164.body.getD .skip) = some sc} := ⟨_, rfl⟩
noncomputable def r164 : {rs : List SRes // lowRes Tryz.prog Tryz.f164.results.toList = some rs} := ⟨_, rfl⟩
theorem t164 {args : List Value} {h : PHeap} {Q : Value → PHeap → Prop} (hn : Nat.ble args.length Tryz.f164.ntmps = true) (hd : denF Tryz.prog Tryz.f164.ntmps s164.1 r164.1 args h Q) : Tri Tryz.prog 164 args h Q :=
  tri_of_den mixed Tryz.func164 rfl (by kernel_rfl) s164.2 r164.2 hn hd
/- replevin/lexer.isLetter -/
noncomputable def s165 : {sc : SCode // low Tryz.prog (fun _ => false) (Tryz.f165.body.getD .skip) = some sc} := ⟨_, rfl⟩
noncomputable def r165 : {rs : List SRes // lowRes Tryz.prog Tryz.f165.results.toList = some rs} := ⟨_, rfl⟩
theorem t165 {args : List Value} {h : PHeap} {Q : Value → PHeap → Prop} (hn : Nat.ble args.length Tryz.f165.ntmps = true) (hd : denF Tryz.prog Tryz.f165.ntmps s165.1 r165.1 args h Q) : Tri Tryz.prog 165 args h Q :=
  tri_of_den mixed Tryz.func165 rfl (by kernel_rfl) s165.2 r165.2 hn hd
/- replevin/lexer.isAlphanumeric -/
noncomputable def s166 : {sc : SCode // low Tryz.prog (fun _ => false) (Tryz.f166.body.getD .skip) = some sc} := ⟨_, rfl⟩
noncomputable def r166 : {rs : List SRes // lowRes Tryz.prog Tryz.f166.results.toList = some rs} := ⟨_, rfl⟩
theorem t166 {args : List Value} {h : PHeap} {Q : Value → PHeap → Prop} (hn : Nat.ble args.length Tryz.f166.ntmps = true) (hd : denF Tryz.prog Tryz.f166.ntmps s166.1 r166.1 args h Q) : Tri Tryz.prog 166 args h Q :=
  tri_of_den mixed Tryz.func166 rfl (by kernel_rfl) s166.2 r166.2 hn hd
/- replevin/lexer.Keywords -/
noncomputable def s167 : {sc : SCode // low Tryz.prog (fun _ => false) (Tryz.f167.body.getD .skip) = some sc} := ⟨_, rfl⟩
noncomputable def r167 : {rs : List SRes // lowRes Tryz.prog Tryz.f167.results.toList = some rs} := ⟨_, rfl⟩
theorem t167 {args : List Value} {h : PHeap} {Q : Value → PHeap → Prop} (hn : Nat.ble args.length Tryz.f167.ntmps = true) (hd : denF Tryz.prog Tryz.f167.ntmps s167.1 r167.1 args h Q) : Tri Tryz.prog 167 args h Q :=
  tri_of_den mixed Tryz.func167 rfl (by kernel_rfl) s167.2 r167.2 hn hd
/- replevin/lexer.isDigit -/
noncomputable def s168 : {sc : SCode // low Tryz.prog (fun _ => false) (Tryz.f168.body.getD .skip) = some sc} := ⟨_, rfl⟩
noncomputable def r168 : {rs : List SRes // lowRes Tryz.prog Tryz.f168.results.toList = some rs} := ⟨_, rfl⟩
theorem t168 {args : List Value} {h : PHeap} {Q : Value → PHeap → Prop} (hn : Nat.ble args.length Tryz.f168.ntmps = true) (hd : denF Tryz.prog Tryz.f168.ntmps s168.1 r168.1 args h Q) : Tri Tryz.prog 168 args h Q :=
  tri_of_den mixed Tryz.func168 rfl (by kernel_rfl) s168.2 r168.2 hn hd
/- replevin/lexer.valueOf -/
noncomputable def s169 : {sc : SCode // low Tryz.prog (fun _ => false) (Tryz.f169.body.getD .skip) = some sc} := ⟨_, rfl⟩
noncomputable def r169 : {rs : List SRes // lowRes Tryz.prog Tryz.f169.results.toList = some rs} := ⟨_, rfl⟩
theorem t169 {args : List Value} {h : PHeap} {Q : Value → PHeap → Prop} (hn : Nat.ble args.length Tryz.f169.ntmps = true) (hd : denF Tryz.prog Tryz.f169.ntmps s169.1 r169.1 args h Q) : Tri Tryz.prog 169 args h Q :=
  tri_of_den mixed Tryz.func169 rfl (by kernel_rfl) s169.2 r169.2 hn hd
/- replevin/lexer.one -/
noncomputable def s170 : {sc : SCode // low Tryz.prog (fun _ => false) (Tryz.f170.body.getD .skip) = some sc} := ⟨_, rfl⟩
noncomputable def r170 : {rs : List SRes // lowRes Tryz.prog Tryz.f170.results.toList = some rs} := ⟨_, rfl⟩
theorem t170 {args : List Value} {h : PHeap} {Q : Value → PHeap → Prop} (hn : Nat.ble args.length Tryz.f170.ntmps = true) (hd : denF Tryz.prog Tryz.f170.ntmps s170.1 r170.1 args h Q) : Tri Tryz.prog 170 args h Q :=
  tri_of_den mixed Tryz.func170 rfl (by kernel_rfl) s170.2 r170.2 hn hd
/- replevin/lexer.Symbols -/
noncomputable def s171 : {sc : SCode // low Tryz.prog (fun _ => false) (Tryz.f171.body.getD .skip) = some sc} := ⟨_, rfl⟩
noncomputable def r171 : {rs : List SRes // lowRes Tryz.prog Tryz.f171.results.toList = some rs} := ⟨_, rfl⟩
theorem t171 {args : List Value} {h : PHeap} {Q : Value → PHeap → Prop} (hn : Nat.ble args.length Tryz.f171.ntmps = true) (hd : denF Tryz.prog Tryz.f171.ntmps s171.1 r171.1 args h Q) : Tri Tryz.prog 171 args h Q :=
  tri_of_den mixed Tryz.func171 rfl (by kernel_rfl) s171.2 r171.2 hn hd
/- strings.CutPrefix -/
noncomputable def s187 : {sc : SCode // low Tryz.prog (fun _ => false) (Tryz.f187.body.getD .skip) = some sc} := ⟨_, rfl⟩
noncomputable def r187 : {rs : List SRes // lowRes Tryz.prog Tryz.f187.results.toList = some rs} := ⟨_, rfl⟩
theorem t187 {args : List Value} {h : PHeap} {Q : Value → PHeap → Prop} (hn : Nat.ble args.length Tryz.f187.ntmps = true) (hd : denF Tryz.prog Tryz.f187.ntmps s187.1 r187.1 args h Q) : Tri Tryz.prog 187 args h Q :=
  tri_of_den mixed Tryz.func187 rfl (by kernel_rfl) s187.2 r187.2 hn hd
/- replevin/lexer.isHex -/
noncomputable def s188 : {sc : SCode // low Tryz.prog (fun _ => false) (Tryz.f188.body.getD .skip) = some sc} := ⟨_, rfl⟩
noncomputable def r188 : {rs : List SRes // lowRes Tryz.prog Tryz.f188.results.toList = some rs} := ⟨_, rfl⟩
theorem t188 {args : List Value} {h : PHeap} {Q : Value → PHeap → Prop} (hn : Nat.ble args.length Tryz.f188.ntmps = true) (hd : denF Tryz.prog Tryz.f188.ntmps s188.1 r188.1 args h Q) : Tri Tryz.prog 188 args h Q :=
  tri_of_den mixed Tryz.func188 rfl (by kernel_rfl) s188.2 r188.2 hn hd
/- replevin/lexer.hexValue -/
noncomputable def s189 : {sc : SCode // low Tryz.prog (fun _ => false) (Tryz.f189.body.getD .skip) = some sc} := ⟨_, rfl⟩
noncomputable def r189 : {rs : List SRes // lowRes Tryz.prog Tryz.f189.results.toList = some rs} := ⟨_, rfl⟩
theorem t189 {args : List Value} {h : PHeap} {Q : Value → PHeap → Prop} (hn : Nat.ble args.length Tryz.f189.ntmps = true) (hd : denF Tryz.prog Tryz.f189.ntmps s189.1 r189.1 args h Q) : Tri Tryz.prog 189 args h Q :=
  tri_of_den mixed Tryz.func189 rfl (by kernel_rfl) s189.2 r189.2 hn hd
/- replevin/lexer.escape -/
noncomputable def s190 : {sc : SCode // low Tryz.prog (fun _ => false) (Tryz.f190.body.getD .skip) = some sc} := ⟨_, rfl⟩
noncomputable def r190 : {rs : List SRes // lowRes Tryz.prog Tryz.f190.results.toList = some rs} := ⟨_, rfl⟩
theorem t190 {args : List Value} {h : PHeap} {Q : Value → PHeap → Prop} (hn : Nat.ble args.length Tryz.f190.ntmps = true) (hd : denF Tryz.prog Tryz.f190.ntmps s190.1 r190.1 args h Q) : Tri Tryz.prog 190 args h Q :=
  tri_of_den mixed Tryz.func190 rfl (by kernel_rfl) s190.2 r190.2 hn hd
/- internal/stringslite.CutPrefix -/
noncomputable def s200 : {sc : SCode // low Tryz.prog (fun _ => false) (Tryz.f200.body.getD .skip) = some sc} := ⟨_, rfl⟩
noncomputable def r200 : {rs : List SRes // lowRes Tryz.prog Tryz.f200.results.toList = some rs} := ⟨_, rfl⟩
theorem t200 {args : List Value} {h : PHeap} {Q : Value → PHeap → Prop} (hn : Nat.ble args.length Tryz.f200.ntmps = true) (hd : denF Tryz.prog Tryz.f200.ntmps s200.1 r200.1 args h Q) : Tri Tryz.prog 200 args h Q :=
  tri_of_den mixed Tryz.func200 rfl (by kernel_rfl) s200.2 r200.2 hn hd
end Go.Proofs.L
