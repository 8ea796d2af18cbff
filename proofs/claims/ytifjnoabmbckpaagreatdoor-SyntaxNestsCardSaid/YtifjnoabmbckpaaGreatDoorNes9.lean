import Derived.Test.YtifjnoabmbckpaaGreatDoorNes8
import Derived.Test.YtifjnoabmbckpaaGreatDoorProg
import Derived.WalkKit
import Derived.ProofKit
import Derived.OpenShut
import Derived.Deep.DeepHandedRow
/- The code of functions, as the evaluator reads it; written by a program. -/
namespace Go.Proofs.YtifjnoabmbckpaaGreatDoor.K
open Go Go.Den Go.Ev
set_option maxRecDepth 100000
def c172 : EFn := .mk (nat_lit 23) (.seq (.ops [(.mk (.some (nat_lit 2)) (.x (.alloc (nat_lit 48) (nat_lit 8) (.nd (.nd (.nd (.nd .lf (.some (.int .i64 (.ofNat (nat_lit 0)))) .lf) (.some (.int .i64 (.ofNat (nat_lit 0)))) .lf) (.some (.str (nat_lit 0) (nat_lit 0))) (.nd .lf (.some .nils) .lf)) (.some (.int .i64 (.ofNat (nat_lit 0)))) (.nd (.nd .lf (.some (.str (nat_lit 0) (nat_lit 0))) .lf) (.some (.str (nat_lit 0) (nat_lit 0))) (.nd .lf (.some (.int .i64 (.ofNat (nat_lit 0)))) .lf))))) .none)])
 (.seq (.seq (.ops [(.mk (.some (nat_lit 4)) (.x (.buildSlice (nat_lit 9) (nat_lit 1) (nat_lit 3) [(.str (nat_lit 0) (nat_lit 0)), (.str (nat_lit 0) (nat_lit 0)), (.str (nat_lit 0) (nat_lit 0))] [((nat_lit 0), (nat_lit 1), (.c (.str (nat_lit 1) (nat_lit 45)))), ((nat_lit 1), (nat_lit 1), (.c (.str (nat_lit 1) (nat_lit 33)))), ((nat_lit 2), (nat_lit 1), (.c (.str (nat_lit 1) (nat_lit 126))))])) .none), (.mk (.some (nat_lit 5)) (.p (.mv (.r (nat_lit 0)))) .none), (.mk (.some (nat_lit 6)) (.p (.mkfn (nat_lit 44) [(.r (nat_lit 5))] [])) .none), (.mk (.some (nat_lit 7)) (.x (.call (.c (.fn (nat_lit 191) [] [])) [(.r (nat_lit 4)), (.r (nat_lit 6))])) .none), (.mk (.some (nat_lit 8)) (.p (.un .not (.r (nat_lit 7)))) .none)])
 (.cond (.r (nat_lit 8)) (.seq (.ops [(.mk (.some (nat_lit 9)) (.p (.mv (.r (nat_lit 0)))) .none), (.mk (.some (nat_lit 10)) (.x (.call (.c (.fn (nat_lit 192) [] [])) [(.r (nat_lit 9))])) .none), (.mk .none (.x (.store (nat_lit 8) (.r (nat_lit 2)) (.r (nat_lit 10)))) .none)])
 .ret) .skip))
 (.seq (.ops [(.mk (.some (nat_lit 11)) (.p (.mv (.r (nat_lit 0)))) .none), (.mk (.some (nat_lit 12)) (.x (.call (.c (.fn (nat_lit 139) [] [])) [(.r (nat_lit 11))])) .none), (.mk (.some (nat_lit 3)) (.x (.alloc (nat_lit 162) (nat_lit 6) (.nd (.nd (.nd .lf (.some (.str (nat_lit 0) (nat_lit 0))) .lf) (.some (.str (nat_lit 0) (nat_lit 0))) (.nd .lf (.some (.int .i64 (.ofNat (nat_lit 0)))) .lf)) (.some (.int .i64 (.ofNat (nat_lit 0)))) (.nd (.nd .lf (.some (.int .i64 (.ofNat (nat_lit 0)))) .lf) (.some (.int .i64 (.ofNat (nat_lit 0)))) .lf)))) .none), (.mk .none (.x (.store (nat_lit 6) (.r (nat_lit 3)) (.r (nat_lit 12)))) .none)])
 (.seq (.plan (.take (nat_lit 0) (.mk (.some (nat_lit 13)) (.p (.fieldAddr (nat_lit 1) (.r (nat_lit 3)))) .none) (.take (nat_lit 1) (.mk (.some (nat_lit 14)) (.load .false (nat_lit 1) (.r (nat_lit 13))) .none) (.take (nat_lit 2) (.mk (.some (nat_lit 15)) (.p (.mv (.r (nat_lit 0)))) .none) (.take (nat_lit 5) (.mk (.some (nat_lit 18)) (.p (.fieldAddr (nat_lit 4) (.r (nat_lit 3)))) .none) (.take (nat_lit 6) (.mk (.some (nat_lit 19)) (.load .false (nat_lit 1) (.r (nat_lit 18))) .none) (.take (nat_lit 7) (.mk (.some (nat_lit 20)) (.p (.fieldAddr (nat_lit 5) (.r (nat_lit 3)))) .none) (.take (nat_lit 8) (.mk (.some (nat_lit 21)) (.load .false (nat_lit 1) (.r (nat_lit 20))) .none) (.eff (.mk (.some (nat_lit 16)) (.x (.call (.c (.fn (nat_lit 172) [] [])) [(.r (nat_lit 15))])) .none) [(nat_lit 2)] (.eff (.mk (.some (nat_lit 17)) (.x (.buildSlice (nat_lit 48) (nat_lit 8) (nat_lit 1) [(.int .i64 (.ofNat (nat_lit 0))), (.str (nat_lit 0) (nat_lit 0)), (.str (nat_lit 0) (nat_lit 0)), (.int .i64 (.ofNat (nat_lit 0))), (.str (nat_lit 0) (nat_lit 0)), .nils, (.int .i64 (.ofNat (nat_lit 0))), (.int .i64 (.ofNat (nat_lit 0)))] [((nat_lit 0), (nat_lit 8), (.r (nat_lit 16)))])) .none) [(nat_lit 3)] (.take (nat_lit 9) (.mk (.some (nat_lit 22)) (.p (.build [(.int .i64 (.ofNat (nat_lit 0))), (.str (nat_lit 0) (nat_lit 0)), (.str (nat_lit 0) (nat_lit 0)), (.int .i64 (.ofNat (nat_lit 0))), (.str (nat_lit 0) (nat_lit 0)), .nils, (.int .i64 (.ofNat (nat_lit 0))), (.int .i64 (.ofNat (nat_lit 0)))] [((nat_lit 0), (nat_lit 1), (.c (.int .i64 (.ofNat (nat_lit 6))))), ((nat_lit 1), (nat_lit 1), (.r (nat_lit 14))), ((nat_lit 5), (nat_lit 1), (.r (nat_lit 17))), ((nat_lit 6), (nat_lit 1), (.r (nat_lit 19))), ((nat_lit 7), (nat_lit 1), (.r (nat_lit 21)))])) .none) (.eff (.mk .none (.x (.store (nat_lit 8) (.r (nat_lit 2)) (.r (nat_lit 22)))) .none) [(nat_lit 9), (nat_lit 3), (nat_lit 0), (nat_lit 1), (nat_lit 2), (nat_lit 3), (nat_lit 4), (nat_lit 5), (nat_lit 6), (nat_lit 7), (nat_lit 8), (nat_lit 9)] .nil))))))))))))
 .ret)))) [.cell (nat_lit 2) .true (nat_lit 8)]
def c173 : EFn := .mk (nat_lit 51) (.seq (.ops [(.mk (.some (nat_lit 2)) (.x (.alloc (nat_lit 56) (nat_lit 7) (.nd (.nd (.nd .lf (.some .nils) .lf) (.some (.str (nat_lit 0) (nat_lit 0))) (.nd .lf (.some (.int .i64 (.ofNat (nat_lit 0)))) .lf)) (.some (.int .i64 (.ofNat (nat_lit 0)))) (.nd (.nd .lf (.some .nils) .lf) (.some .nils) (.nd .lf (.some (.int .i64 (.ofNat (nat_lit 0)))) .lf))))) .none)])
 (.seq (.ops [(.mk (.some (nat_lit 6)) (.p (.mv (.r (nat_lit 0)))) .none), (.mk (.some (nat_lit 7)) (.p (.nilCheck (.r (nat_lit 6)))) .none), (.mk (.some (nat_lit 8)) (.p (.fieldAddr (nat_lit 0) (.r (nat_lit 7)))) .none), (.mk (.some (nat_lit 9)) (.load .false (nat_lit 1) (.r (nat_lit 8))) .none), (.mk (.some (nat_lit 10)) (.p (.indexAddr (nat_lit 6) (.r (nat_lit 9)) (.c (.int .i64 (.ofNat (nat_lit 0)))))) .none), (.mk (.some (nat_lit 11)) (.load .true (nat_lit 6) (.r (nat_lit 10))) .none), (.mk (.some (nat_lit 3)) (.x (.alloc (nat_lit 162) (nat_lit 6) (.nd (.nd (.nd .lf (.some (.str (nat_lit 0) (nat_lit 0))) .lf) (.some (.str (nat_lit 0) (nat_lit 0))) (.nd .lf (.some (.int .i64 (.ofNat (nat_lit 0)))) .lf)) (.some (.int .i64 (.ofNat (nat_lit 0)))) (.nd (.nd .lf (.some (.int .i64 (.ofNat (nat_lit 0)))) .lf) (.some (.int .i64 (.ofNat (nat_lit 0)))) .lf)))) .none), (.mk .none (.x (.store (nat_lit 6) (.r (nat_lit 3)) (.r (nat_lit 11)))) .none)])
 (.seq (.ops [(.mk (.some (nat_lit 12)) (.p (.mv (.r (nat_lit 0)))) .none), (.mk (.some (nat_lit 13)) (.x (.call (.c (.fn (nat_lit 88) [] [])) [(.r (nat_lit 12)), (.c (.int .i64 (.ofNat (nat_lit 2))))])) .none), (.mk (.some (nat_lit 4)) (.x (.alloc (nat_lit 56) (nat_lit 7) (.nd (.nd (.nd .lf (.some .nils) .lf) (.some (.str (nat_lit 0) (nat_lit 0))) (.nd .lf (.some (.int .i64 (.ofNat (nat_lit 0)))) .lf)) (.some (.int .i64 (.ofNat (nat_lit 0)))) (.nd (.nd .lf (.some .nils) .lf) (.some .nils) (.nd .lf (.some (.int .i64 (.ofNat (nat_lit 0)))) .lf))))) .none), (.mk .none (.x (.store (nat_lit 7) (.r (nat_lit 4)) (.r (nat_lit 13)))) .none)])
 (.seq (.block (nat_lit 0) (.seq (.ops [(.mk (.some (nat_lit 21)) (.p (.mv (.r (nat_lit 0)))) .none), (.mk (.some (nat_lit 22)) (.x (.call (.c (.fn (nat_lit 90) [] [])) [(.r (nat_lit 21)), (.c (.str (nat_lit 1) (nat_lit 61)))])) .none), (.mk (.some (nat_lit 20)) (.p (.mv (.r (nat_lit 22)))) .none)])
 (.cond (.r (nat_lit 20)) (.seq (.ops [(.mk (.some (nat_lit 23)) (.p (.fieldAddr (nat_lit 1) (.r (nat_lit 3)))) .none), (.mk (.some (nat_lit 24)) (.load .false (nat_lit 1) (.r (nat_lit 23))) .none), (.mk (.some (nat_lit 25)) (.p (.fieldAddr (nat_lit 1) (.r (nat_lit 4)))) .none), (.mk .none (.x (.store (nat_lit 1) (.r (nat_lit 25)) (.r (nat_lit 24)))) .none)])
 (.ops [(.mk (.some (nat_lit 26)) (.p (.mv (.r (nat_lit 0)))) .none), (.mk (.some (nat_lit 27)) (.x (.call (.c (.fn (nat_lit 91) [] [])) [(.r (nat_lit 26))])) .none), (.mk (.some (nat_lit 28)) (.x (.buildSlice (nat_lit 48) (nat_lit 8) (nat_lit 1) [(.int .i64 (.ofNat (nat_lit 0))), (.str (nat_lit 0) (nat_lit 0)), (.str (nat_lit 0) (nat_lit 0)), (.int .i64 (.ofNat (nat_lit 0))), (.str (nat_lit 0) (nat_lit 0)), .nils, (.int .i64 (.ofNat (nat_lit 0))), (.int .i64 (.ofNat (nat_lit 0)))] [((nat_lit 0), (nat_lit 8), (.r (nat_lit 27)))])) .none), (.mk (.some (nat_lit 29)) (.p (.fieldAddr (nat_lit 2) (.r (nat_lit 4)))) .none), (.mk .none (.x (.store (nat_lit 1) (.r (nat_lit 29)) (.r (nat_lit 28)))) .none)])) (.seq (.ops [(.mk (.some (nat_lit 31)) (.p (.mv (.r (nat_lit 0)))) .none), (.mk (.some (nat_lit 32)) (.x (.call (.c (.fn (nat_lit 90) [] [])) [(.r (nat_lit 31)), (.c (.str (nat_lit 1) (nat_lit 91)))])) .none), (.mk (.some (nat_lit 30)) (.p (.mv (.r (nat_lit 32)))) .none)])
 (.cond (.r (nat_lit 30)) (.seq (.plan (.take (nat_lit 0) (.mk (.some (nat_lit 33)) (.p (.fieldAddr (nat_lit 1) (.r (nat_lit 3)))) .none) (.take (nat_lit 1) (.mk (.some (nat_lit 34)) (.load .false (nat_lit 1) (.r (nat_lit 33))) .none) (.take (nat_lit 2) (.mk (.some (nat_lit 35)) (.p (.fieldAddr (nat_lit 0) (.r (nat_lit 4)))) .none) (.eff (.mk .none (.x (.store (nat_lit 1) (.r (nat_lit 35)) (.c (.int .i64 (.ofNat (nat_lit 3)))))) .none) [(nat_lit 2)] (.take (nat_lit 4) (.mk (.some (nat_lit 36)) (.p (.fieldAddr (nat_lit 1) (.r (nat_lit 4)))) .none) (.eff (.mk .none (.x (.store (nat_lit 1) (.r (nat_lit 36)) (.r (nat_lit 34)))) .none) [(nat_lit 4), (nat_lit 1), (nat_lit 3), (nat_lit 0), (nat_lit 1), (nat_lit 2), (nat_lit 3)] .nil)))))))
 (.seq (.ops [(.mk (.some (nat_lit 37)) (.p (.mv (.r (nat_lit 0)))) .none), (.mk (.some (nat_lit 38)) (.x (.call (.c (.fn (nat_lit 91) [] [])) [(.r (nat_lit 37))])) .none), (.mk (.some (nat_lit 5)) (.x (.alloc (nat_lit 48) (nat_lit 8) (.nd (.nd (.nd (.nd .lf (.some (.int .i64 (.ofNat (nat_lit 0)))) .lf) (.some (.int .i64 (.ofNat (nat_lit 0)))) .lf) (.some (.str (nat_lit 0) (nat_lit 0))) (.nd .lf (.some .nils) .lf)) (.some (.int .i64 (.ofNat (nat_lit 0)))) (.nd (.nd .lf (.some (.str (nat_lit 0) (nat_lit 0))) .lf) (.some (.str (nat_lit 0) (nat_lit 0))) (.nd .lf (.some (.int .i64 (.ofNat (nat_lit 0)))) .lf))))) .none), (.mk .none (.x (.store (nat_lit 8) (.r (nat_lit 5)) (.r (nat_lit 38)))) .none)])
 (.seq (.ops [(.mk (.some (nat_lit 39)) (.p (.mv (.r (nat_lit 0)))) .none), (.mk (.some (nat_lit 40)) (.x (.call (.c (.fn (nat_lit 92) [] [])) [(.r (nat_lit 39)), (.c (.str (nat_lit 1) (nat_lit 93)))])) .none)])
 (.seq (.ops [(.mk (.some (nat_lit 41)) (.p (.mv (.r (nat_lit 0)))) .none), (.mk (.some (nat_lit 42)) (.x (.call (.c (.fn (nat_lit 92) [] [])) [(.r (nat_lit 41)), (.c (.str (nat_lit 1) (nat_lit 61)))])) .none)])
 (.plan (.take (nat_lit 0) (.mk (.some (nat_lit 43)) (.load .true (nat_lit 8) (.r (nat_lit 5))) .none) (.take (nat_lit 1) (.mk (.some (nat_lit 44)) (.p (.mv (.r (nat_lit 0)))) .none) (.eff (.mk (.some (nat_lit 45)) (.x (.call (.c (.fn (nat_lit 91) [] [])) [(.r (nat_lit 44))])) .none) [(nat_lit 1)] (.eff (.mk (.some (nat_lit 46)) (.x (.buildSlice (nat_lit 48) (nat_lit 8) (nat_lit 2) [(.int .i64 (.ofNat (nat_lit 0))), (.str (nat_lit 0) (nat_lit 0)), (.str (nat_lit 0) (nat_lit 0)), (.int .i64 (.ofNat (nat_lit 0))), (.str (nat_lit 0) (nat_lit 0)), .nils, (.int .i64 (.ofNat (nat_lit 0))), (.int .i64 (.ofNat (nat_lit 0))), (.int .i64 (.ofNat (nat_lit 0))), (.str (nat_lit 0) (nat_lit 0)), (.str (nat_lit 0) (nat_lit 0)), (.int .i64 (.ofNat (nat_lit 0))), (.str (nat_lit 0) (nat_lit 0)), .nils, (.int .i64 (.ofNat (nat_lit 0))), (.int .i64 (.ofNat (nat_lit 0)))] [((nat_lit 0), (nat_lit 8), (.r (nat_lit 43))), ((nat_lit 8), (nat_lit 8), (.r (nat_lit 45)))])) .none) [(nat_lit 0), (nat_lit 2)] (.take (nat_lit 4) (.mk (.some (nat_lit 47)) (.p (.fieldAddr (nat_lit 2) (.r (nat_lit 4)))) .none) (.eff (.mk .none (.x (.store (nat_lit 1) (.r (nat_lit 47)) (.r (nat_lit 46)))) .none) [(nat_lit 4), (nat_lit 3), (nat_lit 2), (nat_lit 0), (nat_lit 1), (nat_lit 2), (nat_lit 3)] .nil))))))))))) (.seq (.ops [(.mk (.some (nat_lit 14)) (.p (.fieldAddr (nat_lit 0) (.r (nat_lit 4)))) .none), (.mk .none (.x (.store (nat_lit 1) (.r (nat_lit 14)) (.c (.int .i64 (.ofNat (nat_lit 4)))))) .none)])
 (.ops [(.mk (.some (nat_lit 15)) (.p (.mv (.r (nat_lit 0)))) .none), (.mk (.some (nat_lit 16)) (.load .true (nat_lit 6) (.r (nat_lit 3))) .none), (.mk (.some (nat_lit 17)) (.x (.call (.c (.fn (nat_lit 193) [] [])) [(.r (nat_lit 15)), (.r (nat_lit 16))])) .none), (.mk (.some (nat_lit 18)) (.x (.buildSlice (nat_lit 48) (nat_lit 8) (nat_lit 1) [(.int .i64 (.ofNat (nat_lit 0))), (.str (nat_lit 0) (nat_lit 0)), (.str (nat_lit 0) (nat_lit 0)), (.int .i64 (.ofNat (nat_lit 0))), (.str (nat_lit 0) (nat_lit 0)), .nils, (.int .i64 (.ofNat (nat_lit 0))), (.int .i64 (.ofNat (nat_lit 0)))] [((nat_lit 0), (nat_lit 8), (.r (nat_lit 17)))])) .none), (.mk (.some (nat_lit 19)) (.p (.fieldAddr (nat_lit 2) (.r (nat_lit 4)))) .none), (.mk .none (.x (.store (nat_lit 1) (.r (nat_lit 19)) (.r (nat_lit 18)))) .none)])))))))
 (.seq (.ops [(.mk (.some (nat_lit 48)) (.p (.mv (.r (nat_lit 0)))) .none), (.mk (.some (nat_lit 49)) (.x (.call (.c (.fn (nat_lit 92) [] [])) [(.r (nat_lit 48)), (.c (.str (nat_lit 1) (nat_lit 59)))])) .none)])
 (.seq (.ops [(.mk (.some (nat_lit 50)) (.load .true (nat_lit 7) (.r (nat_lit 4))) .none), (.mk .none (.x (.store (nat_lit 7) (.r (nat_lit 2)) (.r (nat_lit 50)))) .none)])
 .ret)))))) [.cell (nat_lit 2) .true (nat_lit 7)]
def c175 : EFn := .mk (nat_lit 19) (.seq (.ops [(.mk (.some (nat_lit 4)) (.p (.mv (.c (.int .i64 (.ofNat (nat_lit 0)))))) .none)])
 (.seq (.seq (.ops [(.mk (.some (nat_lit 6)) (.p (.mv (.r (nat_lit 0)))) .none), (.mk (.some (nat_lit 7)) (.p (.len .false (.r (nat_lit 6)))) .none), (.mk (.some (nat_lit 8)) (.p (.mv (.c (.int .i64 (.ofNat (nat_lit 0)))))) .none)])
 (.block (nat_lit 0) (.loop (.seq (.ops [(.mk (.some (nat_lit 9)) (.p (.bin .lss (.r (nat_lit 8)) (.r (nat_lit 7)))) .none)])
 (.seq (.cond (.r (nat_lit 9)) .skip (.exit (nat_lit 0)))
 (.seq (.block (nat_lit 1) (.seq (.ops [(.mk (.some (nat_lit 10)) (.p (.mv (.r (nat_lit 8)))) .none), (.mk (.some (nat_lit 5)) (.p (.mv (.r (nat_lit 10)))) .none)])
 (.seq (.ops [(.mk (.some (nat_lit 11)) (.p (.mv (.r (nat_lit 1)))) .none), (.mk (.some (nat_lit 12)) (.p (.mv (.r (nat_lit 0)))) .none), (.mk (.some (nat_lit 13)) (.p (.mv (.r (nat_lit 5)))) .none), (.mk (.some (nat_lit 14)) (.p (.indexAddr (nat_lit 7) (.r (nat_lit 12)) (.r (nat_lit 13)))) .none), (.mk (.some (nat_lit 15)) (.load .true (nat_lit 7) (.r (nat_lit 14))) .none), (.mk (.some (nat_lit 16)) (.x (.call (.r (nat_lit 11)) [(.r (nat_lit 15))])) .none)])
 (.cond (.r (nat_lit 16)) (.seq (.ops [(.mk (.some (nat_lit 17)) (.p (.mv (.r (nat_lit 5)))) .none), (.mk (.some (nat_lit 4)) (.p (.mv (.r (nat_lit 17)))) .none)])
 .ret) .skip))))
 (.ops [(.mk (.some (nat_lit 18)) (.p (.bin .add (.r (nat_lit 8)) (.c (.int .i64 (.ofNat (nat_lit 1)))))) .none), (.mk (.some (nat_lit 8)) (.p (.mv (.r (nat_lit 18)))) .none)])))))))
 (.seq (.ops [(.mk (.some (nat_lit 4)) (.p (.mv (.c (.int .i64 (.negSucc (nat_lit 0)))))) .none)])
 .ret))) [.tmp (nat_lit 4)]
def c176 : EFn := .mk (nat_lit 8) (.seq (.ops [(.mk (.some (nat_lit 2)) (.x (.box (nat_lit 48) (.r (nat_lit 0)))) .none), (.mk (.some (nat_lit 3)) (.p (.mv (.c (.bool .false)))) .none)])
 (.seq (.ops [(.mk (.some (nat_lit 4)) (.load .false (nat_lit 1) (.r (nat_lit 1))) .none), (.mk (.some (nat_lit 5)) (.load .true (nat_lit 8) (.r (nat_lit 2))) .none), (.mk (.some (nat_lit 6)) (.x (.call (.c (.fn (nat_lit 66) [] [])) [(.r (nat_lit 4)), (.r (nat_lit 5))])) .none), (.mk (.some (nat_lit 7)) (.p (.un .not (.r (nat_lit 6)))) .none), (.mk (.some (nat_lit 3)) (.p (.mv (.r (nat_lit 7)))) .none)])
 .ret)) [.tmp (nat_lit 3)]
def c180 : EFn := .mk (nat_lit 15) (.seq (.ops [(.mk (.some (nat_lit 2)) (.p (.mv (.c (.str (nat_lit 0) (nat_lit 0))))) .none)])
 (.seq (.seq (.ops [(.mk (.some (nat_lit 3)) (.p (.mv (.r (nat_lit 0)))) .none), (.mk (.some (nat_lit 4)) (.p (.bin .lss (.r (nat_lit 3)) (.c (.int .i64 (.ofNat (nat_lit 10)))))) .none)])
 (.cond (.r (nat_lit 4)) (.seq (.ops [(.mk (.some (nat_lit 5)) (.p (.mv (.r (nat_lit 0)))) .none), (.mk (.some (nat_lit 6)) (.p (.mv (.r (nat_lit 0)))) .none), (.mk (.some (nat_lit 7)) (.p (.bin .add (.r (nat_lit 6)) (.c (.int .i64 (.ofNat (nat_lit 1)))))) .none), (.mk (.some (nat_lit 8)) (.p (.sliceS (.c (.str (nat_lit 36) (nat_lit 237927390410950444456928663707796224754864904193074819559483181009558347043374296609072))) (.some (.r (nat_lit 5))) (.some (.r (nat_lit 7))))) .none), (.mk (.some (nat_lit 2)) (.p (.mv (.r (nat_lit 8)))) .none)])
 .ret) .skip))
 (.seq (.ops [(.mk (.some (nat_lit 9)) (.p (.mv (.r (nat_lit 0)))) .none), (.mk (.some (nat_lit 10)) (.p (.bin .mul (.r (nat_lit 9)) (.c (.int .i64 (.ofNat (nat_lit 2)))))) .none), (.mk (.some (nat_lit 11)) (.p (.mv (.r (nat_lit 0)))) .none), (.mk (.some (nat_lit 12)) (.p (.bin .mul (.r (nat_lit 11)) (.c (.int .i64 (.ofNat (nat_lit 2)))))) .none), (.mk (.some (nat_lit 13)) (.p (.bin .add (.r (nat_lit 12)) (.c (.int .i64 (.ofNat (nat_lit 2)))))) .none), (.mk (.some (nat_lit 14)) (.p (.sliceS (.c (.str (nat_lit 200) (nat_lit 9938655150514779720929161263213647789093395803754561035662628441001274968862597953692946393464194303251501229616933063375291039650253924995779037586872666250072396106842829501851083234932712366962979930255066872747696324303968523733872590022915936937156789320557469720923390131174387415513794469201054844961267015441141542819553679203788501627738430154234325528792480477051962324423099068299719245009424585859096469223093538032153047611602695245052081125123941502624659711709950000))) (.some (.r (nat_lit 10))) (.some (.r (nat_lit 13))))) .none), (.mk (.some (nat_lit 2)) (.p (.mv (.r (nat_lit 14)))) .none)])
 .ret))) [.tmp (nat_lit 2)]
def c187 : EFn := .mk (nat_lit 11) (.seq (.ops [(.mk (.some (nat_lit 4)) (.p (.mv (.c (.str (nat_lit 0) (nat_lit 0))))) .none), (.mk (.some (nat_lit 5)) (.p (.mv (.c (.bool .false)))) .none)])
 (.seq (.ops [(.mk (.some (nat_lit 6)) (.p (.mv (.r (nat_lit 0)))) .none), (.mk (.some (nat_lit 7)) (.p (.mv (.r (nat_lit 1)))) .none), (.mk (.some (nat_lit 8)) (.x (.call (.c (.fn (nat_lit 200) [] [])) [(.r (nat_lit 6)), (.r (nat_lit 7))])) .none), (.mk (.some (nat_lit 9)) (.p (.extract (.r (nat_lit 8)) (nat_lit 0))) .none), (.mk (.some (nat_lit 10)) (.p (.extract (.r (nat_lit 8)) (nat_lit 1))) .none), (.mk (.some (nat_lit 4)) (.p (.mv (.r (nat_lit 9)))) .none), (.mk (.some (nat_lit 5)) (.p (.mv (.r (nat_lit 10)))) .none)])
 .ret)) [.tmp (nat_lit 4), .tmp (nat_lit 5)]
def c191 : EFn := .mk (nat_lit 9) (.seq (.ops [(.mk (.some (nat_lit 4)) (.p (.mv (.c (.bool .false)))) .none)])
 (.seq (.ops [(.mk (.some (nat_lit 5)) (.p (.mv (.r (nat_lit 0)))) .none), (.mk (.some (nat_lit 6)) (.p (.mv (.r (nat_lit 1)))) .none), (.mk (.some (nat_lit 7)) (.x (.call (.c (.fn (nat_lit 201) [] [])) [(.r (nat_lit 5)), (.r (nat_lit 6))])) .none), (.mk (.some (nat_lit 8)) (.p (.bin .geq (.r (nat_lit 7)) (.c (.int .i64 (.ofNat (nat_lit 0)))))) .none), (.mk (.some (nat_lit 4)) (.p (.mv (.r (nat_lit 8)))) .none)])
 .ret)) [.tmp (nat_lit 4)]
def c192 : EFn := .mk (nat_lit 48) (.seq (.ops [(.mk (.some (nat_lit 2)) (.x (.alloc (nat_lit 48) (nat_lit 8) (.nd (.nd (.nd (.nd .lf (.some (.int .i64 (.ofNat (nat_lit 0)))) .lf) (.some (.int .i64 (.ofNat (nat_lit 0)))) .lf) (.some (.str (nat_lit 0) (nat_lit 0))) (.nd .lf (.some .nils) .lf)) (.some (.int .i64 (.ofNat (nat_lit 0)))) (.nd (.nd .lf (.some (.str (nat_lit 0) (nat_lit 0))) .lf) (.some (.str (nat_lit 0) (nat_lit 0))) (.nd .lf (.some (.int .i64 (.ofNat (nat_lit 0)))) .lf))))) .none)])
 (.seq (.block (nat_lit 0) (.seq (.ops [(.mk (.some (nat_lit 7)) (.p (.mv (.r (nat_lit 0)))) .none), (.mk (.some (nat_lit 8)) (.x (.call (.c (.fn (nat_lit 43) [] [])) [(.r (nat_lit 7)), (.c (.int .i64 (.ofNat (nat_lit 2))))])) .none), (.mk (.some (nat_lit 6)) (.p (.mv (.r (nat_lit 8)))) .none)])
 (.cond (.r (nat_lit 6)) (.seq (.ops [(.mk (.some (nat_lit 9)) (.p (.mv (.r (nat_lit 0)))) .none), (.mk (.some (nat_lit 10)) (.x (.call (.c (.fn (nat_lit 139) [] [])) [(.r (nat_lit 9))])) .none), (.mk (.some (nat_lit 3)) (.x (.alloc (nat_lit 162) (nat_lit 6) (.nd (.nd (.nd .lf (.some (.str (nat_lit 0) (nat_lit 0))) .lf) (.some (.str (nat_lit 0) (nat_lit 0))) (.nd .lf (.some (.int .i64 (.ofNat (nat_lit 0)))) .lf)) (.some (.int .i64 (.ofNat (nat_lit 0)))) (.nd (.nd .lf (.some (.int .i64 (.ofNat (nat_lit 0)))) .lf) (.some (.int .i64 (.ofNat (nat_lit 0)))) .lf)))) .none), (.mk .none (.x (.store (nat_lit 6) (.r (nat_lit 3)) (.r (nat_lit 10)))) .none)])
 (.seq (.ops [(.mk (.some (nat_lit 11)) (.p (.fieldAddr (nat_lit 2) (.r (nat_lit 3)))) .none), (.mk (.some (nat_lit 12)) (.load .false (nat_lit 1) (.r (nat_lit 11))) .none), (.mk (.some (nat_lit 13)) (.p (.fieldAddr (nat_lit 4) (.r (nat_lit 3)))) .none), (.mk (.some (nat_lit 14)) (.load .false (nat_lit 1) (.r (nat_lit 13))) .none), (.mk (.some (nat_lit 15)) (.p (.fieldAddr (nat_lit 5) (.r (nat_lit 3)))) .none), (.mk (.some (nat_lit 16)) (.load .false (nat_lit 1) (.r (nat_lit 15))) .none), (.mk (.some (nat_lit 17)) (.p (.build [(.int .i64 (.ofNat (nat_lit 0))), (.str (nat_lit 0) (nat_lit 0)), (.str (nat_lit 0) (nat_lit 0)), (.int .i64 (.ofNat (nat_lit 0))), (.str (nat_lit 0) (nat_lit 0)), .nils, (.int .i64 (.ofNat (nat_lit 0))), (.int .i64 (.ofNat (nat_lit 0)))] [((nat_lit 0), (nat_lit 1), (.c (.int .i64 (.ofNat (nat_lit 1))))), ((nat_lit 3), (nat_lit 1), (.r (nat_lit 12))), ((nat_lit 6), (nat_lit 1), (.r (nat_lit 14))), ((nat_lit 7), (nat_lit 1), (.r (nat_lit 16)))])) .none), (.mk .none (.x (.store (nat_lit 8) (.r (nat_lit 2)) (.r (nat_lit 17)))) .none)])
 .ret)) (.seq (.ops [(.mk (.some (nat_lit 19)) (.p (.mv (.r (nat_lit 0)))) .none), (.mk (.some (nat_lit 20)) (.x (.call (.c (.fn (nat_lit 43) [] [])) [(.r (nat_lit 19)), (.c (.int .i64 (.ofNat (nat_lit 3))))])) .none), (.mk (.some (nat_lit 18)) (.p (.mv (.r (nat_lit 20)))) .none)])
 (.cond (.r (nat_lit 18)) (.seq (.ops [(.mk (.some (nat_lit 21)) (.p (.mv (.r (nat_lit 0)))) .none), (.mk (.some (nat_lit 22)) (.x (.call (.c (.fn (nat_lit 139) [] [])) [(.r (nat_lit 21))])) .none), (.mk (.some (nat_lit 4)) (.x (.alloc (nat_lit 162) (nat_lit 6) (.nd (.nd (.nd .lf (.some (.str (nat_lit 0) (nat_lit 0))) .lf) (.some (.str (nat_lit 0) (nat_lit 0))) (.nd .lf (.some (.int .i64 (.ofNat (nat_lit 0)))) .lf)) (.some (.int .i64 (.ofNat (nat_lit 0)))) (.nd (.nd .lf (.some (.int .i64 (.ofNat (nat_lit 0)))) .lf) (.some (.int .i64 (.ofNat (nat_lit 0)))) .lf)))) .none), (.mk .none (.x (.store (nat_lit 6) (.r (nat_lit 4)) (.r (nat_lit 22)))) .none)])
 (.seq (.ops [(.mk (.some (nat_lit 23)) (.p (.fieldAddr (nat_lit 3) (.r (nat_lit 4)))) .none), (.mk (.some (nat_lit 24)) (.load .false (nat_lit 1) (.r (nat_lit 23))) .none), (.mk (.some (nat_lit 25)) (.p (.fieldAddr (nat_lit 4) (.r (nat_lit 4)))) .none), (.mk (.some (nat_lit 26)) (.load .false (nat_lit 1) (.r (nat_lit 25))) .none), (.mk (.some (nat_lit 27)) (.p (.fieldAddr (nat_lit 5) (.r (nat_lit 4)))) .none), (.mk (.some (nat_lit 28)) (.load .false (nat_lit 1) (.r (nat_lit 27))) .none), (.mk (.some (nat_lit 29)) (.p (.build [(.int .i64 (.ofNat (nat_lit 0))), (.str (nat_lit 0) (nat_lit 0)), (.str (nat_lit 0) (nat_lit 0)), (.int .i64 (.ofNat (nat_lit 0))), (.str (nat_lit 0) (nat_lit 0)), .nils, (.int .i64 (.ofNat (nat_lit 0))), (.int .i64 (.ofNat (nat_lit 0)))] [((nat_lit 0), (nat_lit 1), (.c (.int .i64 (.ofNat (nat_lit 2))))), ((nat_lit 4), (nat_lit 1), (.r (nat_lit 24))), ((nat_lit 6), (nat_lit 1), (.r (nat_lit 26))), ((nat_lit 7), (nat_lit 1), (.r (nat_lit 28)))])) .none), (.mk .none (.x (.store (nat_lit 8) (.r (nat_lit 2)) (.r (nat_lit 29)))) .none)])
 .ret)) (.seq (.ops [(.mk (.some (nat_lit 31)) (.p (.mv (.r (nat_lit 0)))) .none), (.mk (.some (nat_lit 32)) (.x (.call (.c (.fn (nat_lit 43) [] [])) [(.r (nat_lit 31)), (.c (.int .i64 (.ofNat (nat_lit 1))))])) .none), (.mk (.some (nat_lit 30)) (.p (.mv (.r (nat_lit 32)))) .none)])
 (.cond (.r (nat_lit 30)) (.seq (.ops [(.mk (.some (nat_lit 33)) (.p (.mv (.r (nat_lit 0)))) .none), (.mk (.some (nat_lit 34)) (.x (.call (.c (.fn (nat_lit 202) [] [])) [(.r (nat_lit 33))])) .none), (.mk .none (.x (.store (nat_lit 8) (.r (nat_lit 2)) (.r (nat_lit 34)))) .none)])
 .ret) .skip)))))))
 (.seq (.ops [(.mk (.some (nat_lit 35)) (.p (.mv (.r (nat_lit 0)))) .none), (.mk (.some (nat_lit 36)) (.x (.call (.c (.fn (nat_lit 92) [] [])) [(.r (nat_lit 35)), (.c (.str (nat_lit 1) (nat_lit 40)))])) .none)])
 (.seq (.seq (.ops [(.mk (.some (nat_lit 37)) (.p (.mv (.r (nat_lit 0)))) .none), (.mk (.some (nat_lit 38)) (.p (.nilCheck (.r (nat_lit 37)))) .none), (.mk (.some (nat_lit 39)) (.p (.fieldAddr (nat_lit 5) (.r (nat_lit 38)))) .none), (.mk (.some (nat_lit 40)) (.load .false (nat_lit 1) (.r (nat_lit 39))) .none), (.mk (.some (nat_lit 41)) (.p (.bin .neq (.r (nat_lit 40)) (.c (.int .i64 (.ofNat (nat_lit 0)))))) .none)])
 (.cond (.r (nat_lit 41)) (.seq (.ops [(.mk (.some (nat_lit 42)) (.p (.build [(.int .i64 (.ofNat (nat_lit 0))), (.str (nat_lit 0) (nat_lit 0)), (.str (nat_lit 0) (nat_lit 0)), (.int .i64 (.ofNat (nat_lit 0))), (.str (nat_lit 0) (nat_lit 0)), .nils, (.int .i64 (.ofNat (nat_lit 0))), (.int .i64 (.ofNat (nat_lit 0)))] [])) .none), (.mk .none (.x (.store (nat_lit 8) (.r (nat_lit 2)) (.r (nat_lit 42)))) .none)])
 .ret) .skip))
 (.seq (.ops [(.mk (.some (nat_lit 43)) (.p (.mv (.r (nat_lit 0)))) .none), (.mk (.some (nat_lit 44)) (.x (.call (.c (.fn (nat_lit 91) [] [])) [(.r (nat_lit 43))])) .none), (.mk (.some (nat_lit 5)) (.x (.alloc (nat_lit 48) (nat_lit 8) (.nd (.nd (.nd (.nd .lf (.some (.int .i64 (.ofNat (nat_lit 0)))) .lf) (.some (.int .i64 (.ofNat (nat_lit 0)))) .lf) (.some (.str (nat_lit 0) (nat_lit 0))) (.nd .lf (.some .nils) .lf)) (.some (.int .i64 (.ofNat (nat_lit 0)))) (.nd (.nd .lf (.some (.str (nat_lit 0) (nat_lit 0))) .lf) (.some (.str (nat_lit 0) (nat_lit 0))) (.nd .lf (.some (.int .i64 (.ofNat (nat_lit 0)))) .lf))))) .none), (.mk .none (.x (.store (nat_lit 8) (.r (nat_lit 5)) (.r (nat_lit 44)))) .none)])
 (.seq (.ops [(.mk (.some (nat_lit 45)) (.p (.mv (.r (nat_lit 0)))) .none), (.mk (.some (nat_lit 46)) (.x (.call (.c (.fn (nat_lit 92) [] [])) [(.r (nat_lit 45)), (.c (.str (nat_lit 1) (nat_lit 41)))])) .none)])
 (.seq (.ops [(.mk (.some (nat_lit 47)) (.load .true (nat_lit 8) (.r (nat_lit 5))) .none), (.mk .none (.x (.store (nat_lit 8) (.r (nat_lit 2)) (.r (nat_lit 47)))) .none)])
 .ret))))))) [.cell (nat_lit 2) .true (nat_lit 8)]
def c200 : EFn := .mk (nat_lit 15) (.seq (.ops [(.mk (.some (nat_lit 4)) (.p (.mv (.c (.str (nat_lit 0) (nat_lit 0))))) .none), (.mk (.some (nat_lit 5)) (.p (.mv (.c (.bool .false)))) .none)])
 (.seq (.seq (.ops [(.mk (.some (nat_lit 6)) (.p (.mv (.r (nat_lit 0)))) .none), (.mk (.some (nat_lit 7)) (.p (.mv (.r (nat_lit 1)))) .none), (.mk (.some (nat_lit 8)) (.x (.call (.c (.fn (nat_lit 164) [] [])) [(.r (nat_lit 6)), (.r (nat_lit 7))])) .none), (.mk (.some (nat_lit 9)) (.p (.un .not (.r (nat_lit 8)))) .none)])
 (.cond (.r (nat_lit 9)) (.seq (.ops [(.mk (.some (nat_lit 10)) (.p (.mv (.r (nat_lit 0)))) .none), (.mk (.some (nat_lit 4)) (.p (.mv (.r (nat_lit 10)))) .none), (.mk (.some (nat_lit 5)) (.p (.mv (.c (.bool .false)))) .none)])
 .ret) .skip))
 (.seq (.ops [(.mk (.some (nat_lit 11)) (.p (.mv (.r (nat_lit 0)))) .none), (.mk (.some (nat_lit 12)) (.p (.mv (.r (nat_lit 1)))) .none), (.mk (.some (nat_lit 13)) (.p (.len .true (.r (nat_lit 12)))) .none), (.mk (.some (nat_lit 14)) (.p (.sliceS (.r (nat_lit 11)) (.some (.r (nat_lit 13))) .none)) .none), (.mk (.some (nat_lit 4)) (.p (.mv (.r (nat_lit 14)))) .none), (.mk (.some (nat_lit 5)) (.p (.mv (.c (.bool .true)))) .none)])
 .ret))) [.tmp (nat_lit 4), .tmp (nat_lit 5)]
def c201 : EFn := .mk (nat_lit 19) (.seq (.ops [(.mk (.some (nat_lit 4)) (.p (.mv (.c (.int .i64 (.ofNat (nat_lit 0)))))) .none)])
 (.seq (.seq (.ops [(.mk (.some (nat_lit 6)) (.p (.mv (.r (nat_lit 0)))) .none), (.mk (.some (nat_lit 7)) (.p (.len .false (.r (nat_lit 6)))) .none), (.mk (.some (nat_lit 8)) (.p (.mv (.c (.int .i64 (.ofNat (nat_lit 0)))))) .none)])
 (.block (nat_lit 0) (.loop (.seq (.ops [(.mk (.some (nat_lit 9)) (.p (.bin .lss (.r (nat_lit 8)) (.r (nat_lit 7)))) .none)])
 (.seq (.cond (.r (nat_lit 9)) .skip (.exit (nat_lit 0)))
 (.seq (.block (nat_lit 1) (.seq (.ops [(.mk (.some (nat_lit 10)) (.p (.mv (.r (nat_lit 8)))) .none), (.mk (.some (nat_lit 5)) (.p (.mv (.r (nat_lit 10)))) .none)])
 (.seq (.ops [(.mk (.some (nat_lit 11)) (.p (.mv (.r (nat_lit 1)))) .none), (.mk (.some (nat_lit 12)) (.p (.mv (.r (nat_lit 0)))) .none), (.mk (.some (nat_lit 13)) (.p (.mv (.r (nat_lit 5)))) .none), (.mk (.some (nat_lit 14)) (.p (.indexAddr (nat_lit 1) (.r (nat_lit 12)) (.r (nat_lit 13)))) .none), (.mk (.some (nat_lit 15)) (.load .false (nat_lit 1) (.r (nat_lit 14))) .none), (.mk (.some (nat_lit 16)) (.x (.call (.r (nat_lit 11)) [(.r (nat_lit 15))])) .none)])
 (.cond (.r (nat_lit 16)) (.seq (.ops [(.mk (.some (nat_lit 17)) (.p (.mv (.r (nat_lit 5)))) .none), (.mk (.some (nat_lit 4)) (.p (.mv (.r (nat_lit 17)))) .none)])
 .ret) .skip))))
 (.ops [(.mk (.some (nat_lit 18)) (.p (.bin .add (.r (nat_lit 8)) (.c (.int .i64 (.ofNat (nat_lit 1)))))) .none), (.mk (.some (nat_lit 8)) (.p (.mv (.r (nat_lit 18)))) .none)])))))))
 (.seq (.ops [(.mk (.some (nat_lit 4)) (.p (.mv (.c (.int .i64 (.negSucc (nat_lit 0)))))) .none)])
 .ret))) [.tmp (nat_lit 4)]
def c202 : EFn := .mk (nat_lit 31) (.seq (.ops [(.mk (.some (nat_lit 2)) (.x (.alloc (nat_lit 48) (nat_lit 8) (.nd (.nd (.nd (.nd .lf (.some (.int .i64 (.ofNat (nat_lit 0)))) .lf) (.some (.int .i64 (.ofNat (nat_lit 0)))) .lf) (.some (.str (nat_lit 0) (nat_lit 0))) (.nd .lf (.some .nils) .lf)) (.some (.int .i64 (.ofNat (nat_lit 0)))) (.nd (.nd .lf (.some (.str (nat_lit 0) (nat_lit 0))) .lf) (.some (.str (nat_lit 0) (nat_lit 0))) (.nd .lf (.some (.int .i64 (.ofNat (nat_lit 0)))) .lf))))) .none)])
 (.seq (.ops [(.mk (.some (nat_lit 5)) (.p (.mv (.r (nat_lit 0)))) .none), (.mk (.some (nat_lit 6)) (.x (.call (.c (.fn (nat_lit 139) [] [])) [(.r (nat_lit 5))])) .none), (.mk (.some (nat_lit 3)) (.x (.alloc (nat_lit 162) (nat_lit 6) (.nd (.nd (.nd .lf (.some (.str (nat_lit 0) (nat_lit 0))) .lf) (.some (.str (nat_lit 0) (nat_lit 0))) (.nd .lf (.some (.int .i64 (.ofNat (nat_lit 0)))) .lf)) (.some (.int .i64 (.ofNat (nat_lit 0)))) (.nd (.nd .lf (.some (.int .i64 (.ofNat (nat_lit 0)))) .lf) (.some (.int .i64 (.ofNat (nat_lit 0)))) .lf)))) .none), (.mk .none (.x (.store (nat_lit 6) (.r (nat_lit 3)) (.r (nat_lit 6)))) .none)])
 (.seq (.seq (.ops [(.mk (.some (nat_lit 7)) (.p (.mv (.r (nat_lit 0)))) .none), (.mk (.some (nat_lit 8)) (.x (.call (.c (.fn (nat_lit 44) [] [])) [(.r (nat_lit 7)), (.c (.str (nat_lit 1) (nat_lit 40)))])) .none)])
 (.cond (.r (nat_lit 8)) (.seq (.ops [(.mk (.some (nat_lit 9)) (.p (.mv (.r (nat_lit 0)))) .none), (.mk (.some (nat_lit 10)) (.load .true (nat_lit 6) (.r (nat_lit 3))) .none), (.mk (.some (nat_lit 11)) (.x (.call (.c (.fn (nat_lit 193) [] [])) [(.r (nat_lit 9)), (.r (nat_lit 10))])) .none), (.mk .none (.x (.store (nat_lit 8) (.r (nat_lit 2)) (.r (nat_lit 11)))) .none)])
 .ret) .skip))
 (.seq (.ops [(.mk (.some (nat_lit 12)) (.p (.fieldAddr (nat_lit 1) (.r (nat_lit 3)))) .none), (.mk (.some (nat_lit 13)) (.load .false (nat_lit 1) (.r (nat_lit 12))) .none), (.mk (.some (nat_lit 14)) (.p (.fieldAddr (nat_lit 4) (.r (nat_lit 3)))) .none), (.mk (.some (nat_lit 15)) (.load .false (nat_lit 1) (.r (nat_lit 14))) .none), (.mk (.some (nat_lit 16)) (.p (.fieldAddr (nat_lit 5) (.r (nat_lit 3)))) .none), (.mk (.some (nat_lit 17)) (.load .false (nat_lit 1) (.r (nat_lit 16))) .none), (.mk (.some (nat_lit 18)) (.p (.build [(.int .i64 (.ofNat (nat_lit 0))), (.str (nat_lit 0) (nat_lit 0)), (.str (nat_lit 0) (nat_lit 0)), (.int .i64 (.ofNat (nat_lit 0))), (.str (nat_lit 0) (nat_lit 0)), .nils, (.int .i64 (.ofNat (nat_lit 0))), (.int .i64 (.ofNat (nat_lit 0)))] [((nat_lit 0), (nat_lit 1), (.c (.int .i64 (.ofNat (nat_lit 3))))), ((nat_lit 2), (nat_lit 1), (.r (nat_lit 13))), ((nat_lit 6), (nat_lit 1), (.r (nat_lit 15))), ((nat_lit 7), (nat_lit 1), (.r (nat_lit 17)))])) .none), (.mk (.some (nat_lit 4)) (.x (.alloc (nat_lit 48) (nat_lit 8) (.nd (.nd (.nd (.nd .lf (.some (.int .i64 (.ofNat (nat_lit 0)))) .lf) (.some (.int .i64 (.ofNat (nat_lit 0)))) .lf) (.some (.str (nat_lit 0) (nat_lit 0))) (.nd .lf (.some .nils) .lf)) (.some (.int .i64 (.ofNat (nat_lit 0)))) (.nd (.nd .lf (.some (.str (nat_lit 0) (nat_lit 0))) .lf) (.some (.str (nat_lit 0) (nat_lit 0))) (.nd .lf (.some (.int .i64 (.ofNat (nat_lit 0)))) .lf))))) .none), (.mk .none (.x (.store (nat_lit 8) (.r (nat_lit 4)) (.r (nat_lit 18)))) .none)])
 (.seq (.seq (.ops [(.mk (.some (nat_lit 19)) (.p (.mv (.r (nat_lit 0)))) .none), (.mk (.some (nat_lit 20)) (.x (.call (.c (.fn (nat_lit 44) [] [])) [(.r (nat_lit 19)), (.c (.str (nat_lit 1) (nat_lit 91)))])) .none)])
 (.cond (.r (nat_lit 20)) (.seq (.ops [(.mk (.some (nat_lit 21)) (.p (.mv (.r (nat_lit 0)))) .none), (.mk (.some (nat_lit 22)) (.x (.call (.c (.fn (nat_lit 92) [] [])) [(.r (nat_lit 21)), (.c (.str (nat_lit 1) (nat_lit 91)))])) .none)])
 (.seq (.ops [(.mk (.some (nat_lit 23)) (.p (.fieldAddr (nat_lit 0) (.r (nat_lit 4)))) .none), (.mk .none (.x (.store (nat_lit 1) (.r (nat_lit 23)) (.c (.int .i64 (.ofNat (nat_lit 4)))))) .none)])
 (.seq (.ops [(.mk (.some (nat_lit 24)) (.p (.mv (.r (nat_lit 0)))) .none), (.mk (.some (nat_lit 25)) (.x (.call (.c (.fn (nat_lit 91) [] [])) [(.r (nat_lit 24))])) .none), (.mk (.some (nat_lit 26)) (.x (.buildSlice (nat_lit 48) (nat_lit 8) (nat_lit 1) [(.int .i64 (.ofNat (nat_lit 0))), (.str (nat_lit 0) (nat_lit 0)), (.str (nat_lit 0) (nat_lit 0)), (.int .i64 (.ofNat (nat_lit 0))), (.str (nat_lit 0) (nat_lit 0)), .nils, (.int .i64 (.ofNat (nat_lit 0))), (.int .i64 (.ofNat (nat_lit 0)))] [((nat_lit 0), (nat_lit 8), (.r (nat_lit 25)))])) .none), (.mk (.some (nat_lit 27)) (.p (.fieldAddr (nat_lit 5) (.r (nat_lit 4)))) .none), (.mk .none (.x (.store (nat_lit 1) (.r (nat_lit 27)) (.r (nat_lit 26)))) .none)])
 (.ops [(.mk (.some (nat_lit 28)) (.p (.mv (.r (nat_lit 0)))) .none), (.mk (.some (nat_lit 29)) (.x (.call (.c (.fn (nat_lit 92) [] [])) [(.r (nat_lit 28)), (.c (.str (nat_lit 1) (nat_lit 93)))])) .none)])))) .skip))
 (.seq (.ops [(.mk (.some (nat_lit 30)) (.load .true (nat_lit 8) (.r (nat_lit 4))) .none), (.mk .none (.x (.store (nat_lit 8) (.r (nat_lit 2)) (.r (nat_lit 30)))) .none)])
 .ret)))))) [.cell (nat_lit 2) .true (nat_lit 8)]
end Go.Proofs.YtifjnoabmbckpaaGreatDoor.K
/- The table of the code, and that it is the code of the program. -/
namespace Go.Proofs.YtifjnoabmbckpaaGreatDoor.K
open Go Go.Den Go.Ev
set_option maxRecDepth 100000
def tab : T EFn := (.nd (.nd (.nd (.nd (.nd (.nd (.nd .lf .none (.nd .lf (.some c191) .lf)) .none (.nd (.nd .lf (.some c159) .lf) .none .lf)) .none (.nd .lf .none (.nd (.nd .lf (.some c175) .lf) .none .lf))) (.some c7) (.nd (.nd (.nd (.nd .lf (.some c135) .lf) .none .lf) .none (.nd (.nd .lf (.some c167) .lf) (.some c103) .lf)) .none (.nd (.nd (.nd .lf (.some c151) .lf) (.some c87) .lf) .none .lf))) .none (.nd (.nd (.nd (.nd (.nd .lf (.some c131) .lf) (.some c67) .lf) (.some c35) (.nd .lf (.some c99) .lf)) (.some c19) (.nd (.nd (.nd .lf (.some c147) .lf) .none .lf) .none .lf)) .none (.nd (.nd (.nd (.nd .lf (.some c139) .lf) .none .lf) (.some c43) (.nd (.nd .lf (.some c171) .lf) (.some c107) .lf)) (.some c27) (.nd (.nd .lf (.some c91) .lf) (.some c59) (.nd (.nd .lf (.some c187) .lf) .none .lf))))) .none (.nd (.nd (.nd .lf .none (.nd (.nd (.nd .lf (.some c145) .lf) .none .lf) .none .lf)) .none (.nd (.nd (.nd (.nd .lf (.some c137) .lf) .none (.nd .lf (.some c201) .lf)) .none (.nd (.nd .lf (.some c169) .lf) .none .lf)) (.some c25) (.nd (.nd (.nd .lf (.some c153) .lf) (.some c89) .lf) .none .lf))) .none (.nd (.nd (.nd .lf .none (.nd (.nd .lf (.some c165) .lf) (.some c101) .lf)) .none (.nd (.nd (.nd .lf (.some c149) .lf) .none .lf) .none .lf)) .none (.nd (.nd (.nd (.nd .lf (.some c141) .lf) .none .lf) .none (.nd (.nd .lf (.some c173) .lf) .none .lf)) .none (.nd .lf (.some c61) .lf))))) .none (.nd (.nd (.nd (.nd (.nd (.nd .lf .none (.nd .lf (.some c192) .lf)) .none .lf) (.some c16) (.nd (.nd .lf (.some c80) .lf) .none (.nd (.nd .lf (.some c176) .lf) .none .lf))) .none (.nd (.nd (.nd (.nd .lf (.some c136) .lf) .none (.nd .lf (.some c200) .lf)) .none (.nd (.nd .lf (.some c168) .lf) .none .lf)) (.some c24) (.nd (.nd .lf (.some c88) .lf) (.some c56) .lf))) .none (.nd (.nd (.nd (.nd (.nd .lf (.some c132) .lf) .none .lf) .none (.nd (.nd .lf (.some c164) .lf) (.some c100) .lf)) .none (.nd (.nd (.nd .lf (.some c148) .lf) .none .lf) .none (.nd (.nd .lf (.some c180) .lf) .none .lf))) .none (.nd (.nd (.nd (.nd .lf (.some c140) .lf) .none .lf) (.some c44) (.nd (.nd .lf (.some c172) .lf) .none .lf)) .none (.nd (.nd .lf (.some c92) .lf) (.some c60) .lf)))) .none (.nd (.nd (.nd (.nd (.nd .lf (.some c66) .lf) .none (.nd .lf (.some c98) .lf)) .none (.nd (.nd (.nd .lf (.some c146) .lf) .none .lf) .none .lf)) .none (.nd (.nd (.nd (.nd .lf (.some c138) .lf) .none (.nd .lf (.some c202) .lf)) .none (.nd .lf (.some c106) .lf)) (.some c26) (.nd (.nd .lf (.some c90) .lf) (.some c58) .lf))) .none (.nd (.nd (.nd (.nd (.nd .lf (.some c134) .lf) .none .lf) .none (.nd (.nd .lf (.some c166) .lf) (.some c102) .lf)) (.some c22) (.nd (.nd (.nd .lf (.some c150) .lf) (.some c86) .lf) .none .lf)) (.some c14) (.nd (.nd .lf (.some c46) (.nd .lf (.some c110) .lf)) .none (.nd (.nd .lf (.some c94) .lf) .none (.nd .lf (.some c126) .lf)))))))
theorem ok7 : FnOk Go.Proofs.Tryz.prog 5 7 c7 := ⟨Go.Proofs.Tryz.f7, Go.Proofs.Tryz.func7, by kernel_rfl, by kernel_rfl⟩
theorem ok14 : FnOk Go.Proofs.Tryz.prog 5 14 c14 := ⟨Go.Proofs.Tryz.f14, Go.Proofs.Tryz.func14, by kernel_rfl, by kernel_rfl⟩
theorem ok16 : FnOk Go.Proofs.Tryz.prog 5 16 c16 := ⟨Go.Proofs.Tryz.f16, Go.Proofs.Tryz.func16, by kernel_rfl, by kernel_rfl⟩
theorem ok19 : FnOk Go.Proofs.Tryz.prog 5 19 c19 := ⟨Go.Proofs.Tryz.f19, Go.Proofs.Tryz.func19, by kernel_rfl, by kernel_rfl⟩
theorem ok22 : FnOk Go.Proofs.Tryz.prog 5 22 c22 := ⟨Go.Proofs.Tryz.f22, Go.Proofs.Tryz.func22, by kernel_rfl, by kernel_rfl⟩
theorem ok24 : FnOk Go.Proofs.Tryz.prog 5 24 c24 := ⟨Go.Proofs.Tryz.f24, Go.Proofs.Tryz.func24, by kernel_rfl, by kernel_rfl⟩
theorem ok25 : FnOk Go.Proofs.Tryz.prog 5 25 c25 := ⟨Go.Proofs.Tryz.f25, Go.Proofs.Tryz.func25, by kernel_rfl, by kernel_rfl⟩
theorem ok26 : FnOk Go.Proofs.Tryz.prog 5 26 c26 := ⟨Go.Proofs.Tryz.f26, Go.Proofs.Tryz.func26, by kernel_rfl, by kernel_rfl⟩
theorem ok27 : FnOk Go.Proofs.Tryz.prog 5 27 c27 := ⟨Go.Proofs.Tryz.f27, Go.Proofs.Tryz.func27, by kernel_rfl, by kernel_rfl⟩
theorem ok35 : FnOk Go.Proofs.Tryz.prog 5 35 c35 := ⟨Go.Proofs.Tryz.f35, Go.Proofs.Tryz.func35, by kernel_rfl, by kernel_rfl⟩
theorem ok43 : FnOk Go.Proofs.Tryz.prog 5 43 c43 := ⟨Go.Proofs.Tryz.f43, Go.Proofs.Tryz.func43, by kernel_rfl, by kernel_rfl⟩
theorem ok44 : FnOk Go.Proofs.Tryz.prog 5 44 c44 := ⟨Go.Proofs.Tryz.f44, Go.Proofs.Tryz.func44, by kernel_rfl, by kernel_rfl⟩
theorem ok46 : FnOk Go.Proofs.Tryz.prog 5 46 c46 := ⟨Go.Proofs.Tryz.f46, Go.Proofs.Tryz.func46, by kernel_rfl, by kernel_rfl⟩
theorem ok56 : FnOk Go.Proofs.Tryz.prog 5 56 c56 := ⟨Go.Proofs.Tryz.f56, Go.Proofs.Tryz.func56, by kernel_rfl, by kernel_rfl⟩
theorem ok58 : FnOk Go.Proofs.Tryz.prog 5 58 c58 := ⟨Go.Proofs.Tryz.f58, Go.Proofs.Tryz.func58, by kernel_rfl, by kernel_rfl⟩
theorem ok59 : FnOk Go.Proofs.Tryz.prog 5 59 c59 := ⟨Go.Proofs.Tryz.f59, Go.Proofs.Tryz.func59, by kernel_rfl, by kernel_rfl⟩
theorem ok60 : FnOk Go.Proofs.Tryz.prog 5 60 c60 := ⟨Go.Proofs.Tryz.f60, Go.Proofs.Tryz.func60, by kernel_rfl, by kernel_rfl⟩
theorem ok61 : FnOk Go.Proofs.Tryz.prog 5 61 c61 := ⟨Go.Proofs.Tryz.f61, Go.Proofs.Tryz.func61, by kernel_rfl, by kernel_rfl⟩
theorem ok66 : FnOk Go.Proofs.Tryz.prog 5 66 c66 := ⟨Go.Proofs.Tryz.f66, Go.Proofs.Tryz.func66, by kernel_rfl, by kernel_rfl⟩
theorem ok67 : FnOk Go.Proofs.Tryz.prog 5 67 c67 := ⟨Go.Proofs.Tryz.f67, Go.Proofs.Tryz.func67, by kernel_rfl, by kernel_rfl⟩
theorem ok80 : FnOk Go.Proofs.Tryz.prog 5 80 c80 := ⟨Go.Proofs.Tryz.f80, Go.Proofs.Tryz.func80, by kernel_rfl, by kernel_rfl⟩
theorem ok86 : FnOk Go.Proofs.Tryz.prog 5 86 c86 := ⟨Go.Proofs.Tryz.f86, Go.Proofs.Tryz.func86, by kernel_rfl, by kernel_rfl⟩
theorem ok87 : FnOk Go.Proofs.Tryz.prog 5 87 c87 := ⟨Go.Proofs.Tryz.f87, Go.Proofs.Tryz.func87, by kernel_rfl, by kernel_rfl⟩
theorem ok88 : FnOk Go.Proofs.Tryz.prog 5 88 c88 := ⟨Go.Proofs.Tryz.f88, Go.Proofs.Tryz.func88, by kernel_rfl, by kernel_rfl⟩
theorem ok89 : FnOk Go.Proofs.Tryz.prog 5 89 c89 := ⟨Go.Proofs.Tryz.f89, Go.Proofs.Tryz.func89, by kernel_rfl, by kernel_rfl⟩
theorem ok90 : FnOk Go.Proofs.Tryz.prog 5 90 c90 := ⟨Go.Proofs.Tryz.f90, Go.Proofs.Tryz.func90, by kernel_rfl, by kernel_rfl⟩
theorem ok91 : FnOk Go.Proofs.Tryz.prog 5 91 c91 := ⟨Go.Proofs.Tryz.f91, Go.Proofs.Tryz.func91, by kernel_rfl, by kernel_rfl⟩
theorem ok92 : FnOk Go.Proofs.Tryz.prog 5 92 c92 := ⟨Go.Proofs.Tryz.f92, Go.Proofs.Tryz.func92, by kernel_rfl, by kernel_rfl⟩
theorem ok94 : FnOk Go.Proofs.Tryz.prog 5 94 c94 := ⟨Go.Proofs.Tryz.f94, Go.Proofs.Tryz.func94, by kernel_rfl, by kernel_rfl⟩
theorem ok98 : FnOk Go.Proofs.Tryz.prog 5 98 c98 := ⟨Go.Proofs.Tryz.f98, Go.Proofs.Tryz.func98, by kernel_rfl, by kernel_rfl⟩
theorem ok99 : FnOk Go.Proofs.Tryz.prog 5 99 c99 := ⟨Go.Proofs.Tryz.f99, Go.Proofs.Tryz.func99, by kernel_rfl, by kernel_rfl⟩
theorem ok100 : FnOk Go.Proofs.Tryz.prog 5 100 c100 := ⟨Go.Proofs.Tryz.f100, Go.Proofs.Tryz.func100, by kernel_rfl, by kernel_rfl⟩
theorem ok101 : FnOk Go.Proofs.Tryz.prog 5 101 c101 := ⟨Go.Proofs.Tryz.f101, Go.Proofs.Tryz.func101, by kernel_rfl, by kernel_rfl⟩
theorem ok102 : FnOk Go.Proofs.Tryz.prog 5 102 c102 := ⟨Go.Proofs.Tryz.f102, Go.Proofs.Tryz.func102, by kernel_rfl, by kernel_rfl⟩
theorem ok103 : FnOk Go.Proofs.Tryz.prog 5 103 c103 := ⟨Go.Proofs.Tryz.f103, Go.Proofs.Tryz.func103, by kernel_rfl, by kernel_rfl⟩
theorem ok106 : FnOk Go.Proofs.Tryz.prog 5 106 c106 := ⟨Go.Proofs.Tryz.f106, Go.Proofs.Tryz.func106, by kernel_rfl, by kernel_rfl⟩
theorem ok107 : FnOk Go.Proofs.Tryz.prog 5 107 c107 := ⟨Go.Proofs.Tryz.f107, Go.Proofs.Tryz.func107, by kernel_rfl, by kernel_rfl⟩
theorem ok110 : FnOk Go.Proofs.Tryz.prog 5 110 c110 := ⟨Go.Proofs.Tryz.f110, Go.Proofs.Tryz.func110, by kernel_rfl, by kernel_rfl⟩
theorem ok126 : FnOk Go.Proofs.Tryz.prog 5 126 c126 := ⟨Go.Proofs.Tryz.f126, Go.Proofs.Tryz.func126, by kernel_rfl, by kernel_rfl⟩
theorem ok131 : FnOk Go.Proofs.Tryz.prog 5 131 c131 := ⟨Go.Proofs.Tryz.f131, Go.Proofs.Tryz.func131, by kernel_rfl, by kernel_rfl⟩
theorem ok132 : FnOk Go.Proofs.Tryz.prog 5 132 c132 := ⟨Go.Proofs.Tryz.f132, Go.Proofs.Tryz.func132, by kernel_rfl, by kernel_rfl⟩
theorem ok134 : FnOk Go.Proofs.Tryz.prog 5 134 c134 := ⟨Go.Proofs.Tryz.f134, Go.Proofs.Tryz.func134, by kernel_rfl, by kernel_rfl⟩
theorem ok135 : FnOk Go.Proofs.Tryz.prog 5 135 c135 := ⟨Go.Proofs.Tryz.f135, Go.Proofs.Tryz.func135, by kernel_rfl, by kernel_rfl⟩
theorem ok136 : FnOk Go.Proofs.Tryz.prog 5 136 c136 := ⟨Go.Proofs.Tryz.f136, Go.Proofs.Tryz.func136, by kernel_rfl, by kernel_rfl⟩
theorem ok137 : FnOk Go.Proofs.Tryz.prog 5 137 c137 := ⟨Go.Proofs.Tryz.f137, Go.Proofs.Tryz.func137, by kernel_rfl, by kernel_rfl⟩
theorem ok138 : FnOk Go.Proofs.Tryz.prog 5 138 c138 := ⟨Go.Proofs.Tryz.f138, Go.Proofs.Tryz.func138, by kernel_rfl, by kernel_rfl⟩
theorem ok139 : FnOk Go.Proofs.Tryz.prog 5 139 c139 := ⟨Go.Proofs.Tryz.f139, Go.Proofs.Tryz.func139, by kernel_rfl, by kernel_rfl⟩
theorem ok140 : FnOk Go.Proofs.Tryz.prog 5 140 c140 := ⟨Go.Proofs.Tryz.f140, Go.Proofs.Tryz.func140, by kernel_rfl, by kernel_rfl⟩
theorem ok141 : FnOk Go.Proofs.Tryz.prog 5 141 c141 := ⟨Go.Proofs.Tryz.f141, Go.Proofs.Tryz.func141, by kernel_rfl, by kernel_rfl⟩
theorem ok145 : FnOk Go.Proofs.Tryz.prog 5 145 c145 := ⟨Go.Proofs.Tryz.f145, Go.Proofs.Tryz.func145, by kernel_rfl, by kernel_rfl⟩
theorem ok146 : FnOk Go.Proofs.Tryz.prog 5 146 c146 := ⟨Go.Proofs.Tryz.f146, Go.Proofs.Tryz.func146, by kernel_rfl, by kernel_rfl⟩
theorem ok147 : FnOk Go.Proofs.Tryz.prog 5 147 c147 := ⟨Go.Proofs.Tryz.f147, Go.Proofs.Tryz.func147, by kernel_rfl, by kernel_rfl⟩
theorem ok148 : FnOk Go.Proofs.Tryz.prog 5 148 c148 := ⟨Go.Proofs.Tryz.f148, Go.Proofs.Tryz.func148, by kernel_rfl, by kernel_rfl⟩
theorem ok149 : FnOk Go.Proofs.Tryz.prog 5 149 c149 := ⟨Go.Proofs.Tryz.f149, Go.Proofs.Tryz.func149, by kernel_rfl, by kernel_rfl⟩
theorem ok150 : FnOk Go.Proofs.Tryz.prog 5 150 c150 := ⟨Go.Proofs.Tryz.f150, Go.Proofs.Tryz.func150, by kernel_rfl, by kernel_rfl⟩
theorem ok151 : FnOk Go.Proofs.Tryz.prog 5 151 c151 := ⟨Go.Proofs.Tryz.f151, Go.Proofs.Tryz.func151, by kernel_rfl, by kernel_rfl⟩
theorem ok153 : FnOk Go.Proofs.Tryz.prog 5 153 c153 := ⟨Go.Proofs.Tryz.f153, Go.Proofs.Tryz.func153, by kernel_rfl, by kernel_rfl⟩
theorem ok159 : FnOk Go.Proofs.Tryz.prog 5 159 c159 := ⟨Go.Proofs.Tryz.f159, Go.Proofs.Tryz.func159, by kernel_rfl, by kernel_rfl⟩
theorem ok164 : FnOk Go.Proofs.Tryz.prog 5 164 c164 := ⟨Go.Proofs.Tryz.f164, Go.Proofs.Tryz.func164, by kernel_rfl, by kernel_rfl⟩
theorem ok165 : FnOk Go.Proofs.Tryz.prog 5 165 c165 := ⟨Go.Proofs.Tryz.f165, Go.Proofs.Tryz.func165, by kernel_rfl, by kernel_rfl⟩
theorem ok166 : FnOk Go.Proofs.Tryz.prog 5 166 c166 := ⟨Go.Proofs.Tryz.f166, Go.Proofs.Tryz.func166, by kernel_rfl, by kernel_rfl⟩
theorem ok167 : FnOk Go.Proofs.Tryz.prog 5 167 c167 := ⟨Go.Proofs.Tryz.f167, Go.Proofs.Tryz.func167, by kernel_rfl, by kernel_rfl⟩
theorem ok168 : FnOk Go.Proofs.Tryz.prog 5 168 c168 := ⟨Go.Proofs.Tryz.f168, Go.Proofs.Tryz.func168, by kernel_rfl, by kernel_rfl⟩
theorem ok169 : FnOk Go.Proofs.Tryz.prog 5 169 c169 := ⟨Go.Proofs.Tryz.f169, Go.Proofs.Tryz.func169, by kernel_rfl, by kernel_rfl⟩
theorem ok171 : FnOk Go.Proofs.Tryz.prog 5 171 c171 := ⟨Go.Proofs.Tryz.f171, Go.Proofs.Tryz.func171, by kernel_rfl, by kernel_rfl⟩
theorem ok172 : FnOk Go.Proofs.Tryz.prog 5 172 c172 := ⟨Go.Proofs.Tryz.f172, Go.Proofs.Tryz.func172, by kernel_rfl, by kernel_rfl⟩
theorem ok173 : FnOk Go.Proofs.Tryz.prog 5 173 c173 := ⟨Go.Proofs.Tryz.f173, Go.Proofs.Tryz.func173, by kernel_rfl, by kernel_rfl⟩
theorem ok175 : FnOk Go.Proofs.Tryz.prog 5 175 c175 := ⟨Go.Proofs.Tryz.f175, Go.Proofs.Tryz.func175, by kernel_rfl, by kernel_rfl⟩
theorem ok176 : FnOk Go.Proofs.Tryz.prog 5 176 c176 := ⟨Go.Proofs.Tryz.f176, Go.Proofs.Tryz.func176, by kernel_rfl, by kernel_rfl⟩
theorem ok180 : FnOk Go.Proofs.Tryz.prog 5 180 c180 := ⟨Go.Proofs.Tryz.f180, Go.Proofs.Tryz.func180, by kernel_rfl, by kernel_rfl⟩
theorem ok187 : FnOk Go.Proofs.Tryz.prog 5 187 c187 := ⟨Go.Proofs.Tryz.f187, Go.Proofs.Tryz.func187, by kernel_rfl, by kernel_rfl⟩
theorem ok191 : FnOk Go.Proofs.Tryz.prog 5 191 c191 := ⟨Go.Proofs.Tryz.f191, Go.Proofs.Tryz.func191, by kernel_rfl, by kernel_rfl⟩
theorem ok192 : FnOk Go.Proofs.Tryz.prog 5 192 c192 := ⟨Go.Proofs.Tryz.f192, Go.Proofs.Tryz.func192, by kernel_rfl, by kernel_rfl⟩
theorem ok200 : FnOk Go.Proofs.Tryz.prog 5 200 c200 := ⟨Go.Proofs.Tryz.f200, Go.Proofs.Tryz.func200, by kernel_rfl, by kernel_rfl⟩
theorem ok201 : FnOk Go.Proofs.Tryz.prog 5 201 c201 := ⟨Go.Proofs.Tryz.f201, Go.Proofs.Tryz.func201, by kernel_rfl, by kernel_rfl⟩
theorem ok202 : FnOk Go.Proofs.Tryz.prog 5 202 c202 := ⟨Go.Proofs.Tryz.f202, Go.Proofs.Tryz.func202, by kernel_rfl, by kernel_rfl⟩
theorem tabOk : ∀ f e, tab.get f = some e → FnOk Go.Proofs.Tryz.prog 5 f e := fun f e h => T.AllP.get (t := tab) (p := FnOk Go.Proofs.Tryz.prog 5) (g := fun k => k) (⟨(fun x h => by cases h), ⟨(fun x h => by cases h), ⟨(fun x h => by cases h), ⟨(fun x h => by cases h; exact ok7), ⟨(fun x h => by cases h), ⟨(fun x h => by cases h), ⟨(fun x h => by cases h), trivial, ⟨(fun x h => by cases h; exact ok191), trivial, trivial⟩⟩, ⟨(fun x h => by cases h), ⟨(fun x h => by cases h; exact ok159), trivial, trivial⟩, trivial⟩⟩, ⟨(fun x h => by cases h), trivial, ⟨(fun x h => by cases h), ⟨(fun x h => by cases h; exact ok175), trivial, trivial⟩, trivial⟩⟩⟩, ⟨(fun x h => by cases h), ⟨(fun x h => by cases h), ⟨(fun x h => by cases h), ⟨(fun x h => by cases h; exact ok135), trivial, trivial⟩, trivial⟩, ⟨(fun x h => by cases h; exact ok103), ⟨(fun x h => by cases h; exact ok167), trivial, trivial⟩, trivial⟩⟩, ⟨(fun x h => by cases h), ⟨(fun x h => by cases h; exact ok87), ⟨(fun x h => by cases h; exact ok151), trivial, trivial⟩, trivial⟩, trivial⟩⟩⟩, ⟨(fun x h => by cases h), ⟨(fun x h => by cases h; exact ok19), ⟨(fun x h => by cases h; exact ok35), ⟨(fun x h => by cases h; exact ok67), ⟨(fun x h => by cases h; exact ok131), trivial, trivial⟩, trivial⟩, ⟨(fun x h => by cases h; exact ok99), trivial, trivial⟩⟩, ⟨(fun x h => by cases h), ⟨(fun x h => by cases h), ⟨(fun x h => by cases h; exact ok147), trivial, trivial⟩, trivial⟩, trivial⟩⟩, ⟨(fun x h => by cases h; exact ok27), ⟨(fun x h => by cases h; exact ok43), ⟨(fun x h => by cases h), ⟨(fun x h => by cases h; exact ok139), trivial, trivial⟩, trivial⟩, ⟨(fun x h => by cases h; exact ok107), ⟨(fun x h => by cases h; exact ok171), trivial, trivial⟩, trivial⟩⟩, ⟨(fun x h => by cases h; exact ok59), ⟨(fun x h => by cases h; exact ok91), trivial, trivial⟩, ⟨(fun x h => by cases h), ⟨(fun x h => by cases h; exact ok187), trivial, trivial⟩, trivial⟩⟩⟩⟩⟩, ⟨(fun x h => by cases h), ⟨(fun x h => by cases h), ⟨(fun x h => by cases h), trivial, ⟨(fun x h => by cases h), ⟨(fun x h => by cases h), ⟨(fun x h => by cases h; exact ok145), trivial, trivial⟩, trivial⟩, trivial⟩⟩, ⟨(fun x h => by cases h; exact ok25), ⟨(fun x h => by cases h), ⟨(fun x h => by cases h), ⟨(fun x h => by cases h; exact ok137), trivial, trivial⟩, ⟨(fun x h => by cases h; exact ok201), trivial, trivial⟩⟩, ⟨(fun x h => by cases h), ⟨(fun x h => by cases h; exact ok169), trivial, trivial⟩, trivial⟩⟩, ⟨(fun x h => by cases h), ⟨(fun x h => by cases h; exact ok89), ⟨(fun x h => by cases h; exact ok153), trivial, trivial⟩, trivial⟩, trivial⟩⟩⟩, ⟨(fun x h => by cases h), ⟨(fun x h => by cases h), ⟨(fun x h => by cases h), trivial, ⟨(fun x h => by cases h; exact ok101), ⟨(fun x h => by cases h; exact ok165), trivial, trivial⟩, trivial⟩⟩, ⟨(fun x h => by cases h), ⟨(fun x h => by cases h), ⟨(fun x h => by cases h; exact ok149), trivial, trivial⟩, trivial⟩, trivial⟩⟩, ⟨(fun x h => by cases h), ⟨(fun x h => by cases h), ⟨(fun x h => by cases h), ⟨(fun x h => by cases h; exact ok141), trivial, trivial⟩, trivial⟩, ⟨(fun x h => by cases h), ⟨(fun x h => by cases h; exact ok173), trivial, trivial⟩, trivial⟩⟩, ⟨(fun x h => by cases h; exact ok61), trivial, trivial⟩⟩⟩⟩⟩, ⟨(fun x h => by cases h), ⟨(fun x h => by cases h), ⟨(fun x h => by cases h), ⟨(fun x h => by cases h; exact ok16), ⟨(fun x h => by cases h), ⟨(fun x h => by cases h), trivial, ⟨(fun x h => by cases h; exact ok192), trivial, trivial⟩⟩, trivial⟩, ⟨(fun x h => by cases h), ⟨(fun x h => by cases h; exact ok80), trivial, trivial⟩, ⟨(fun x h => by cases h), ⟨(fun x h => by cases h; exact ok176), trivial, trivial⟩, trivial⟩⟩⟩, ⟨(fun x h => by cases h; exact ok24), ⟨(fun x h => by cases h), ⟨(fun x h => by cases h), ⟨(fun x h => by cases h; exact ok136), trivial, trivial⟩, ⟨(fun x h => by cases h; exact ok200), trivial, trivial⟩⟩, ⟨(fun x h => by cases h), ⟨(fun x h => by cases h; exact ok168), trivial, trivial⟩, trivial⟩⟩, ⟨(fun x h => by cases h; exact ok56), ⟨(fun x h => by cases h; exact ok88), trivial, trivial⟩, trivial⟩⟩⟩, ⟨(fun x h => by cases h), ⟨(fun x h => by cases h), ⟨(fun x h => by cases h), ⟨(fun x h => by cases h), ⟨(fun x h => by cases h; exact ok132), trivial, trivial⟩, trivial⟩, ⟨(fun x h => by cases h; exact ok100), ⟨(fun x h => by cases h; exact ok164), trivial, trivial⟩, trivial⟩⟩, ⟨(fun x h => by cases h), ⟨(fun x h => by cases h), ⟨(fun x h => by cases h; exact ok148), trivial, trivial⟩, trivial⟩, ⟨(fun x h => by cases h), ⟨(fun x h => by cases h; exact ok180), trivial, trivial⟩, trivial⟩⟩⟩, ⟨(fun x h => by cases h), ⟨(fun x h => by cases h; exact ok44), ⟨(fun x h => by cases h), ⟨(fun x h => by cases h; exact ok140), trivial, trivial⟩, trivial⟩, ⟨(fun x h => by cases h), ⟨(fun x h => by cases h; exact ok172), trivial, trivial⟩, trivial⟩⟩, ⟨(fun x h => by cases h; exact ok60), ⟨(fun x h => by cases h; exact ok92), trivial, trivial⟩, trivial⟩⟩⟩⟩, ⟨(fun x h => by cases h), ⟨(fun x h => by cases h), ⟨(fun x h => by cases h), ⟨(fun x h => by cases h), ⟨(fun x h => by cases h; exact ok66), trivial, trivial⟩, ⟨(fun x h => by cases h; exact ok98), trivial, trivial⟩⟩, ⟨(fun x h => by cases h), ⟨(fun x h => by cases h), ⟨(fun x h => by cases h; exact ok146), trivial, trivial⟩, trivial⟩, trivial⟩⟩, ⟨(fun x h => by cases h; exact ok26), ⟨(fun x h => by cases h), ⟨(fun x h => by cases h), ⟨(fun x h => by cases h; exact ok138), trivial, trivial⟩, ⟨(fun x h => by cases h; exact ok202), trivial, trivial⟩⟩, ⟨(fun x h => by cases h; exact ok106), trivial, trivial⟩⟩, ⟨(fun x h => by cases h; exact ok58), ⟨(fun x h => by cases h; exact ok90), trivial, trivial⟩, trivial⟩⟩⟩, ⟨(fun x h => by cases h; exact ok14), ⟨(fun x h => by cases h; exact ok22), ⟨(fun x h => by cases h), ⟨(fun x h => by cases h), ⟨(fun x h => by cases h; exact ok134), trivial, trivial⟩, trivial⟩, ⟨(fun x h => by cases h; exact ok102), ⟨(fun x h => by cases h; exact ok166), trivial, trivial⟩, trivial⟩⟩, ⟨(fun x h => by cases h), ⟨(fun x h => by cases h; exact ok86), ⟨(fun x h => by cases h; exact ok150), trivial, trivial⟩, trivial⟩, trivial⟩⟩, ⟨(fun x h => by cases h), ⟨(fun x h => by cases h; exact ok46), trivial, ⟨(fun x h => by cases h; exact ok110), trivial, trivial⟩⟩, ⟨(fun x h => by cases h), ⟨(fun x h => by cases h; exact ok94), trivial, trivial⟩, ⟨(fun x h => by cases h; exact ok126), trivial, trivial⟩⟩⟩⟩⟩⟩⟩) h
theorem mixedO : Go.Proofs.Tryz.prog.follows .mixedOrders = true := by kernel_rfl
end Go.Proofs.YtifjnoabmbckpaaGreatDoor.K
/- known of layer 22, and the law SyntaxWords: the walks. -/
namespace Go.Proofs.YtifjnoabmbckpaaGreatDoor.K
open Go Go.Den Go.Ev
set_option maxRecDepth 1000000

theorem known_run : evF .lf tab 1000 16 [] .lf 5 isT = true := by kernel_rfl

theorem known_tri : Tri Tryz.prog 16 [] (fun _ => none) fun v _ => v = .bool true := closed_run mixedO oraNone tabOk LR.nil known_run

/-- known is known. -/
def knownO (args : List LV) : Option LV :=
  match args with
  | [] => some (.bool true)
  | _ => none

def ora : Ora := .nd .lf none (.nd (.nd (.nd (.nd .lf (some knownO) .lf) none .lf) none .lf) none .lf)

theorem knownO_ok (args : List LV) (r : LV) (h : knownO args = some r) (ρ : Rho) (args' : List Value) (hl : LR ρ args args') : ∃ v, VR ρ r v ∧ ∀ h, Tri Tryz.prog 16 args' h fun v' h' => v' = v ∧ h' = h := by
  unfold knownO at h
  split at h
  · cases h; exact ora_const known_tri ρ args' hl
  · cases h

theorem oraOk : OraOk Tryz.prog ora := fun f o args r hf =>
  T.AllP.get (t := ora) (g := fun k => k) (p := fun f o => ∀ args r, o args = some r → ∀ (ρ : Rho) (args' : List Value), LR ρ args args' → ∃ v, VR ρ r v ∧ ∀ h, Tri Tryz.prog f args' h fun v' h' => v' = v ∧ h' = h)
    ⟨(fun x h => by cases h), trivial, ⟨(fun x h => by cases h), ⟨(fun x h => by cases h), ⟨(fun x h => by cases h), ⟨(fun x h => by cases h; exact knownO_ok), trivial, trivial⟩, trivial⟩, trivial⟩, trivial⟩⟩ hf args r

/-- The words with which a text is compared. -/
def words : List (Nat × Nat) := [(nat_lit 4, nat_lit 1801807216), (nat_lit 4, nat_lit 1701539696), (nat_lit 6, nat_lit 119182900487531), (nat_lit 2, nat_lit 31868), (nat_lit 2, nat_lit 9766), (nat_lit 1, nat_lit 124), (nat_lit 1, nat_lit 94), (nat_lit 1, nat_lit 38), (nat_lit 2, nat_lit 15677), (nat_lit 2, nat_lit 15649), (nat_lit 1, nat_lit 60), (nat_lit 2, nat_lit 15676), (nat_lit 1, nat_lit 62), (nat_lit 2, nat_lit 15678), (nat_lit 2, nat_lit 15420), (nat_lit 2, nat_lit 15934), (nat_lit 1, nat_lit 43), (nat_lit 1, nat_lit 45), (nat_lit 1, nat_lit 42), (nat_lit 1, nat_lit 47), (nat_lit 1, nat_lit 37)]

def wordsRun : List (Nat × Nat) → Bool
  | [] => true
  | p :: l => match evF ora tab 1000 7 [.str p.1 p.2] .lf 5 isT with
    | true => wordsRun l
    | false => false

theorem words_run : wordsRun words = true := by kernel_rfl
theorem sym_run : evF ora tab 1000 7 [.sym words] .lf 5 isT = true := by kernel_rfl

theorem wordsRun_mem : ∀ {l : List (Nat × Nat)}, wordsRun l = true → ∀ p, p ∈ l → evF ora tab 1000 7 [.str p.1 p.2] .lf 5 isT = true
  | [], _, p, hp => by cases hp
  | q :: l, h, p, hp => by
    simp only [wordsRun] at h
    split at h
    · rename_i h1
      cases hp with
      | head => exact h1
      | tail _ ht => exact wordsRun_mem h p ht
    · cases h

theorem words_tri (s : List UInt8) : Tri Tryz.prog 7 [.string ⟨⟨s⟩⟩] (fun _ => none) fun v _ => v = .bool true := by
  by_cases hs : ∃ p, p ∈ words ∧ s = bytesOf p.1 p.2
  · obtain ⟨p, hp, rfl⟩ := hs
    exact closed_run mixedO oraOk tabOk (LR.cons (.str _ _) LR.nil) (wordsRun_mem words_run p hp)
  · exact closed_run mixedO oraOk tabOk (LR.cons (.sym fun p hp e => hs ⟨p, hp, e⟩) LR.nil) sym_run
end Go.Proofs.YtifjnoabmbckpaaGreatDoor.K
/- The law SyntaxNests. -/
namespace Go.Proofs.D
open Go Go.Den Go.Sx
set_option maxRecDepth 100000
attribute [local irreducible] IntKind.wrap Tri parseS

theorem known_tri (h : PHeap) : Tri Tryz.prog 16 [] h fun v h' => v = vB true ∧ h' = h := Go.Ev.tri_frame Go.Proofs.YtifjnoabmbckpaaGreatDoor.K.known_tri h

theorem ad_eq {b b' o o' : Nat} (h : ad b o = some ⟨b', o', none⟩) : b' = b ∧ o' = o := by
  injection h with h; injection h with h1 h2; exact ⟨h1.symm, h2.symm⟩

/-- The loop, and what follows. -/
theorem nests_core {h h0 : PHeap} (ht : L.EscTab h) (hx0 : Ext h0 h) {n : Nat} (hn : n < 256) {o c : Bytes} (ho : nestA o c 40 = true) (ho2 : o.length ≤ 2) (hc2 : c.length ≤ 2) :
    ∃ (I_1 : Nat → List UInt8 → List UInt8 → Int → PHeap → Prop), (∃ (m2 : Nat), I_1 m2 [102, 117, 110, 99, 32, 109, 97, 105, 110, 40, 41, 32, 123, 32, 121, 32, 61, 32] [] (0 : Int) h) ∧
    ∀ (m1 : Nat) (l3 : List UInt8) (l4 : List UInt8) (i1 : Int) (h_3 : PHeap), I_1 m1 l3 l4 i1 h_3 →
    br (decide (i1 < (Int.tmod (IntKind.i64.wrap (n : Int)) 40)))
    (l3.length + o.length ≤ 9223372036854775807 ∧
      l4.length + c.length ≤ 9223372036854775807 ∧
      ∃ (m3 : Nat), m3 < m1 ∧ I_1 m3 (l3 ++ o) (l4 ++ c) (IntKind.i64.wrap (i1 + 1)) h_3 ∧
      True)
    (l3.length + ([49] : List UInt8).length ≤ 9223372036854775807 ∧
      (l3 ++ ([49] : List UInt8)).length + l4.length ≤ 9223372036854775807 ∧
      ((l3 ++ ([49] : List UInt8)) ++ l4).length + ([59, 32, 125] : List UInt8).length ≤ 9223372036854775807 ∧
      Tri Tryz.prog 14 [vS (((l3 ++ ([49] : List UInt8)) ++ l4) ++ ([59, 32, 125] : List UInt8))] h_3 fun v_1 h_4 =>
      ∃ (Globalsa1 : Option Addr) (Globalsn1 Globalsc1 : Nat) (Funcsa1 : Option Addr) (Funcsn1 Funcsc1 : Nat) (i2 i3 i4 : Int), v_1 = vT [vA [vL Globalsa1 Globalsn1 Globalsc1, vL Funcsa1 Funcsn1 Funcsc1], vI i2, vI i3, vI i4] ∧
      br (decide ((Int.tmod (IntKind.i64.wrap (n : Int)) 40) < 32))
      (Tri Tryz.prog 16 [] h_4 fun v_2 h_5 =>
        ∃ (c1 : Bool), v_2 = vB c1 ∧
        br c1
        (br (i4 == 0)
          (br (i2 == 0)
            (vB (i3 == 0) = vB true ∧ Ext h0 h_5)
            (vB false = vB true ∧ Ext h0 h_5))
          (vB false = vB true ∧ Ext h0 h_5))
        (vB false = vB true ∧ Ext h0 h_5))
      (Tri Tryz.prog 16 [] h_4 fun v_3 h_6 =>
        ∃ (c2 : Bool), v_3 = vB c2 ∧
        br c2
        (br (i4 == 9)
          (br (i2 == 1)
            (vB (i3 == (IntKind.i64.wrap (18 + (IntKind.i64.wrap (32 * (o.length : Int)))))) = vB true ∧ Ext h0 h_6)
            (vB false = vB true ∧ Ext h0 h_6))
          (vB false = vB true ∧ Ext h0 h_6))
        (vB false = vB true ∧ Ext h0 h_6))) := by
  have hk : Int.tmod (IntKind.i64.wrap (n : Int)) 40 = ((n % 40 : Nat) : Int) := by
    rw [wrap64 (by omega) (by omega)]; rfl
  rw [hk]
  have hk40 : n % 40 < 40 := Nat.mod_lt _ (by decide)
  generalize n % 40 = k at *
  have hC := nestC_of (nestA_at ho hk40)
  refine ⟨fun m l3 l4 i h' => h' = h ∧ ∃ j : Nat, i = j ∧ j + m = k ∧ l3 = nestP ++ reps o j ∧ l4 = reps c j, ⟨k, rfl, 0, rfl, by omega, rfl, rfl⟩, ?_⟩
  rintro m _ _ _ _ ⟨rfl, j, rfl, hj, rfl, rfl⟩
  have hP : nestP.length = 18 := rfl
  have l1 : (reps o j).length ≤ 80 := by
    rw [reps_len]
    exact Nat.le_trans (Nat.mul_le_mul (by omega : j ≤ 40) ho2) (by decide)
  have l2 : (reps c j).length ≤ 80 := by
    rw [reps_len]
    exact Nat.le_trans (Nat.mul_le_mul (by omega : j ≤ 40) hc2) (by decide)
  refine br_split (fun e => ?_) (fun e => ?_)
  · have hjk : j < k := by
      have : (j : Int) < (k : Int) := by simpa using e
      omega
    refine ⟨by simp only [List.length_append]; omega, by omega, m - 1, by omega, ⟨rfl, j + 1, ?_, by omega, ?_, rfl⟩, trivial⟩
    · rw [wrap64 (by omega) (by omega)]; rfl
    · rw [reps, List.append_assoc]
  · have hjk : j = k := by
      have : ¬ (j : Int) < (k : Int) := by simpa using e
      omega
    subst hjk
    refine ⟨by simp only [List.length_append, List.length_cons, List.length_nil]; omega, by simp only [List.length_append, List.length_cons, List.length_nil]; omega, by simp only [List.length_append, List.length_cons, List.length_nil]; omega, ?_⟩
    refine Tri.mono (parse_tri (nestS j o c) _ ht) ?_
    rintro v h4 ⟨hx, hv⟩
    rcases hC with ⟨p, hp, h32⟩ | ⟨i, hp, h32, hpl⟩
    · rw [hp] at hv
      obtain ⟨ga, gc, fa, fc, rfl, _, _⟩ := hv
      refine ⟨_, _, _, _, _, _, _, _, _, rfl, br_pos (decide_eq_true (by omega)) ?_⟩
      refine Tri.mono (known_tri h4) ?_
      rintro _ h5 ⟨rfl, rfl⟩
      exact ⟨_, rfl, br_pos rfl (br_pos rfl (br_pos rfl ⟨rfl, hx0.trans hx⟩))⟩
    · rw [hp] at hv
      simp only [hpl] at hv
      refine ⟨_, _, _, _, _, _, _, _, _, hv, br_neg (decide_eq_false (by omega)) ?_⟩
      refine Tri.mono (known_tri h4) ?_
      rintro _ h5 ⟨rfl, rfl⟩
      refine ⟨_, rfl, br_pos rfl (br_pos rfl (br_pos rfl ⟨?_, hx0.trans hx⟩))⟩
      rw [wrap64 (n := 32 * (o.length : Int)) (by omega) (by omega), wrap64 (by omega) (by omega)]
      simp

theorem nests_tri {h : PHeap} (ht : L.EscTab h) {n k : Nat} (hn : n < 256) (hk : k < 256) : Tri Tryz.prog 6 [vU n, vU k] h fun v h' => v = vB true ∧ Ext h h' := by
  refine T6 ?_
  unfold R6
  have hm : Int.tmod (k : Int) 3 = ((k % 3 : Nat) : Int) := rfl
  rw [hm]
  have h3 : k % 3 < 3 := Nat.mod_lt _ (by decide)
  generalize k % 3 = q at *
  have two : ∀ {g1 g2 g : PHeap} {b1 b2 : Nat} {A B : List Value}, g b1 = none → g1 = g.put b1 (.cells ⟨A⟩ 9) → g1 b2 = none → g2 = g1.put b2 (.cells ⟨B⟩ 9) → (∀ i, g1.cell b1 i = A[i]?) ∧ (∀ i, g2.cell b1 i = A[i]?) ∧ (∀ i, g2.cell b2 i = B[i]?) ∧ Ext g g2 := by
    intro g1 g2 g b1 b2 A B e1 e2 e3 e4
    have x1 := Put.ext e2 e1
    have x2 := Put.ext e4 e3
    exact ⟨fun i => cell_of (Put.at e2) i, fun i => cell_of (x2 _ _ (Put.at e2)) i, fun i => cell_of (Put.at e4) i, x1.trans x2⟩
  have hq : q = 0 ∨ q = 1 ∨ q = 2 := by omega
  refine ⟨fun b1 hb1 h1 hh1 => ?_, fun b1 hb1 h1 hh1 => ?_⟩
  · refine ⟨b1, 0, rfl, ⟨by omega, by omega⟩, ?_⟩
    rcases hq with rfl | rfl | rfl
    · refine ⟨[40], cell_of (Put.at hh1) 0, fun b3 hb3 h2 hh2 => ?_⟩
      obtain ⟨_, k2, k3, k4⟩ := two hb1 hh1 hb3 hh2
      exact ⟨k2 0, b3, 0, rfl, ⟨by omega, by omega⟩, [41], k3 0, nests_core (ht.ext k4) k4 hn nest1 (by decide) (by decide)⟩
    · refine ⟨[102, 40], cell_of (Put.at hh1) 1, fun b3 hb3 h2 hh2 => ?_⟩
      obtain ⟨_, k2, k3, k4⟩ := two hb1 hh1 hb3 hh2
      exact ⟨k2 1, b3, 0, rfl, ⟨by omega, by omega⟩, [41], k3 1, nests_core (ht.ext k4) k4 hn nest2 (by decide) (by decide)⟩
    · refine ⟨[101, 91], cell_of (Put.at hh1) 2, fun b3 hb3 h2 hh2 => ?_⟩
      obtain ⟨_, k2, k3, k4⟩ := two hb1 hh1 hb3 hh2
      exact ⟨k2 2, b3, 0, rfl, ⟨by omega, by omega⟩, [93], k3 2, nests_core (ht.ext k4) k4 hn nest3 (by decide) (by decide)⟩
  · refine ⟨b1, 0, rfl, ⟨by omega, by omega⟩, ?_⟩
    rcases hq with rfl | rfl | rfl
    · refine ⟨[41], cell_of (Put.at hh1) 0, fun b3 hb3 h2 hh2 => ?_⟩
      obtain ⟨_, k2, k3, k4⟩ := two hb1 hh1 hb3 hh2
      exact ⟨k2 0, b3, 0, rfl, ⟨by omega, by omega⟩, [40], k3 0, nests_core (ht.ext k4) k4 hn nest1 (by decide) (by decide)⟩
    · refine ⟨[41], cell_of (Put.at hh1) 1, fun b3 hb3 h2 hh2 => ?_⟩
      obtain ⟨_, k2, k3, k4⟩ := two hb1 hh1 hb3 hh2
      exact ⟨k2 1, b3, 0, rfl, ⟨by omega, by omega⟩, [102, 40], k3 1, nests_core (ht.ext k4) k4 hn nest2 (by decide) (by decide)⟩
    · refine ⟨[93], cell_of (Put.at hh1) 2, fun b3 hb3 h2 hh2 => ?_⟩
      obtain ⟨_, k2, k3, k4⟩ := two hb1 hh1 hb3 hh2
      exact ⟨k2 2, b3, 0, rfl, ⟨by omega, by omega⟩, [101, 91], k3 2, nests_core (ht.ext k4) k4 hn nest3 (by decide) (by decide)⟩
end Go.Proofs.D
/- From a triple to what a row asks. -/
namespace Go.Fr
open Go Go.Den Go.ChangeShapes Go.RowKit

/-- Of what was there nothing turns. -/
def Kept (w w' : World) : Prop := w'.os = w.os ∧ w'.output = w.output ∧ w.heap.size ≤ w'.heap.size ∧ ∀ k, k < w.heap.size → w'.heap[k]? = w.heap[k]?

theorem calls_of_tri {P : Program} {f : FuncId} {fn : Func} {args : List Value} {Q : Value → Prop} {h : PHeap} (ht : Tri P f args h fun v h' => Q v ∧ ∀ k o, h k = some o → h' k = some o) (hf : P.funcs[f]? = some fn) (hb : fn.body.isSome = true) (hname : (fn.name == "runtime.NumGoroutine") = false) (w : World) (hs : Sub w h) :
    Calls P f args.toArray w fun e w' => ∃ v, e = .returned v ∧ Q v ∧ Kept w w' := by
  have h1 := ht w hs
  unfold CallR at h1
  have hcall : (callFunc f args.toArray).run P w = .ok (.enter f args.toArray) w := by
    unfold callFunc
    have hname' : ¬ fn.name = "runtime.NumGoroutine" := fun e => by rw [e] at hname; simp at hname
    cases hbb : fn.body with
    | none => rw [hbb] at hb; cases hb
    | some c => simp [program, Sem.run, hf, hname', hbb]
  rw [hcall] at h1
  refine Calls.mono h1 fun e w' he => ?_
  cases e with
  | returned v =>
    obtain ⟨h', ⟨hq, hx⟩, hs', hk⟩ := he
    refine ⟨v, rfl, hq, hk.os, hk.output, hk.size, fun k hk' => ?_⟩
    cases hh : h k with
    | none => exact (hk.out k hk' hh).2
    | some o => rw [hs k o hh, hs' k o (hx k o hh)]
  | _ => exact he.elim

/-- The part of a world that is one block. -/
def one (w : World) (b : Nat) : PHeap := fun k => if k = b then w.heap[b]? else none
theorem one_sub (w : World) (b : Nat) : Sub w (one w b) := fun k o hk => by
  unfold one at hk; split at hk
  · rename_i e; subst e; exact hk
  · cases hk
theorem one_cell {w : World} {b i : Nat} {v : Value} (h : w.cell? ⟨b, i, none⟩ = some v) : (one w b).cell b i = some v := by
  unfold World.cell? at h
  unfold PHeap.cell one
  rw [if_pos rfl]
  cases hb : w.heap[b]? with
  | none => simp [hb] at h
  | some o =>
    cases o with
    | cells c t z => simpa [hb] using h
    | _ => simp [hb] at h

theorem Kept.but {w w' : World} (h : Kept w w') (may : MemPlace → Prop) : w.keptBut w' may := by
  obtain ⟨h1, h2, h3, h4⟩ := h
  obtain ⟨_, _, r⟩ := World.keptBut_refl w may
  refine ⟨h1, h2, fun i hi => ?_⟩
  have := r i hi
  rw [h4 i hi]
  exact this

theorem Kept.frozen {w w' : World} (h : Kept w w') (b off : Nat) (hb : b < w.heap.size) : w'.frozen? ⟨b, off, none⟩ = w.frozen? ⟨b, off, none⟩ := by
  simp only [World.frozen?, h.2.2.2 b hb]

section
variable {H : Type} {enc : TypeId × Value → H} {P : Program}

/-- The arguments read as they did; the results have no places. -/
theorem post_kept {f : Func} {s : ChangeSpec} {apart fresh handsOn again : Bool} {W W' : World} {args : Array Value} {v : Value} {ds gs : List (DataW H)} {before pa pv : List MemPlace}
    (hW : DataW.Whole enc P f.params.toList s.vars apart W args.toList ds gs before)
    (hres : ∀ (b : Nat) (sp : Nat → Bool) (hd : Bool), DataW.TrodAll enc P W' b sp hd f.resultTypes.toList (v.resultList f.resultTypes.size) (s.fn H (ds ++ gs)).results [])
    (hargs : ∀ sp : Nat → Bool, (∀ p ∈ before, sp p.block = true) → DataW.TrodAll enc P W' 0 sp true f.params.toList args.toList (s.fn H (ds ++ gs)).args pa)
    (hvars : ∀ sp : Nat → Bool, (∀ p ∈ before, sp p.block = true) → DataW.TrodVars enc P W' sp s.vars (s.fn H (ds ++ gs)).vars pv)
    (hps : before = pa ++ pv) (hk : Kept W W')
    (hok : ∀ (j : Nat) (t : TypeId) (r : Value), f.resultTypes[j]? = some t → (v.resultList f.resultTypes.size)[j]? = some r → Value.okWide P W' .any 0 t r) :
    s.post enc P f apart fresh handsOn again W args v W' := by
  have hlt : ∀ p ∈ before, p.block < W.heap.size := fun p hp => hW.lt p hp
  have hold : ∀ p ∈ before, (fun b => decide (b < W.heap.size)) p.block = true := fun p hp => by simpa using hlt p hp
  refine ⟨ds, gs, before, [], pa, pv, hW, hres _ _ _, hargs _ hold, hvars _ hold, World.keptBut_mono (fun p hp => ⟨hp, ?_⟩) (hk.but _), fun _ => ?_⟩
  · rw [hps, List.mem_append] at hp
    exact Or.inr hp
  · obtain ⟨_, _, _, _, _, hz, hn⟩ := hW
    refine ⟨hok, _, _, ([] ++ pa) ++ pv, ⟨[] ++ pa, pv, trodAll_append (hargs _ (fun _ _ => rfl)) (hres _ _ _), hvars _ (fun _ _ => rfl), rfl, ?_, ?_⟩, ?_⟩
    · intro b off hp
      have hp' : MemPlace.cell b off ∈ before := by rw [hps]; simpa using hp
      rw [hk.frozen b off (hlt _ hp')]
      exact hz b off hp'
    · intro ha
      have := hn ha
      rw [hps] at this
      simpa using this
    · intro p hp _
      rw [hps]
      simpa using hp
end
end Go.Fr
