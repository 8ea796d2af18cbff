import Derived.Test.YtifjnoabmbckpaaGreatDoorPri2
import Derived.Test.YtifjnoabmbckpaaGreatDoorProg
namespace Go.Proofs.D
open Go Go.Den
theorem mixed:Tryz.prog.follows .mixedOrders=true:=by kernel_rfl
abbrev tp:=Tri Tryz.prog
abbrev rq (l:List (Nat×Value)) (o:Op) (t:TypeId):=Raw Tryz.prog (execOp (rho l) (mkO o t))
abbrev alc (h:PHeap) (l:List Value) (t:TypeId) (k:Nat->PHeap->Prop):Prop:=∀ b,h b=none->∀ h',h'=h.put b (.cells ⟨l⟩ t)->k b h'
abbrev slt (a:OA) (i:Int) (n:Nat) (k:Nat->Nat->Prop):Prop:=∃ b o,a=some ⟨b,o,none⟩/\(0<=i/\i < n)/\k b o
abbrev sto (h:PHeap) (b o n:Nat) (v:List Value) (k:PHeap->Prop):Prop:=∃ l t z,h b=some (.cells ⟨l⟩ t z)/\(o+n<=l.length/\z.2<=o)/\∀ h',h'=h.put b (.cells ⟨splice l o v⟩ t z)->k h'
noncomputable abbrev lw (q:Nat->Bool) (f:Func):=low Tryz.prog q (f.body.getD .skip)
abbrev nf (_:Nat):Bool:=false
end Go.Proofs.D
namespace Go.Proofs.D
open Go Go.Den
noncomputable section
set_option maxRecDepth 100000
set_option maxHeartbeats 4000000
abbrev dpk1:List CK:=[qi, .str, .slice, .slice, .slice,qi,qi]
abbrev dpk2:List CK:=[qi, .str,qi, .str,qi,qi]
abbrev dpk3:List CK:=[qi, .str, .str,qi, .str, .slice,qi,qi]
abbrev dpk4:List CK:=[.str,qi,qi,qi,qi]
abbrev dpk5:List CK:=[.str, .slice, .slice,qi,qi]
def d36:DCode:=up ⟨[(5, .c (.one true dpk1)),(7, .c (.one true dpk2)),(11, .c (.one false [.bool])),(13, .c (.one true dpk3)),(17, .c (.tup [])),(18, .l dpk1)],[],[]⟩ (lw nf Tryz.f36)
theorem low36:lw nf Tryz.f36=some (eC d36):=by kernel_rfl
def R36 (p1 o1:Nat) (h:PHeap) (Q:Value->PHeap->Prop):Prop:=
 tp 88 [vP p1 o1,vI 1] h fun v_1 h_1=>
 ∃ i1 l1 a1 n1 dpk1 a2 n2 dpk2 a3 n3 dpk3 i2 i3,v_1=vA [vI i1,vS l1,vL a1 n1 dpk1,vL a2 n2 dpk2,vL a3 n3 dpk3,vI i2,vI i3]/\
 tp 89 [vP p1 o1,vI 1] h_1 fun v_2 h_2=>
 ∃ i4 l2 i5 l3 i6 i7,v_2=vA [vI i4,vS l2,vI i5,vS l3,vI i6,vI i7]/\
 tp 90 [vP p1 o1,vS [61]] h_2 fun v_3 h_3=>
 ∃ c1,v_3=vB c1/\
 br c1
 (tp 91 [vP p1 o1] h_3 fun v_4 h_4=>
 ∃ i8 l4 l5 i9 l6 a4 n4 dpk4 i10 i11,v_4=vA [vI i8,vS l4,vS l5,vI i9,vS l6,vL a4 n4 dpk4,vI i10,vI i11]/\
 alc h_4 [vI i8,vS l4,vS l5,vI i9,vS l6,vL a4 n4 dpk4,vI i10,vI i11] 48 fun b1 h_5=>
 tp 92 [vP p1 o1,vS [59]] h_5 fun v_5 h_6=>
 v_5=vT []/\
 Q (vA [vI i1,vS l2,vL (ad b1 0) 1 1,vL a2 n2 dpk2,vL a3 n3 dpk3,vI i2,vI i3]) h_6)
 (tp 92 [vP p1 o1,vS [59]] h_3 fun v_6 h_7=>
 v_6=vT []/\
 Q (vA [vI i1,vS l2,vL a1 n1 dpk1,vL a2 n2 dpk2,vL a3 n3 dpk3,vI i2,vI i3]) h_7)
theorem T36 {p1 o1 h Q} (hR:R36 p1 o1 h Q):Tri Tryz.prog 36 [vP p1 o1] h Q:=
 tri_of_dn mixed Tryz.func36 rfl (by kernel_rfl) low36 (rs:=[.cell 2 true 7]) (by kernel_rfl) rfl (Eq.mpr (by kernel_rfl) hR)
def d37:DCode:=up ⟨[(5, .c (.one true dpk1)),(7, .c (.one false [.slice])),(10, .c (.one false [.slice])),(13, .c (.one false [.bool])),(15, .c (.one false [.bool])),(17, .c (.one true dpk1)),(21, .c (.one false [.slice])),(23, .l dpk1)],[],[]⟩ (lw nf Tryz.f37)
theorem low37:lw nf Tryz.f37=some (eC d37):=by kernel_rfl
def R37 (p1 o1:Nat) (h:PHeap) (Q:Value->PHeap->Prop):Prop:=
 tp 88 [vP p1 o1,vI 5] h fun v_1 h_1=>
 ∃ i1 l1 a1 n1 dpk1 a2 n2 dpk2 a3 n3 dpk3 i2 i3,v_1=vA [vI i1,vS l1,vL a1 n1 dpk1,vL a2 n2 dpk2,vL a3 n3 dpk3,vI i2,vI i3]/\
 tp 93 [vP p1 o1] h_1 fun v_2 h_2=>
 ∃ a4 n4 dpk4,v_2=vL a4 n4 dpk4/\
 tp 94 [vP p1 o1] h_2 fun v_3 h_3=>
 ∃ a5 n5 dpk5,v_3=vL a5 n5 dpk5/\
 tp 90 [vP p1 o1,vS [101,108,115,101]] h_3 fun v_4 h_4=>
 ∃ c1,v_4=vB c1/\
 br c1
 (tp 44 [vP p1 o1,vS [105,102]] h_4 fun v_5 h_5=>
 ∃ c2,v_5=vB c2/\
 br c2
 (tp 37 [vP p1 o1] h_5 fun v_6 h_6=>
 ∃ i4 l2 a6 n6 k6 a7 n7 k7 a8 n8 k8 i5 i6,v_6=vA [vI i4,vS l2,vL a6 n6 k6,vL a7 n7 k7,vL a8 n8 k8,vI i5,vI i6]/\
 alc h_6 [vI i4,vS l2,vL a6 n6 k6,vL a7 n7 k7,vL a8 n8 k8,vI i5,vI i6] 56 fun b1 h_7=>
 Q (vA [vI i1,vS l1,vL a4 n4 dpk4,vL a5 n5 dpk5,vL (ad b1 0) 1 1,vI i2,vI i3]) h_7)
 (tp 94 [vP p1 o1] h_5 fun v_7 h_8=>
 ∃ a9 n9 k9,v_7=vL a9 n9 k9/\
 Q (vA [vI i1,vS l1,vL a4 n4 dpk4,vL a5 n5 dpk5,vL a9 n9 k9,vI i2,vI i3]) h_8))
 (Q (vA [vI i1,vS l1,vL a4 n4 dpk4,vL a5 n5 dpk5,vL a3 n3 dpk3,vI i2,vI i3]) h_4)
theorem T37 {p1 o1 h Q} (hR:R37 p1 o1 h Q):Tri Tryz.prog 37 [vP p1 o1] h Q:=
 tri_of_dn mixed Tryz.func37 rfl (by kernel_rfl) low37 (rs:=[.cell 2 true 7]) (by kernel_rfl) rfl (Eq.mpr (by kernel_rfl) hR)
def d38:DCode:=up ⟨[(5, .c (.one true dpk1)),(7, .c (.one false [.slice])),(10, .c (.one false [.slice])),(12, .l dpk1)],[],[]⟩ (lw nf Tryz.f38)
theorem low38:lw nf Tryz.f38=some (eC d38):=by kernel_rfl
def R38 (p1 o1:Nat) (h:PHeap) (Q:Value->PHeap->Prop):Prop:=
 tp 88 [vP p1 o1,vI 6] h fun v_1 h_1=>
 ∃ i1 l1 a1 n1 dpk1 a2 n2 dpk2 a3 n3 dpk3 i2 i3,v_1=vA [vI i1,vS l1,vL a1 n1 dpk1,vL a2 n2 dpk2,vL a3 n3 dpk3,vI i2,vI i3]/\
 tp 93 [vP p1 o1] h_1 fun v_2 h_2=>
 ∃ a4 n4 dpk4,v_2=vL a4 n4 dpk4/\
 tp 94 [vP p1 o1] h_2 fun v_3 h_3=>
 ∃ a5 n5 dpk5,v_3=vL a5 n5 dpk5/\
 Q (vA [vI i1,vS l1,vL a4 n4 dpk4,vL a5 n5 dpk5,vL a3 n3 dpk3,vI i2,vI i3]) h_3
theorem T38 {p1 o1 h Q} (hR:R38 p1 o1 h Q):Tri Tryz.prog 38 [vP p1 o1] h Q:=
 tri_of_dn mixed Tryz.func38 rfl (by kernel_rfl) low38 (rs:=[.cell 2 true 7]) (by kernel_rfl) rfl (Eq.mpr (by kernel_rfl) hR)
def d39:DCode:=up ⟨[(5, .c (.one true dpk1)),(7, .c (.one false [.bool])),(10, .c (.one true dpk3)),(14, .c (.tup [])),(15, .l dpk1)],[],[]⟩ (lw nf Tryz.f39)
theorem low39:lw nf Tryz.f39=some (eC d39):=by kernel_rfl
def R39 (p1 o1:Nat) (h:PHeap) (Q:Value->PHeap->Prop):Prop:=
 tp 88 [vP p1 o1,vI 7] h fun v_1 h_1=>
 ∃ i1 l1 a1 n1 dpk1 a2 n2 dpk2 a3 n3 dpk3 i2 i3,v_1=vA [vI i1,vS l1,vL a1 n1 dpk1,vL a2 n2 dpk2,vL a3 n3 dpk3,vI i2,vI i3]/\
 tp 44 [vP p1 o1,vS [59]] h_1 fun v_2 h_2=>
 ∃ c1,v_2=vB c1/\
 br (!c1)
 (tp 91 [vP p1 o1] h_2 fun v_3 h_3=>
 ∃ i4 l2 l3 i5 l4 a4 n4 dpk4 i6 i7,v_3=vA [vI i4,vS l2,vS l3,vI i5,vS l4,vL a4 n4 dpk4,vI i6,vI i7]/\
 alc h_3 [vI i4,vS l2,vS l3,vI i5,vS l4,vL a4 n4 dpk4,vI i6,vI i7] 48 fun b1 h_4=>
 tp 92 [vP p1 o1,vS [59]] h_4 fun v_4 h_5=>
 v_4=vT []/\
 Q (vA [vI i1,vS l1,vL (ad b1 0) 1 1,vL a2 n2 dpk2,vL a3 n3 dpk3,vI i2,vI i3]) h_5)
 (tp 92 [vP p1 o1,vS [59]] h_2 fun v_5 h_6=>
 v_5=vT []/\
 Q (vA [vI i1,vS l1,vL a1 n1 dpk1,vL a2 n2 dpk2,vL a3 n3 dpk3,vI i2,vI i3]) h_6)
theorem T39 {p1 o1 h Q} (hR:R39 p1 o1 h Q):Tri Tryz.prog 39 [vP p1 o1] h Q:=
 tri_of_dn mixed Tryz.func39 rfl (by kernel_rfl) low39 (rs:=[.cell 2 true 7]) (by kernel_rfl) rfl (Eq.mpr (by kernel_rfl) hR)
def d40:DCode:=up ⟨[(2, .l [.ptr]),(3, .c (.one true dpk1))],[],[]⟩ (lw nf Tryz.f40)
theorem low40:lw nf Tryz.f40=some (eC d40):=by kernel_rfl
def R40 (p1 o1:Nat) (h:PHeap) (Q:Value->PHeap->Prop):Prop:=
 ∃ p2 o2,h.cell p1 o1=some (vP p2 o2)/\
 tp 41 [vP p2 o2,vI 8] h fun v_1 h_1=>
 ∃ i1 l1 a1 n1 dpk1 a2 n2 dpk2 a3 n3 dpk3 i2 i3,v_1=vA [vI i1,vS l1,vL a1 n1 dpk1,vL a2 n2 dpk2,vL a3 n3 dpk3,vI i2,vI i3]/\
 Q (vA [vI i1,vS l1,vL a1 n1 dpk1,vL a2 n2 dpk2,vL a3 n3 dpk3,vI i2,vI i3]) h_1
theorem T40 {p1 o1 h Q} (hR:R40 p1 o1 h Q):Tri Tryz.prog 40 [vP p1 o1] h Q:=
 tri_of_dn mixed Tryz.func40 rfl (by kernel_rfl) low40 (rs:=[.cell 1 true 7]) (by kernel_rfl) rfl (Eq.mpr (by kernel_rfl) hR)
def d41:DCode:=up ⟨[(8, .c (.one true dpk1)),(10, .c (.tup [])),(11, .l dpk1)],[],[]⟩ (lw nf Tryz.f41)
theorem low41:lw nf Tryz.f41=some (eC d41):=by kernel_rfl
def R41 (p1 o1:Nat) (i1:Int) (h:PHeap) (Q:Value->PHeap->Prop):Prop:=
 tp 88 [vP p1 o1,vI i1] h fun v_1 h_1=>
 ∃ i2 l1 a1 n1 dpk1 a2 n2 dpk2 a3 n3 dpk3 i3 i4,v_1=vA [vI i2,vS l1,vL a1 n1 dpk1,vL a2 n2 dpk2,vL a3 n3 dpk3,vI i3,vI i4]/\
 tp 92 [vP p1 o1,vS [59]] h_1 fun v_2 h_2=>
 v_2=vT []/\
 Q (vA [vI i2,vS l1,vL a1 n1 dpk1,vL a2 n2 dpk2,vL a3 n3 dpk3,vI i3,vI i4]) h_2
theorem T41 {p1 o1 i1 h Q} (hR:R41 p1 o1 i1 h Q):Tri Tryz.prog 41 [vP p1 o1,vI i1] h Q:=
 tri_of_dn mixed Tryz.func41 rfl (by kernel_rfl) low41 (rs:=[.cell 4 true 7]) (by kernel_rfl) rfl (Eq.mpr (by kernel_rfl) hR)
def d42:DCode:=up ⟨[(2, .l [.ptr]),(3, .c (.one true dpk1))],[],[]⟩ (lw nf Tryz.f42)
theorem low42:lw nf Tryz.f42=some (eC d42):=by kernel_rfl
def R42 (p1 o1:Nat) (h:PHeap) (Q:Value->PHeap->Prop):Prop:=
 ∃ p2 o2,h.cell p1 o1=some (vP p2 o2)/\
 tp 41 [vP p2 o2,vI 9] h fun v_1 h_1=>
 ∃ i1 l1 a1 n1 dpk1 a2 n2 dpk2 a3 n3 dpk3 i2 i3,v_1=vA [vI i1,vS l1,vL a1 n1 dpk1,vL a2 n2 dpk2,vL a3 n3 dpk3,vI i2,vI i3]/\
 Q (vA [vI i1,vS l1,vL a1 n1 dpk1,vL a2 n2 dpk2,vL a3 n3 dpk3,vI i2,vI i3]) h_1
theorem T42 {p1 o1 h Q} (hR:R42 p1 o1 h Q):Tri Tryz.prog 42 [vP p1 o1] h Q:=
 tri_of_dn mixed Tryz.func42 rfl (by kernel_rfl) low42 (rs:=[.cell 1 true 7]) (by kernel_rfl) rfl (Eq.mpr (by kernel_rfl) hR)
def d43:DCode:=up ⟨[(8, .l [qi]),(14, .l [.slice]),(17, .l [qi])],[],[]⟩ (lw nf Tryz.f43)
theorem low43:lw nf Tryz.f43=some (eC d43):=by kernel_rfl
def R43 (p1 o1:Nat) (i1:Int) (h:PHeap) (Q:Value->PHeap->Prop):Prop:=
 ∃ i2,h.cell p1 (o1+5)=some (vI i2)/\
 br (i2 == 0)
 (∃ a1 n1 dpk1,h.cell p1 o1=some (vL a1 n1 dpk1)/\
 slt a1 (0:Int) n1 fun b1 o2=>
 ∃ i3,h.cell b1 o2=some (vI i3)/\
 Q (vB (i3 == i1)) h)
 (Q (vB false) h)
theorem T43 {p1 o1 i1 h Q} (hR:R43 p1 o1 i1 h Q):Tri Tryz.prog 43 [vP p1 o1,vI i1] h Q:=
 tri_of_dn mixed Tryz.func43 rfl (by kernel_rfl) low43 (rs:=[.tmp 4]) (by kernel_rfl) rfl (Eq.mpr (by kernel_rfl) hR)
def d44:DCode:=up ⟨[(6, .c (.one false [.bool])),(9, .c (.one false [.bool])),(15, .l [.slice]),(18, .l [.str])],[],[]⟩ (lw nf Tryz.f44)
theorem low44:lw nf Tryz.f44=some (eC d44):=by kernel_rfl
def R44 (p1 o1:Nat) (l1:Bs) (h:PHeap) (Q:Value->PHeap->Prop):Prop:=
 tp 43 [vP p1 o1,vI 4] h fun v_1 h_1=>
 ∃ c1,v_1=vB c1/\
 br c1
 (∃ a1 n1 dpk1,h_1.cell p1 o1=some (vL a1 n1 dpk1)/\
 slt a1 (0:Int) n1 fun b1 o2=>
 ∃ l2,h_1.cell b1 (o2+1)=some (vS l2)/\
 Q (vB (l2 == l1)) h_1)
 (tp 43 [vP p1 o1,vI 5] h_1 fun v_2 h_2=>
 ∃ c2,v_2=vB c2/\
 br c2
 (∃ a2 n2 dpk2,h_2.cell p1 o1=some (vL a2 n2 dpk2)/\
 slt a2 (0:Int) n2 fun b2 o3=>
 ∃ l3,h_2.cell b2 (o3+1)=some (vS l3)/\
 Q (vB (l3 == l1)) h_2)
 (Q (vB false) h_2))
theorem T44 {p1 o1 l1 h Q} (hR:R44 p1 o1 l1 h Q):Tri Tryz.prog 44 [vP p1 o1,vS l1] h Q:=
 tri_of_dn mixed Tryz.func44 rfl (by kernel_rfl) low44 (rs:=[.tmp 4]) (by kernel_rfl) rfl (Eq.mpr (by kernel_rfl) hR)
def d45:DCode:=up ⟨[(6, .c (.tup [])),(8, .c (.one true dpk2)),(10, .l [.str]),(12, .l [qi]),(14, .l [qi]),(18, .c (.one false [.bool])),(20, .c (.one true dpk2)),(25, .c (.one false [.bool])),(27, .c (.one true dpk2)),(31, .c (.tup [])),(33, .c (.tup [])),(34, .l dpk4)],[],[]⟩ (lw nf Tryz.f45)
theorem low45:lw nf Tryz.f45=some (eC d45):=by kernel_rfl
def R45 (p1 o1:Nat) (h:PHeap) (Q:Value->PHeap->Prop):Prop:=
 tp 92 [vP p1 o1,vS [118,97,114]] h fun v_1 h_1=>
 v_1=vT []/\
 tp 89 [vP p1 o1,vI 1] h_1 fun v_2 h_2=>
 ∃ i1 l1 i2 l2 i3 i4,v_2=vA [vI i1,vS l1,vI i2,vS l2,vI i3,vI i4]/\
 tp 90 [vP p1 o1,vS [61]] h_2 fun v_3 h_3=>
 ∃ c1,v_3=vB c1/\
 br c1
 (tp 89 [vP p1 o1,vI 2] h_3 fun v_4 h_4=>
 ∃ i5 l3 i6 l4 i7 i8,v_4=vA [vI i5,vS l3,vI i6,vS l4,vI i7,vI i8]/\
 tp 92 [vP p1 o1,vS [59]] h_4 fun v_5 h_5=>
 v_5=vT []/\
 Q (vA [vS l1,vI 0,vI i6,vI i3,vI i4]) h_5)
 (tp 90 [vP p1 o1,vS [91]] h_3 fun v_6 h_6=>
 ∃ c2,v_6=vB c2/\
 br c2
 (tp 89 [vP p1 o1,vI 2] h_6 fun v_7 h_7=>
 ∃ i9 l5 i10 l6 i11 i12,v_7=vA [vI i9,vS l5,vI i10,vS l6,vI i11,vI i12]/\
 tp 92 [vP p1 o1,vS [93]] h_7 fun v_8 h_8=>
 v_8=vT []/\
 tp 92 [vP p1 o1,vS [59]] h_8 fun v_9 h_9=>
 v_9=vT []/\
 Q (vA [vS l1,vI i10,vI 0,vI i3,vI i4]) h_9)
 (tp 92 [vP p1 o1,vS [59]] h_6 fun v_10 h_10=>
 v_10=vT []/\
 Q (vA [vS l1,vI 0,vI 0,vI i3,vI i4]) h_10))
theorem T45 {p1 o1 h Q} (hR:R45 p1 o1 h Q):Tri Tryz.prog 45 [vP p1 o1] h Q:=
 tri_of_dn mixed Tryz.func45 rfl (by kernel_rfl) low45 (rs:=[.cell 2 true 5]) (by kernel_rfl) rfl (Eq.mpr (by kernel_rfl) hR)
abbrev o46_1:Op:= .call { callee:=(.builtin .append),args:=#[(.tmp 22),(.tmp 26)],argTypes:=#[51,51] }
abbrev o46_2:Op:= .call { callee:=(.builtin .append),args:=#[(.tmp 32),(.tmp 36)],argTypes:=#[51,51] }
def d46:DCode:=up ⟨[(6, .c (.tup [])),(8, .c (.one true dpk2)),(10, .l [.str]),(12, .l [qi]),(14, .l [qi]),(17, .c (.tup [])),(19, .c (.one false [.bool])),(22, .l [.slice]),(24, .c (.one true dpk2)),(27, .c (.one false [.slice])),(30, .c (.one false [.bool])),(32, .l [.slice]),(34, .c (.one true dpk2)),(37, .c (.one false [.slice])),(40, .c (.tup [])),(42, .c (.one false [.slice])),(44, .l dpk5)],[],[(29,10,[],[(4,dpk5)])]⟩ (lw nf Tryz.f46)
theorem low46:lw nf Tryz.f46=some (eC d46):=by kernel_rfl
def R46 (p1 o1:Nat) (h:PHeap) (Q:Value->PHeap->Prop):Prop:=
 tp 92 [vP p1 o1,vS [102,117,110,99]] h fun v_1 h_1=>
 v_1=vT []/\
 tp 89 [vP p1 o1,vI 1] h_1 fun v_2 h_2=>
 ∃ i1 l1 i2 l2 i3 i4,v_2=vA [vI i1,vS l1,vI i2,vS l2,vI i3,vI i4]/\
 tp 92 [vP p1 o1,vS [40]] h_2 fun v_3 h_3=>
 v_3=vT []/\
 tp 44 [vP p1 o1,vS [41]] h_3 fun v_4 h_4=>
 ∃ c1,v_4=vB c1/\
 br (!c1)
 (tp 89 [vP p1 o1,vI 1] h_4 fun v_5 h_5=>
 ∃ i5 l3 i6 l4 i7 i8,v_5=vA [vI i5,vS l3,vI i6,vS l4,vI i7,vI i8]/\
 (tv [vL none 0 0])/\
 alc h_5 [vS l3] 9 fun b1 h_6=>
 (tv [vL none 0 0])/\
 rq [(22,vL none 0 0),(26,vL (ad b1 0) 1 1)] o46_1 51 h_6 fun v_6 h_7=>
 ∃ a1 n1 dpk1,v_6=vL a1 n1 dpk1/\
 ∃ (I_1:Nat->Bs->OA->Nat->Nat->OA->Nat->Nat->Int->Int->PHeap->Prop),(∃ m2,I_1 m2 l1 a1 n1 dpk1 none 0 0 i3 i4 h_7)/\
 ∀ m1 l5 a2 n2 dpk2 a3 n3 dpk3 i9 i10 h_8,I_1 m1 l5 a2 n2 dpk2 a3 n3 dpk3 i9 i10 h_8->
 tp 90 [vP p1 o1,vS [44]] h_8 fun v_7 h_9=>
 ∃ c2,v_7=vB c2/\
 br c2
 (tp 89 [vP p1 o1,vI 1] h_9 fun v_8 h_10=>
 ∃ i11 l6 i12 l7 i13 i14,v_8=vA [vI i11,vS l6,vI i12,vS l7,vI i13,vI i14]/\
 (tv [vL a2 n2 dpk2])/\
 alc h_10 [vS l6] 9 fun b2 h_11=>
 (tv [vL a2 n2 dpk2])/\
 rq [(32,vL a2 n2 dpk2),(36,vL (ad b2 0) 1 1)] o46_2 51 h_11 fun v_9 h_12=>
 ∃ a4 n4 dpk4,v_9=vL a4 n4 dpk4/\
 ∃ m3,m3 < m1/\I_1 m3 l5 a4 n4 dpk4 a3 n3 dpk3 i9 i10 h_12/\
 tv [vI i1,vS l1,vI i2,vS l2,vI i3,vI i4]/\tv [vS [],vL none 0 0,vL none 0 0,vI 0,vI 0]/\True)
 (tp 92 [vP p1 o1,vS [41]] h_9 fun v_10 h_13=>
 v_10=vT []/\
 tp 94 [vP p1 o1] h_13 fun v_11 h_14=>
 ∃ a5 n5 dpk5,v_11=vL a5 n5 dpk5/\
 Q (vA [vS l5,vL a2 n2 dpk2,vL a5 n5 dpk5,vI i9,vI i10]) h_14))
 (tp 92 [vP p1 o1,vS [41]] h_4 fun v_12 h_15=>
 v_12=vT []/\
 tp 94 [vP p1 o1] h_15 fun v_13 h_16=>
 ∃ a6 n6 k6,v_13=vL a6 n6 k6/\
 Q (vA [vS l1,vL none 0 0,vL a6 n6 k6,vI i3,vI i4]) h_16)
theorem T46 {p1 o1 h Q} (hR:R46 p1 o1 h Q):Tri Tryz.prog 46 [vP p1 o1] h Q:=
 tri_of_dn mixed Tryz.func46 rfl (by kernel_rfl) low46 (rs:=[.cell 2 true 5]) (by kernel_rfl) rfl (Eq.mpr (by kernel_rfl) hR)
def d47:DCode:=up ⟨[(7, .l [qi]),(15, .l [.slice]),(18, .l [qi]),(22, .l [.slice]),(25, .l [qi])],[28,30,32],[]⟩ (lw nf Tryz.f47)
theorem low47:lw nf Tryz.f47=some (eC d47):=by kernel_rfl
def R47 (p1 o1:Nat) (i1:Int) (h:PHeap) (Q:Value->PHeap->Prop):Prop:=
 ∃ i2,h.cell p1 (o1+5)=some (vI i2)/\
 br (i2 == 0)
 (∃ a1 n1 dpk1,h.cell p1 o1=some (vL a1 n1 dpk1)/\
 slt a1 (0:Int) n1 fun b1 o2=>
 ∃ i3,h.cell b1 (o2+4)=some (vI i3)/\
 ∃ a2 n2 dpk2,h.cell p1 o1=some (vL a2 n2 dpk2)/\
 slt a2 (0:Int) n2 fun b2 o3=>
 ∃ i4,h.cell b2 (o3+5)=some (vI i4)/\
 sto h p1 (o1+3) 1 [vI i3] fun h_1=>
 sto h_1 p1 (o1+4) 1 [vI i4] fun h_2=>
 sto h_2 p1 (o1+5) 1 [vI i1] fun h_3=>
 Q (vT []) h_3)
 (Q (vT []) h)
theorem T47 {p1 o1 i1 h Q} (hR:R47 p1 o1 i1 h Q):Tri Tryz.prog 47 [vP p1 o1,vI i1] h Q:=
 tri_of_dn mixed Tryz.func47 rfl (by kernel_rfl) low47 (rs:=[]) (by kernel_rfl) rfl (Eq.mpr (by kernel_rfl) hR)
def d88:DCode:=up ⟨[(7, .c (.one true dpk2)),(10, .l [qi]),(12, .l [qi])],[],[]⟩ (lw nf Tryz.f88)
theorem low88:lw nf Tryz.f88=some (eC d88):=by kernel_rfl
def R88 (p1 o1:Nat) (i1:Int) (h:PHeap) (Q:Value->PHeap->Prop):Prop:=
 tp 139 [vP p1 o1] h fun v_1 h_1=>
 ∃ i2 l1 i3 l2 i4 i5,v_1=vA [vI i2,vS l1,vI i3,vS l2,vI i4,vI i5]/\
 Q (vA [vI i1,vS [],vL none 0 0,vL none 0 0,vL none 0 0,vI i4,vI i5]) h_1
theorem T88 {p1 o1 i1 h Q} (hR:R88 p1 o1 i1 h Q):Tri Tryz.prog 88 [vP p1 o1,vI i1] h Q:=
 tri_of_dn mixed Tryz.func88 rfl (by kernel_rfl) low88 (rs:=[.cell 4 true 7]) (by kernel_rfl) rfl (Eq.mpr (by kernel_rfl) hR)
def d89:DCode:=up ⟨[(7, .c (.one false [.bool])),(10, .c (.tup [])),(13, .c (.one true dpk2))],[],[]⟩ (lw nf Tryz.f89)
theorem low89:lw nf Tryz.f89=some (eC d89):=by kernel_rfl
def R89 (p1 o1:Nat) (i1:Int) (h:PHeap) (Q:Value->PHeap->Prop):Prop:=
 tp 43 [vP p1 o1,vI i1] h fun v_1 h_1=>
 ∃ c1,v_1=vB c1/\
 br (!c1)
 (tp 47 [vP p1 o1,vI 30] h_1 fun v_2 h_2=>
 v_2=vT []/\
 Q (vA [vI 0,vS [],vI 0,vS [],vI 0,vI 0]) h_2)
 (tp 139 [vP p1 o1] h_1 fun v_3 h_3=>
 ∃ i2 l1 i3 l2 i4 i5,v_3=vA [vI i2,vS l1,vI i3,vS l2,vI i4,vI i5]/\
 Q (vA [vI i2,vS l1,vI i3,vS l2,vI i4,vI i5]) h_3)
theorem T89 {p1 o1 i1 h Q} (hR:R89 p1 o1 i1 h Q):Tri Tryz.prog 89 [vP p1 o1,vI i1] h Q:=
 tri_of_dn mixed Tryz.func89 rfl (by kernel_rfl) low89 (rs:=[.cell 4 true 6]) (by kernel_rfl) rfl (Eq.mpr (by kernel_rfl) hR)
def d90:DCode:=up ⟨[(7, .c (.one false [.bool])),(17, .l [qi]),(20, .c (.tup [])),(24, .l [qi]),(35, .l [qi]),(40, .c (.one true dpk2))],[27,38],[]⟩ (lw nf Tryz.f90)
theorem low90:lw nf Tryz.f90=some (eC d90):=by kernel_rfl
def R90 (p1 o1:Nat) (l1:Bs) (h:PHeap) (Q:Value->PHeap->Prop):Prop:=
 tp 44 [vP p1 o1,vS l1] h fun v_1 h_1=>
 ∃ c1,v_1=vB c1/\
 br (!c1)
 (Q (vB false) h_1)
 (br (l1 == [40])
 (∃ i1,h_1.cell p1 (o1+1)=some (vI i1)/\
 br (i1 == 32)
 (tp 47 [vP p1 o1,vI 9] h_1 fun v_2 h_2=>
 v_2=vT []/\
 Q (vB false) h_2)
 (∃ i2,h_1.cell p1 (o1+1)=some (vI i2)/\
 sto h_1 p1 (o1+1) 1 [vI (IntKind.i64.wrap (i2+1))] fun h_3=>
 tp 139 [vP p1 o1] h_3 fun v_3 h_4=>
 ∃ i3 l3 i4 l4 i5 i6,v_3=vA [vI i3,vS l3,vI i4,vS l4,vI i5,vI i6]/\
 Q (vB true) h_4))
 (br (l1 == [91])
 (∃ i7,h_1.cell p1 (o1+1)=some (vI i7)/\
 br (i7 == 32)
 (tp 47 [vP p1 o1,vI 9] h_1 fun v_4 h_5=>
 v_4=vT []/\
 Q (vB false) h_5)
 (∃ i8,h_1.cell p1 (o1+1)=some (vI i8)/\
 sto h_1 p1 (o1+1) 1 [vI (IntKind.i64.wrap (i8+1))] fun h_6=>
 tp 139 [vP p1 o1] h_6 fun v_5 h_7=>
 ∃ i9 l6 i10 l7 i11 i12,v_5=vA [vI i9,vS l6,vI i10,vS l7,vI i11,vI i12]/\
 Q (vB true) h_7))
 (br (l1 == [123])
 (∃ i13,h_1.cell p1 (o1+1)=some (vI i13)/\
 br (i13 == 32)
 (tp 47 [vP p1 o1,vI 9] h_1 fun v_6 h_8=>
 v_6=vT []/\
 Q (vB false) h_8)
 (∃ i14,h_1.cell p1 (o1+1)=some (vI i14)/\
 sto h_1 p1 (o1+1) 1 [vI (IntKind.i64.wrap (i14+1))] fun h_9=>
 tp 139 [vP p1 o1] h_9 fun v_7 h_10=>
 ∃ i15 l9 i16 l10 i17 i18,v_7=vA [vI i15,vS l9,vI i16,vS l10,vI i17,vI i18]/\
 Q (vB true) h_10))
 (br (l1 == [41])
 (∃ i19,h_1.cell p1 (o1+1)=some (vI i19)/\
 sto h_1 p1 (o1+1) 1 [vI (IntKind.i64.wrap (i19 - 1))] fun h_11=>
 tp 139 [vP p1 o1] h_11 fun v_8 h_12=>
 ∃ i20 l12 i21 l13 i22 i23,v_8=vA [vI i20,vS l12,vI i21,vS l13,vI i22,vI i23]/\
 Q (vB true) h_12)
 (br (l1 == [93])
 (∃ i24,h_1.cell p1 (o1+1)=some (vI i24)/\
 sto h_1 p1 (o1+1) 1 [vI (IntKind.i64.wrap (i24 - 1))] fun h_13=>
 tp 139 [vP p1 o1] h_13 fun v_9 h_14=>
 ∃ i25 l15 i26 l16 i27 i28,v_9=vA [vI i25,vS l15,vI i26,vS l16,vI i27,vI i28]/\
 Q (vB true) h_14)
 (br (l1 == [125])
 (∃ i29,h_1.cell p1 (o1+1)=some (vI i29)/\
 sto h_1 p1 (o1+1) 1 [vI (IntKind.i64.wrap (i29 - 1))] fun h_15=>
 tp 139 [vP p1 o1] h_15 fun v_10 h_16=>
 ∃ i30 l18 i31 l19 i32 i33,v_10=vA [vI i30,vS l18,vI i31,vS l19,vI i32,vI i33]/\
 Q (vB true) h_16)
 (tp 139 [vP p1 o1] h_1 fun v_11 h_17=>
 ∃ i34 l20 i35 l21 i36 i37,v_11=vA [vI i34,vS l20,vI i35,vS l21,vI i36,vI i37]/\
 Q (vB true) h_17)))))))
theorem T90 {p1 o1 l1 h Q} (hR:R90 p1 o1 l1 h Q):Tri Tryz.prog 90 [vP p1 o1,vS l1] h Q:=
 tri_of_dn mixed Tryz.func90 rfl (by kernel_rfl) low90 (rs:=[.tmp 4]) (by kernel_rfl) rfl (Eq.mpr (by kernel_rfl) hR)
def d91:DCode:=up ⟨[(4, .c (.one true dpk3))],[],[]⟩ (lw nf Tryz.f91)
theorem low91:lw nf Tryz.f91=some (eC d91):=by kernel_rfl
def R91 (p1 o1:Nat) (h:PHeap) (Q:Value->PHeap->Prop):Prop:=
 tp 140 [vP p1 o1,vI 1] h fun v_1 h_1=>
 ∃ i1 l1 l2 i2 l3 a1 n1 dpk1 i3 i4,v_1=vA [vI i1,vS l1,vS l2,vI i2,vS l3,vL a1 n1 dpk1,vI i3,vI i4]/\
 Q (vA [vI i1,vS l1,vS l2,vI i2,vS l3,vL a1 n1 dpk1,vI i3,vI i4]) h_1
theorem T91 {p1 o1 h Q} (hR:R91 p1 o1 h Q):Tri Tryz.prog 91 [vP p1 o1] h Q:=
 tri_of_dn mixed Tryz.func91 rfl (by kernel_rfl) low91 (rs:=[.cell 2 true 8]) (by kernel_rfl) rfl (Eq.mpr (by kernel_rfl) hR)
def d92:DCode:=up ⟨[(6, .c (.one false [.bool])),(9, .c (.tup []))],[],[]⟩ (lw nf Tryz.f92)
theorem low92:lw nf Tryz.f92=some (eC d92):=by kernel_rfl
def R92 (p1 o1:Nat) (l1:Bs) (h:PHeap) (Q:Value->PHeap->Prop):Prop:=
 tp 90 [vP p1 o1,vS l1] h fun v_1 h_1=>
 ∃ c1,v_1=vB c1/\
 br (!c1)
 (tp 47 [vP p1 o1,vI 30] h_1 fun v_2 h_2=>
 v_2=vT []/\
 Q (vT []) h_2)
 (Q (vT []) h_1)
theorem T92 {p1 o1 l1 h Q} (hR:R92 p1 o1 l1 h Q):Tri Tryz.prog 92 [vP p1 o1,vS l1] h Q:=
 tri_of_dn mixed Tryz.func92 rfl (by kernel_rfl) low92 (rs:=[]) (by kernel_rfl) rfl (Eq.mpr (by kernel_rfl) hR)
def d93:DCode:=up ⟨[(5, .c (.tup [])),(7, .c (.one true dpk3)),(9, .c (.tup [])),(10, .l dpk3)],[],[]⟩ (lw nf Tryz.f93)
theorem low93:lw nf Tryz.f93=some (eC d93):=by kernel_rfl
def R93 (p1 o1:Nat) (h:PHeap) (Q:Value->PHeap->Prop):Prop:=
 tp 92 [vP p1 o1,vS [40]] h fun v_1 h_1=>
 v_1=vT []/\
 tp 91 [vP p1 o1] h_1 fun v_2 h_2=>
 ∃ i1 l1 l2 i2 l3 a1 n1 dpk1 i3 i4,v_2=vA [vI i1,vS l1,vS l2,vI i2,vS l3,vL a1 n1 dpk1,vI i3,vI i4]/\
 tp 92 [vP p1 o1,vS [41]] h_2 fun v_3 h_3=>
 v_3=vT []/\
 alc h_3 [vI i1,vS l1,vS l2,vI i2,vS l3,vL a1 n1 dpk1,vI i3,vI i4] 48 fun b1 h_4=>
 Q (vL (ad b1 0) 1 1) h_4
theorem T93 {p1 o1 h Q} (hR:R93 p1 o1 h Q):Tri Tryz.prog 93 [vP p1 o1] h Q:=
 tri_of_dn mixed Tryz.func93 rfl (by kernel_rfl) low93 (rs:=[.tmp 2]) (by kernel_rfl) rfl (Eq.mpr (by kernel_rfl) hR)
abbrev o94_2:Op:= .call { callee:=(.builtin .append),args:=#[(.tmp 16),(.tmp 19)],argTypes:=#[52,52] }
def d94:DCode:=up ⟨[(5, .c (.tup [])),(9, .l [qi]),(13, .c (.one false [.bool])),(18, .c (.one true dpk1)),(20, .c (.one false [.slice])),(22, .c (.tup []))],[],[(6,16,[(3, .slice)],[])]⟩ (lw nf Tryz.f94)
theorem low94:lw nf Tryz.f94=some (eC d94):=by kernel_rfl
def R94 (p1 o1:Nat) (h:PHeap) (Q:Value->PHeap->Prop):Prop:=
 tp 92 [vP p1 o1,vS [123]] h fun v_1 h_1=>
 v_1=vT []/\
 ∃ (I_1:Nat->OA->Nat->Nat->PHeap->Prop),(∃ m2,I_1 m2 none 0 0 h_1)/\
 ∀ m1 a1 n1 dpk1 h_2,I_1 m1 a1 n1 dpk1 h_2->
 ∃ i1,h_2.cell p1 (o1+5)=some (vI i1)/\
 br (i1 == 0)
 (tp 44 [vP p1 o1,vS [125]] h_2 fun v_2 h_3=>
 ∃ c1,v_2=vB c1/\
 br (!c1)
 (tp 141 [vP p1 o1] h_3 fun v_3 h_4=>
 ∃ i2 l1 a2 n2 dpk2 a3 n3 dpk3 a4 n4 dpk4 i3 i4,v_3=vA [vI i2,vS l1,vL a2 n2 dpk2,vL a3 n3 dpk3,vL a4 n4 dpk4,vI i3,vI i4]/\
 alc h_4 [vI i2,vS l1,vL a2 n2 dpk2,vL a3 n3 dpk3,vL a4 n4 dpk4,vI i3,vI i4] 56 fun b1 h_5=>
 rq [(16,vL a1 n1 dpk1),(19,vL (ad b1 0) 1 1)] o94_2 52 h_5 fun v_4 h_6=>
 ∃ a5 n5 dpk5,v_4=vL a5 n5 dpk5/\
 ∃ m3,m3 < m1/\I_1 m3 a5 n5 dpk5 h_6/\
 True)
 (tp 92 [vP p1 o1,vS [125]] h_3 fun v_5 h_7=>
 v_5=vT []/\
 Q (vL a1 n1 dpk1) h_7))
 (tp 92 [vP p1 o1,vS [125]] h_2 fun v_6 h_8=>
 v_6=vT []/\
 Q (vL a1 n1 dpk1) h_8)
theorem T94 {p1 o1 h Q} (hR:R94 p1 o1 h Q):Tri Tryz.prog 94 [vP p1 o1] h Q:=
 tri_of_dn mixed Tryz.func94 rfl (by kernel_rfl) low94 (rs:=[.tmp 2]) (by kernel_rfl) rfl (Eq.mpr (by kernel_rfl) hR)
def d139:DCode:=up ⟨[(7, .l [.slice]),(9, .l dpk2),(14, .l [.slice]),(18, .l dpk2)],[17],[]⟩ (lw nf Tryz.f139)
theorem low139:lw nf Tryz.f139=some (eC d139):=by kernel_rfl
def R139 (p1 o1:Nat) (h:PHeap) (Q:Value->PHeap->Prop):Prop:=
 ∃ a1 n1 dpk1,h.cell p1 o1=some (vL a1 n1 dpk1)/\
 slt a1 (0:Int) n1 fun b1 o2=>
 ∃ i1 l1 i2 l2 i3 i4,h.row b1 o2 [vI i1,vS l1,vI i2,vS l2,vI i3,vI i4]/\
 ∃ a2 n2 dpk2,h.cell p1 o1=some (vL a2 n2 dpk2)/\
 (okA a2 n2 dpk2/\0<=(1:Int)/\(1:Int)<=(n2:Int)/\(n2:Int)<=dpk2)/\∀ a3,SlA a2 a3 1 dpk2 6->
 ∃ l3 t1 z1,h p1=some (.cells ⟨l3⟩ t1 z1)/\(o1+1<=l3.length/\z1.2<=o1)/\
 ∀ h_1,h_1=h.put p1 (.cells ⟨splice l3 o1 [vL a3 ((n2:Int).toNat - 1) (dpk2 - 1)]⟩ t1 z1)->
 Q (vA [vI i1,vS l1,vI i2,vS l2,vI i3,vI i4]) h_1
theorem T139 {p1 o1 h Q} (hR:R139 p1 o1 h Q):Tri Tryz.prog 139 [vP p1 o1] h Q:=
 tri_of_dn mixed Tryz.func139 rfl (by kernel_rfl) low139 (rs:=[.cell 2 true 6]) (by kernel_rfl) rfl (Eq.mpr (by kernel_rfl) hR)
def d140:DCode:=up ⟨[(11, .c (.one true dpk3)),(15, .c (.one true dpk3)),(17, .c (.one false [.bool])),(22, .l [.slice]),(25, .l [.str]),(26, .c (.one false [qi])),(31, .c (.one true dpk2)),(35, .c (.one true dpk3)),(37, .l [.str]),(38, .l dpk3),(39, .l dpk3),(42, .l [qi]),(44, .l [qi]),(46, .l dpk3)],[],[(16,32,[],[(5,dpk3)])]⟩ (lw nf Tryz.f140)
theorem low140:lw nf Tryz.f140=some (eC d140):=by kernel_rfl
def R140 (p1 o1:Nat) (i1:Int) (h:PHeap) (Q:Value->PHeap->Prop):Prop:=
 br (i1 == 11)
 (tp 172 [vP p1 o1] h fun v_1 h_1=>
 ∃ i2 l1 l2 i3 l3 a1 n1 dpk1 i4 i5,v_1=vA [vI i2,vS l1,vS l2,vI i3,vS l3,vL a1 n1 dpk1,vI i4,vI i5]/\
 Q (vA [vI i2,vS l1,vS l2,vI i3,vS l3,vL a1 n1 dpk1,vI i4,vI i5]) h_1)
 (tp 140 [vP p1 o1,vI (IntKind.i64.wrap (i1+1))] h fun v_2 h_2=>
 ∃ i6 l4 l5 i7 l6 a2 n2 dpk2 i8 i9,v_2=vA [vI i6,vS l4,vS l5,vI i7,vS l6,vL a2 n2 dpk2,vI i8,vI i9]/\
 ∃ (I_1:Nat->Int->Bs->Bs->Int->Bs->OA->Nat->Nat->Int->Int->PHeap->Prop),(∃ m2,I_1 m2 i6 l4 l5 i7 l6 a2 n2 dpk2 i8 i9 h_2)/\
 ∀ m1 i10 l7 l8 i11 l9 a3 n3 dpk3 i12 i13 h_3,I_1 m1 i10 l7 l8 i11 l9 a3 n3 dpk3 i12 i13 h_3->
 tp 43 [vP p1 o1,vI 5] h_3 fun v_3 h_4=>
 ∃ c1,v_3=vB c1/\
 br c1
 (∃ a4 n4 dpk4,h_4.cell p1 o1=some (vL a4 n4 dpk4)/\
 slt a4 (0:Int) n4 fun b1 o2=>
 ∃ l10,h_4.cell b1 (o2+1)=some (vS l10)/\
 tp 26 [vS l10] h_4 fun v_4 h_5=>
 ∃ i14,v_4=vI i14/\
 br (i14 == i1)
 (tp 139 [vP p1 o1] h_5 fun v_5 h_6=>
 ∃ i15 l11 i16 l12 i17 i18,v_5=vA [vI i15,vS l11,vI i16,vS l12,vI i17,vI i18]/\
 tp 140 [vP p1 o1,vI (IntKind.i64.wrap (i1+1))] h_6 fun v_6 h_7=>
 ∃ i19 l13 l14 i20 l15 a5 n5 dpk5 i21 i22,v_6=vA [vI i19,vS l13,vS l14,vI i20,vS l15,vL a5 n5 dpk5,vI i21,vI i22]/\
 alc h_7 [vI i10,vS l7,vS l8,vI i11,vS l9,vL a3 n3 dpk3,vI i12,vI i13,vI i19,vS l13,vS l14,vI i20,vS l15,vL a5 n5 dpk5,vI i21,vI i22] 48 fun b2 h_8=>
 ∃ m3,m3 < m1/\I_1 m3 (7:Int) l11 [] (0:Int) [] (ad b2 0) 2 2 i17 i18 h_8/\
 tv [vI 0,vS [],vS [],vI 0,vS [],vL none 0 0,vI 0,vI 0]/\True)
 (Q (vA [vI i10,vS l7,vS l8,vI i11,vS l9,vL a3 n3 dpk3,vI i12,vI i13]) h_5))
 (Q (vA [vI i10,vS l7,vS l8,vI i11,vS l9,vL a3 n3 dpk3,vI i12,vI i13]) h_4))
theorem T140 {p1 o1 i1 h Q} (hR:R140 p1 o1 i1 h Q):Tri Tryz.prog 140 [vP p1 o1,vI i1] h Q:=
 tri_of_dn mixed Tryz.func140 rfl (by kernel_rfl) low140 (rs:=[.cell 4 true 8]) (by kernel_rfl) rfl (Eq.mpr (by kernel_rfl) hR)
abbrev o141_0:Op:= .lookup 79 (.tmp 15) (.tmp 22) true
def d141:DCode:=up ⟨[(6, .c (.one false [.bool])),(8, .c (.one true dpk1)),(10, .c (.one false [.bool])),(15, .l [.map]),(19, .l [.slice]),(22, .l [.str]),(23, .c (.tup [(false,[.any]),(false,[.bool])])),(28, .d (.one true dpk1)),(30, .c (.tup []))],[],[]⟩ (lw nf Tryz.f141)
theorem low141:lw nf Tryz.f141=some (eC d141):=by kernel_rfl
def R141 (p1 o1:Nat) (h:PHeap) (Q:Value->PHeap->Prop):Prop:=
 tp 43 [vP p1 o1,vI 1] h fun v_1 h_1=>
 ∃ c1,v_1=vB c1/\
 br c1
 (tp 173 [vP p1 o1] h_1 fun v_2 h_2=>
 ∃ i1 l1 a1 n1 dpk1 a2 n2 dpk2 a3 n3 dpk3 i2 i3,v_2=vA [vI i1,vS l1,vL a1 n1 dpk1,vL a2 n2 dpk2,vL a3 n3 dpk3,vI i2,vI i3]/\
 Q (vA [vI i1,vS l1,vL a1 n1 dpk1,vL a2 n2 dpk2,vL a3 n3 dpk3,vI i2,vI i3]) h_2)
 (tp 43 [vP p1 o1,vI 4] h_1 fun v_3 h_3=>
 ∃ c2,v_3=vB c2/\
 br c2
 (∃ m1,h_3.cell p1 (o1+2)=some (vM m1)/\
 ∃ a4 n4 dpk4,h_3.cell p1 o1=some (vL a4 n4 dpk4)/\
 slt a4 (0:Int) n4 fun b1 o2=>
 ∃ l2,h_3.cell b1 (o2+1)=some (vS l2)/\
 rq [(15,vM m1),(22,vS l2)] o141_0 235 h_3 fun v_4 h_4=>
 ∃ u1 c3,v_4=vT [u1,vB c3]/\
 (h_4.cell p1 o1=some (vL a4 n4 dpk4))/\
 br c3
 (∃ f1 x1 y1,u1=vF f1 x1 y1/\
 tp f1 (x1++[]++y1) h_4 fun v_5 h_5=>
 ∃ i4 l3 a5 n5 dpk5 a6 n6 k6 a7 n7 k7 i5 i6,v_5=vA [vI i4,vS l3,vL a5 n5 dpk5,vL a6 n6 k6,vL a7 n7 k7,vI i5,vI i6]/\
 Q (vA [vI i4,vS l3,vL a5 n5 dpk5,vL a6 n6 k6,vL a7 n7 k7,vI i5,vI i6]) h_5)
 (tp 47 [vP p1 o1,vI 30] h_4 fun v_6 h_6=>
 v_6=vT []/\
 Q (vA [vI 0,vS [],vL none 0 0,vL none 0 0,vL none 0 0,vI 0,vI 0]) h_6))
 (tp 47 [vP p1 o1,vI 30] h_3 fun v_7 h_7=>
 v_7=vT []/\
 Q (vA [vI 0,vS [],vL none 0 0,vL none 0 0,vL none 0 0,vI 0,vI 0]) h_7))
theorem T141 {p1 o1 h Q} (hR:R141 p1 o1 h Q):Tri Tryz.prog 141 [vP p1 o1] h Q:=
 tri_of_dn mixed Tryz.func141 rfl (by kernel_rfl) low141 (rs:=[.cell 2 true 7]) (by kernel_rfl) rfl (Eq.mpr (by kernel_rfl) hR)
def d172:DCode:=up ⟨[(7, .c (.one false [.bool])),(10, .c (.one true dpk3)),(12, .c (.one true dpk2)),(14, .l [.str]),(16, .c (.one true dpk3)),(19, .l [qi]),(21, .l [qi])],[],[]⟩ (lw nf Tryz.f172)
theorem low172:lw nf Tryz.f172=some (eC d172):=by kernel_rfl
def R172 (p1 o1:Nat) (h:PHeap) (Q:Value->PHeap->Prop):Prop:=
 alc h [vS [45],vS [33],vS [126]] 9 fun b1 h_1=>
 tp 191 [vL (ad b1 0) 3 3,vF 44 [vP p1 o1] []] h_1 fun v_1 h_2=>
 ∃ c1,v_1=vB c1/\
 br (!c1)
 (tp 192 [vP p1 o1] h_2 fun v_2 h_3=>
 ∃ i1 l1 l2 i2 l3 a1 n1 dpk1 i3 i4,v_2=vA [vI i1,vS l1,vS l2,vI i2,vS l3,vL a1 n1 dpk1,vI i3,vI i4]/\
 Q (vA [vI i1,vS l1,vS l2,vI i2,vS l3,vL a1 n1 dpk1,vI i3,vI i4]) h_3)
 (tp 139 [vP p1 o1] h_2 fun v_3 h_4=>
 ∃ i5 l4 i6 l5 i7 i8,v_3=vA [vI i5,vS l4,vI i6,vS l5,vI i7,vI i8]/\
 tp 172 [vP p1 o1] h_4 fun v_4 h_5=>
 ∃ i9 l6 l7 i10 l8 a2 n2 dpk2 i11 i12,v_4=vA [vI i9,vS l6,vS l7,vI i10,vS l8,vL a2 n2 dpk2,vI i11,vI i12]/\
 (tv [vI i8])/\
 (tv [vI i7])/\
 (tv [vS l4])/\
 alc h_5 [vI i9,vS l6,vS l7,vI i10,vS l8,vL a2 n2 dpk2,vI i11,vI i12] 48 fun b2 h_6=>
 (tv [vI i8])/\
 (tv [vI i7])/\
 (tv [vS l4])/\
 Q (vA [vI 6,vS l4,vS [],vI 0,vS [],vL (ad b2 0) 1 1,vI i7,vI i8]) h_6)
theorem T172 {p1 o1 h Q} (hR:R172 p1 o1 h Q):Tri Tryz.prog 172 [vP p1 o1] h Q:=
 tri_of_dn mixed Tryz.func172 rfl (by kernel_rfl) low172 (rs:=[.cell 2 true 8]) (by kernel_rfl) rfl (Eq.mpr (by kernel_rfl) hR)
def d173:DCode:=up ⟨[(9, .l [.slice]),(11, .l dpk2),(13, .c (.one true dpk1)),(22, .c (.one false [.bool])),(24, .l [.str]),(27, .c (.one true dpk3)),(32, .c (.one false [.bool])),(34, .l [.str]),(38, .c (.one true dpk3)),(40, .c (.tup [])),(42, .c (.tup [])),(43, .l dpk3),(45, .c (.one true dpk3)),(16, .l dpk2),(17, .c (.one true dpk3)),(49, .c (.tup [])),(50, .l dpk1)],[],[]⟩ (lw nf Tryz.f173)
theorem low173:lw nf Tryz.f173=some (eC d173):=by kernel_rfl
def R173 (p1 o1:Nat) (h:PHeap) (Q:Value->PHeap->Prop):Prop:=
 ∃ a1 n1 dpk1,h.cell p1 o1=some (vL a1 n1 dpk1)/\
 slt a1 (0:Int) n1 fun b1 o2=>
 ∃ i1 l1 i2 l2 i3 i4,h.row b1 o2 [vI i1,vS l1,vI i2,vS l2,vI i3,vI i4]/\
 tp 88 [vP p1 o1,vI 2] h fun v_1 h_1=>
 ∃ i5 l3 a2 n2 dpk2 a3 n3 dpk3 a4 n4 dpk4 i6 i7,v_1=vA [vI i5,vS l3,vL a2 n2 dpk2,vL a3 n3 dpk3,vL a4 n4 dpk4,vI i6,vI i7]/\
 tp 90 [vP p1 o1,vS [61]] h_1 fun v_2 h_2=>
 ∃ c1,v_2=vB c1/\
 br c1
 (tp 91 [vP p1 o1] h_2 fun v_3 h_3=>
 ∃ i8 l4 l5 i9 l6 a5 n5 dpk5 i10 i11,v_3=vA [vI i8,vS l4,vS l5,vI i9,vS l6,vL a5 n5 dpk5,vI i10,vI i11]/\
 alc h_3 [vI i8,vS l4,vS l5,vI i9,vS l6,vL a5 n5 dpk5,vI i10,vI i11] 48 fun b2 h_4=>
 tp 92 [vP p1 o1,vS [59]] h_4 fun v_4 h_5=>
 v_4=vT []/\
 Q (vA [vI i5,vS l1,vL (ad b2 0) 1 1,vL a3 n3 dpk3,vL a4 n4 dpk4,vI i6,vI i7]) h_5)
 (tp 90 [vP p1 o1,vS [91]] h_2 fun v_5 h_6=>
 ∃ c2,v_5=vB c2/\
 br c2
 ((tv [vS l1])/\
 tp 91 [vP p1 o1] h_6 fun v_6 h_7=>
 ∃ i12 l7 l8 i13 l9 a6 n6 k6 i14 i15,v_6=vA [vI i12,vS l7,vS l8,vI i13,vS l9,vL a6 n6 k6,vI i14,vI i15]/\
 tp 92 [vP p1 o1,vS [93]] h_7 fun v_7 h_8=>
 v_7=vT []/\
 tp 92 [vP p1 o1,vS [61]] h_8 fun v_8 h_9=>
 v_8=vT []/\
 tp 91 [vP p1 o1] h_9 fun v_9 h_10=>
 ∃ i16 l10 l11 i17 l12 a7 n7 k7 i18 i19,v_9=vA [vI i16,vS l10,vS l11,vI i17,vS l12,vL a7 n7 k7,vI i18,vI i19]/\
 (tv [vI i12,vS l7,vS l8,vI i13,vS l9,vL a6 n6 k6,vI i14,vI i15])/\
 alc h_10 [vI i12,vS l7,vS l8,vI i13,vS l9,vL a6 n6 k6,vI i14,vI i15,vI i16,vS l10,vS l11,vI i17,vS l12,vL a7 n7 k7,vI i18,vI i19] 48 fun b3 h_11=>
 tp 92 [vP p1 o1,vS [59]] h_11 fun v_10 h_12=>
 v_10=vT []/\
 Q (vA [vI 3,vS l1,vL (ad b3 0) 2 2,vL a3 n3 dpk3,vL a4 n4 dpk4,vI i6,vI i7]) h_12)
 (tp 193 [vP p1 o1,vA [vI i1,vS l1,vI i2,vS l2,vI i3,vI i4]] h_6 fun v_11 h_13=>
 ∃ i20 l13 l14 i21 l15 a8 n8 k8 i22 i23,v_11=vA [vI i20,vS l13,vS l14,vI i21,vS l15,vL a8 n8 k8,vI i22,vI i23]/\
 alc h_13 [vI i20,vS l13,vS l14,vI i21,vS l15,vL a8 n8 k8,vI i22,vI i23] 48 fun b4 h_14=>
 tp 92 [vP p1 o1,vS [59]] h_14 fun v_12 h_15=>
 v_12=vT []/\
 Q (vA [vI 4,vS l3,vL (ad b4 0) 1 1,vL a3 n3 dpk3,vL a4 n4 dpk4,vI i6,vI i7]) h_15))
theorem T173 {p1 o1 h Q} (hR:R173 p1 o1 h Q):Tri Tryz.prog 173 [vP p1 o1] h Q:=
 tri_of_dn mixed Tryz.func173 rfl (by kernel_rfl) low173 (rs:=[.cell 2 true 7]) (by kernel_rfl) rfl (Eq.mpr (by kernel_rfl) hR)
def d192:DCode:=up ⟨[(8, .c (.one false [.bool])),(10, .c (.one true dpk2)),(12, .l [qi]),(14, .l [qi]),(16, .l [qi]),(20, .c (.one false [.bool])),(22, .c (.one true dpk2)),(24, .l [.str]),(26, .l [qi]),(28, .l [qi]),(32, .c (.one false [.bool])),(34, .c (.one true dpk3)),(36, .c (.tup [])),(40, .l [qi]),(44, .c (.one true dpk3)),(46, .c (.tup [])),(47, .l dpk3)],[],[]⟩ (lw nf Tryz.f192)
theorem low192:lw nf Tryz.f192=some (eC d192):=by kernel_rfl
def R192 (p1 o1:Nat) (h:PHeap) (Q:Value->PHeap->Prop):Prop:=
 tp 43 [vP p1 o1,vI 2] h fun v_1 h_1=>
 ∃ c1,v_1=vB c1/\
 br c1
 (tp 139 [vP p1 o1] h_1 fun v_2 h_2=>
 ∃ i1 l1 i2 l2 i3 i4,v_2=vA [vI i1,vS l1,vI i2,vS l2,vI i3,vI i4]/\
 Q (vA [vI 1,vS [],vS [],vI i2,vS [],vL none 0 0,vI i3,vI i4]) h_2)
 (tp 43 [vP p1 o1,vI 3] h_1 fun v_3 h_3=>
 ∃ c2,v_3=vB c2/\
 br c2
 (tp 139 [vP p1 o1] h_3 fun v_4 h_4=>
 ∃ i5 l3 i6 l4 i7 i8,v_4=vA [vI i5,vS l3,vI i6,vS l4,vI i7,vI i8]/\
 Q (vA [vI 2,vS [],vS [],vI 0,vS l4,vL none 0 0,vI i7,vI i8]) h_4)
 (tp 43 [vP p1 o1,vI 1] h_3 fun v_5 h_5=>
 ∃ c3,v_5=vB c3/\
 br c3
 (tp 202 [vP p1 o1] h_5 fun v_6 h_6=>
 ∃ i9 l5 l6 i10 l7 a1 n1 dpk1 i11 i12,v_6=vA [vI i9,vS l5,vS l6,vI i10,vS l7,vL a1 n1 dpk1,vI i11,vI i12]/\
 Q (vA [vI i9,vS l5,vS l6,vI i10,vS l7,vL a1 n1 dpk1,vI i11,vI i12]) h_6)
 (tp 92 [vP p1 o1,vS [40]] h_5 fun v_7 h_7=>
 v_7=vT []/\
 ∃ i13,h_7.cell p1 (o1+5)=some (vI i13)/\
 br (i13 != 0)
 (Q (vA [vI 0,vS [],vS [],vI 0,vS [],vL none 0 0,vI 0,vI 0]) h_7)
 (tp 91 [vP p1 o1] h_7 fun v_8 h_8=>
 ∃ i14 l8 l9 i15 l10 a2 n2 dpk2 i16 i17,v_8=vA [vI i14,vS l8,vS l9,vI i15,vS l10,vL a2 n2 dpk2,vI i16,vI i17]/\
 tp 92 [vP p1 o1,vS [41]] h_8 fun v_9 h_9=>
 v_9=vT []/\
 Q (vA [vI i14,vS l8,vS l9,vI i15,vS l10,vL a2 n2 dpk2,vI i16,vI i17]) h_9))))
theorem T192 {p1 o1 h Q} (hR:R192 p1 o1 h Q):Tri Tryz.prog 192 [vP p1 o1] h Q:=
 tri_of_dn mixed Tryz.func192 rfl (by kernel_rfl) low192 (rs:=[.cell 2 true 8]) (by kernel_rfl) rfl (Eq.mpr (by kernel_rfl) hR)
abbrev o193_2:Op:= .call { callee:=(.builtin .append),args:=#[(.tmp 26),(.tmp 29)],argTypes:=#[46,46] }
abbrev o193_3:Op:= .call { callee:=(.builtin .append),args:=#[(.tmp 35),(.tmp 38)],argTypes:=#[46,46] }
def d193:DCode:=up ⟨[(7, .l [.str]),(9, .l [qi]),(11, .l [qi]),(14, .c (.tup [])),(18, .l [qi]),(22, .c (.one false [.bool])),(26, .l [.slice]),(28, .c (.one true dpk3)),(30, .c (.one false [.slice])),(33, .c (.one false [.bool])),(35, .l [.slice]),(37, .c (.one true dpk3)),(39, .c (.one false [.slice])),(42, .c (.tup [])),(43, .l dpk3)],[],[(32,9,[],[(5,dpk3)])]⟩ (lw nf Tryz.f193)
theorem low193:lw nf Tryz.f193=some (eC d193):=by kernel_rfl
def R193 (p1 o1:Nat) (i1:Int) (l1:Bs) (i2:Int) (l2:Bs) (i3 i4:Int) (h:PHeap) (Q:Value->PHeap->Prop):Prop:=
 tp 92 [vP p1 o1,vS [40]] h fun v_1 h_1=>
 v_1=vT []/\
 ∃ i5,h_1.cell p1 (o1+5)=some (vI i5)/\
 br (i5 == 0)
 (tp 44 [vP p1 o1,vS [41]] h_1 fun v_2 h_2=>
 ∃ c1,v_2=vB c1/\
 br (!c1)
 (tp 91 [vP p1 o1] h_2 fun v_3 h_3=>
 ∃ i6 l3 l4 i7 l5 a1 n1 dpk1 i8 i9,v_3=vA [vI i6,vS l3,vS l4,vI i7,vS l5,vL a1 n1 dpk1,vI i8,vI i9]/\
 (tv [vL none 0 0])/\
 alc h_3 [vI i6,vS l3,vS l4,vI i7,vS l5,vL a1 n1 dpk1,vI i8,vI i9] 48 fun b1 h_4=>
 (tv [vL none 0 0])/\
 rq [(26,vL none 0 0),(29,vL (ad b1 0) 1 1)] o193_2 46 h_4 fun v_4 h_5=>
 ∃ a2 n2 dpk2,v_4=vL a2 n2 dpk2/\
 ∃ (I_1:Nat->Int->Bs->Bs->Int->Bs->OA->Nat->Nat->Int->Int->PHeap->Prop),(∃ m2,I_1 m2 (5:Int) [] l1 (0:Int) [] a2 n2 dpk2 i3 i4 h_5)/\
 ∀ m1 i10 l6 l7 i11 l8 a3 n3 dpk3 i12 i13 h_6,I_1 m1 i10 l6 l7 i11 l8 a3 n3 dpk3 i12 i13 h_6->
 tp 90 [vP p1 o1,vS [44]] h_6 fun v_5 h_7=>
 ∃ c2,v_5=vB c2/\
 br c2
 (tp 91 [vP p1 o1] h_7 fun v_6 h_8=>
 ∃ i14 l9 l10 i15 l11 a4 n4 dpk4 i16 i17,v_6=vA [vI i14,vS l9,vS l10,vI i15,vS l11,vL a4 n4 dpk4,vI i16,vI i17]/\
 (tv [vL a3 n3 dpk3])/\
 alc h_8 [vI i14,vS l9,vS l10,vI i15,vS l11,vL a4 n4 dpk4,vI i16,vI i17] 48 fun b2 h_9=>
 (tv [vL a3 n3 dpk3])/\
 rq [(35,vL a3 n3 dpk3),(38,vL (ad b2 0) 1 1)] o193_3 46 h_9 fun v_7 h_10=>
 ∃ a5 n5 dpk5,v_7=vL a5 n5 dpk5/\
 ∃ m3,m3 < m1/\I_1 m3 i10 l6 l7 i11 l8 a5 n5 dpk5 i12 i13 h_10/\
 tv [vI 0,vS [],vS [],vI 0,vS [],vL none 0 0,vI 0,vI 0]/\tv [vI i1,vS l1,vI i2,vS l2,vI i3,vI i4]/\True)
 (tp 92 [vP p1 o1,vS [41]] h_7 fun v_8 h_11=>
 v_8=vT []/\
 Q (vA [vI i10,vS l6,vS l7,vI i11,vS l8,vL a3 n3 dpk3,vI i12,vI i13]) h_11))
 (tp 92 [vP p1 o1,vS [41]] h_2 fun v_9 h_12=>
 v_9=vT []/\
 Q (vA [vI 5,vS [],vS l1,vI 0,vS [],vL none 0 0,vI i3,vI i4]) h_12))
 (tp 92 [vP p1 o1,vS [41]] h_1 fun v_10 h_13=>
 v_10=vT []/\
 Q (vA [vI 5,vS [],vS l1,vI 0,vS [],vL none 0 0,vI i3,vI i4]) h_13)
theorem T193 {p1 o1 i1 l1 i2 l2 i3 i4 h Q} (hR:R193 p1 o1 i1 l1 i2 l2 i3 i4 h Q):Tri Tryz.prog 193 [vP p1 o1,vA [vI i1,vS l1,vI i2,vS l2,vI i3,vI i4]] h Q:=
 tri_of_dn mixed Tryz.func193 rfl (by kernel_rfl) low193 (rs:=[.cell 4 true 8]) (by kernel_rfl) rfl (Eq.mpr (by kernel_rfl) hR)
def d202:DCode:=up ⟨[(6, .c (.one true dpk2)),(8, .c (.one false [.bool])),(10, .l dpk2),(11, .c (.one true dpk3)),(13, .l [.str]),(15, .l [qi]),(17, .l [qi]),(20, .c (.one false [.bool])),(22, .c (.tup [])),(25, .c (.one true dpk3)),(29, .c (.tup [])),(30, .l dpk3)],[],[]⟩ (lw nf Tryz.f202)
theorem low202:lw nf Tryz.f202=some (eC d202):=by kernel_rfl
def R202 (p1 o1:Nat) (h:PHeap) (Q:Value->PHeap->Prop):Prop:=
 tp 139 [vP p1 o1] h fun v_1 h_1=>
 ∃ i1 l1 i2 l2 i3 i4,v_1=vA [vI i1,vS l1,vI i2,vS l2,vI i3,vI i4]/\
 tp 44 [vP p1 o1,vS [40]] h_1 fun v_2 h_2=>
 ∃ c1,v_2=vB c1/\
 br c1
 (tp 193 [vP p1 o1,vA [vI i1,vS l1,vI i2,vS l2,vI i3,vI i4]] h_2 fun v_3 h_3=>
 ∃ i5 l3 l4 i6 l5 a1 n1 dpk1 i7 i8,v_3=vA [vI i5,vS l3,vS l4,vI i6,vS l5,vL a1 n1 dpk1,vI i7,vI i8]/\
 Q (vA [vI i5,vS l3,vS l4,vI i6,vS l5,vL a1 n1 dpk1,vI i7,vI i8]) h_3)
 (tp 44 [vP p1 o1,vS [91]] h_2 fun v_4 h_4=>
 ∃ c2,v_4=vB c2/\
 br c2
 (tp 92 [vP p1 o1,vS [91]] h_4 fun v_5 h_5=>
 v_5=vT []/\
 tp 91 [vP p1 o1] h_5 fun v_6 h_6=>
 ∃ i9 l6 l7 i10 l8 a2 n2 dpk2 i11 i12,v_6=vA [vI i9,vS l6,vS l7,vI i10,vS l8,vL a2 n2 dpk2,vI i11,vI i12]/\
 alc h_6 [vI i9,vS l6,vS l7,vI i10,vS l8,vL a2 n2 dpk2,vI i11,vI i12] 48 fun b1 h_7=>
 tp 92 [vP p1 o1,vS [93]] h_7 fun v_7 h_8=>
 v_7=vT []/\
 Q (vA [vI 4,vS [],vS l1,vI 0,vS [],vL (ad b1 0) 1 1,vI i3,vI i4]) h_8)
 (Q (vA [vI 3,vS [],vS l1,vI 0,vS [],vL none 0 0,vI i3,vI i4]) h_4))
theorem T202 {p1 o1 h Q} (hR:R202 p1 o1 h Q):Tri Tryz.prog 202 [vP p1 o1] h Q:=
 tri_of_dn mixed Tryz.func202 rfl (by kernel_rfl) low202 (rs:=[.cell 2 true 8]) (by kernel_rfl) rfl (Eq.mpr (by kernel_rfl) hR)
end
end Go.Proofs.D
namespace Go.Proofs.L
open Go Go.Den
set_option maxRecDepth 100000
set_option maxHeartbeats 4000000
theorem mixed:Tryz.prog.follows .mixedOrders=true:=by kernel_rfl
noncomputable def s102:{sc:SCode // low Tryz.prog (fun _=>false) (Tryz.f102.body.getD .skip)=some sc}:=⟨_,rfl⟩
noncomputable def r102:{rs:List SRes // lowRes Tryz.prog Tryz.f102.results.toList=some rs}:=⟨_,rfl⟩
theorem t102 {args:List Value} {h:PHeap} {Q:Value->PHeap->Prop} (hn:Nat.ble args.length Tryz.f102.ntmps=true) (hd:denF Tryz.prog Tryz.f102.ntmps s102.1 r102.1 args h Q):Tri Tryz.prog 102 args h Q:=
 tri_of_den mixed Tryz.func102 rfl (by kernel_rfl) s102.2 r102.2 hn hd
noncomputable def s131:{sc:SCode // low Tryz.prog (fun _=>false) (Tryz.f131.body.getD .skip)=some sc}:=⟨_,rfl⟩
noncomputable def r131:{rs:List SRes // lowRes Tryz.prog Tryz.f131.results.toList=some rs}:=⟨_,rfl⟩
theorem t131 {args:List Value} {h:PHeap} {Q:Value->PHeap->Prop} (hn:Nat.ble args.length Tryz.f131.ntmps=true) (hd:denF Tryz.prog Tryz.f131.ntmps s131.1 r131.1 args h Q):Tri Tryz.prog 131 args h Q:=
 tri_of_den mixed Tryz.func131 rfl (by kernel_rfl) s131.2 r131.2 hn hd
noncomputable def s132:{sc:SCode // low Tryz.prog (fun _=>false) (Tryz.f132.body.getD .skip)=some sc}:=⟨_,rfl⟩
noncomputable def r132:{rs:List SRes // lowRes Tryz.prog Tryz.f132.results.toList=some rs}:=⟨_,rfl⟩
theorem t132 {args:List Value} {h:PHeap} {Q:Value->PHeap->Prop} (hn:Nat.ble args.length Tryz.f132.ntmps=true) (hd:denF Tryz.prog Tryz.f132.ntmps s132.1 r132.1 args h Q):Tri Tryz.prog 132 args h Q:=
 tri_of_den mixed Tryz.func132 rfl (by kernel_rfl) s132.2 r132.2 hn hd
noncomputable def s133:{sc:SCode // low Tryz.prog (fun _=>false) (Tryz.f133.body.getD .skip)=some sc}:=⟨_,rfl⟩
noncomputable def r133:{rs:List SRes // lowRes Tryz.prog Tryz.f133.results.toList=some rs}:=⟨_,rfl⟩
theorem t133 {args:List Value} {h:PHeap} {Q:Value->PHeap->Prop} (hn:Nat.ble args.length Tryz.f133.ntmps=true) (hd:denF Tryz.prog Tryz.f133.ntmps s133.1 r133.1 args h Q):Tri Tryz.prog 133 args h Q:=
 tri_of_den mixed Tryz.func133 rfl (by kernel_rfl) s133.2 r133.2 hn hd
noncomputable def s134:{sc:SCode // low Tryz.prog (fun _=>false) (Tryz.f134.body.getD .skip)=some sc}:=⟨_,rfl⟩
noncomputable def r134:{rs:List SRes // lowRes Tryz.prog Tryz.f134.results.toList=some rs}:=⟨_,rfl⟩
theorem t134 {args:List Value} {h:PHeap} {Q:Value->PHeap->Prop} (hn:Nat.ble args.length Tryz.f134.ntmps=true) (hd:denF Tryz.prog Tryz.f134.ntmps s134.1 r134.1 args h Q):Tri Tryz.prog 134 args h Q:=
 tri_of_den mixed Tryz.func134 rfl (by kernel_rfl) s134.2 r134.2 hn hd
noncomputable def s135:{sc:SCode // low Tryz.prog (fun _=>false) (Tryz.f135.body.getD .skip)=some sc}:=⟨_,rfl⟩
noncomputable def r135:{rs:List SRes // lowRes Tryz.prog Tryz.f135.results.toList=some rs}:=⟨_,rfl⟩
theorem t135 {args:List Value} {h:PHeap} {Q:Value->PHeap->Prop} (hn:Nat.ble args.length Tryz.f135.ntmps=true) (hd:denF Tryz.prog Tryz.f135.ntmps s135.1 r135.1 args h Q):Tri Tryz.prog 135 args h Q:=
 tri_of_den mixed Tryz.func135 rfl (by kernel_rfl) s135.2 r135.2 hn hd
noncomputable def s136:{sc:SCode // low Tryz.prog (fun _=>false) (Tryz.f136.body.getD .skip)=some sc}:=⟨_,rfl⟩
noncomputable def r136:{rs:List SRes // lowRes Tryz.prog Tryz.f136.results.toList=some rs}:=⟨_,rfl⟩
theorem t136 {args:List Value} {h:PHeap} {Q:Value->PHeap->Prop} (hn:Nat.ble args.length Tryz.f136.ntmps=true) (hd:denF Tryz.prog Tryz.f136.ntmps s136.1 r136.1 args h Q):Tri Tryz.prog 136 args h Q:=
 tri_of_den mixed Tryz.func136 rfl (by kernel_rfl) s136.2 r136.2 hn hd
noncomputable def s137:{sc:SCode // low Tryz.prog (fun _=>false) (Tryz.f137.body.getD .skip)=some sc}:=⟨_,rfl⟩
noncomputable def r137:{rs:List SRes // lowRes Tryz.prog Tryz.f137.results.toList=some rs}:=⟨_,rfl⟩
theorem t137 {args:List Value} {h:PHeap} {Q:Value->PHeap->Prop} (hn:Nat.ble args.length Tryz.f137.ntmps=true) (hd:denF Tryz.prog Tryz.f137.ntmps s137.1 r137.1 args h Q):Tri Tryz.prog 137 args h Q:=
 tri_of_den mixed Tryz.func137 rfl (by kernel_rfl) s137.2 r137.2 hn hd
noncomputable def s138:{sc:SCode // low Tryz.prog (fun _=>false) (Tryz.f138.body.getD .skip)=some sc}:=⟨_,rfl⟩
noncomputable def r138:{rs:List SRes // lowRes Tryz.prog Tryz.f138.results.toList=some rs}:=⟨_,rfl⟩
theorem t138 {args:List Value} {h:PHeap} {Q:Value->PHeap->Prop} (hn:Nat.ble args.length Tryz.f138.ntmps=true) (hd:denF Tryz.prog Tryz.f138.ntmps s138.1 r138.1 args h Q):Tri Tryz.prog 138 args h Q:=
 tri_of_den mixed Tryz.func138 rfl (by kernel_rfl) s138.2 r138.2 hn hd
noncomputable def s149:{sc:SCode // low Tryz.prog (fun _=>false) (Tryz.f149.body.getD .skip)=some sc}:=⟨_,rfl⟩
noncomputable def r149:{rs:List SRes // lowRes Tryz.prog Tryz.f149.results.toList=some rs}:=⟨_,rfl⟩
theorem t149 {args:List Value} {h:PHeap} {Q:Value->PHeap->Prop} (hn:Nat.ble args.length Tryz.f149.ntmps=true) (hd:denF Tryz.prog Tryz.f149.ntmps s149.1 r149.1 args h Q):Tri Tryz.prog 149 args h Q:=
 tri_of_den mixed Tryz.func149 rfl (by kernel_rfl) s149.2 r149.2 hn hd
noncomputable def s164:{sc:SCode // low Tryz.prog (fun _=>false) (Tryz.f164.body.getD .skip)=some sc}:=⟨_,rfl⟩
noncomputable def r164:{rs:List SRes // lowRes Tryz.prog Tryz.f164.results.toList=some rs}:=⟨_,rfl⟩
theorem t164 {args:List Value} {h:PHeap} {Q:Value->PHeap->Prop} (hn:Nat.ble args.length Tryz.f164.ntmps=true) (hd:denF Tryz.prog Tryz.f164.ntmps s164.1 r164.1 args h Q):Tri Tryz.prog 164 args h Q:=
 tri_of_den mixed Tryz.func164 rfl (by kernel_rfl) s164.2 r164.2 hn hd
noncomputable def s165:{sc:SCode // low Tryz.prog (fun _=>false) (Tryz.f165.body.getD .skip)=some sc}:=⟨_,rfl⟩
noncomputable def r165:{rs:List SRes // lowRes Tryz.prog Tryz.f165.results.toList=some rs}:=⟨_,rfl⟩
theorem t165 {args:List Value} {h:PHeap} {Q:Value->PHeap->Prop} (hn:Nat.ble args.length Tryz.f165.ntmps=true) (hd:denF Tryz.prog Tryz.f165.ntmps s165.1 r165.1 args h Q):Tri Tryz.prog 165 args h Q:=
 tri_of_den mixed Tryz.func165 rfl (by kernel_rfl) s165.2 r165.2 hn hd
noncomputable def s166:{sc:SCode // low Tryz.prog (fun _=>false) (Tryz.f166.body.getD .skip)=some sc}:=⟨_,rfl⟩
noncomputable def r166:{rs:List SRes // lowRes Tryz.prog Tryz.f166.results.toList=some rs}:=⟨_,rfl⟩
theorem t166 {args:List Value} {h:PHeap} {Q:Value->PHeap->Prop} (hn:Nat.ble args.length Tryz.f166.ntmps=true) (hd:denF Tryz.prog Tryz.f166.ntmps s166.1 r166.1 args h Q):Tri Tryz.prog 166 args h Q:=
 tri_of_den mixed Tryz.func166 rfl (by kernel_rfl) s166.2 r166.2 hn hd
noncomputable def s167:{sc:SCode // low Tryz.prog (fun _=>false) (Tryz.f167.body.getD .skip)=some sc}:=⟨_,rfl⟩
noncomputable def r167:{rs:List SRes // lowRes Tryz.prog Tryz.f167.results.toList=some rs}:=⟨_,rfl⟩
theorem t167 {args:List Value} {h:PHeap} {Q:Value->PHeap->Prop} (hn:Nat.ble args.length Tryz.f167.ntmps=true) (hd:denF Tryz.prog Tryz.f167.ntmps s167.1 r167.1 args h Q):Tri Tryz.prog 167 args h Q:=
 tri_of_den mixed Tryz.func167 rfl (by kernel_rfl) s167.2 r167.2 hn hd
noncomputable def s168:{sc:SCode // low Tryz.prog (fun _=>false) (Tryz.f168.body.getD .skip)=some sc}:=⟨_,rfl⟩
noncomputable def r168:{rs:List SRes // lowRes Tryz.prog Tryz.f168.results.toList=some rs}:=⟨_,rfl⟩
theorem t168 {args:List Value} {h:PHeap} {Q:Value->PHeap->Prop} (hn:Nat.ble args.length Tryz.f168.ntmps=true) (hd:denF Tryz.prog Tryz.f168.ntmps s168.1 r168.1 args h Q):Tri Tryz.prog 168 args h Q:=
 tri_of_den mixed Tryz.func168 rfl (by kernel_rfl) s168.2 r168.2 hn hd
noncomputable def s169:{sc:SCode // low Tryz.prog (fun _=>false) (Tryz.f169.body.getD .skip)=some sc}:=⟨_,rfl⟩
noncomputable def r169:{rs:List SRes // lowRes Tryz.prog Tryz.f169.results.toList=some rs}:=⟨_,rfl⟩
theorem t169 {args:List Value} {h:PHeap} {Q:Value->PHeap->Prop} (hn:Nat.ble args.length Tryz.f169.ntmps=true) (hd:denF Tryz.prog Tryz.f169.ntmps s169.1 r169.1 args h Q):Tri Tryz.prog 169 args h Q:=
 tri_of_den mixed Tryz.func169 rfl (by kernel_rfl) s169.2 r169.2 hn hd
noncomputable def s170:{sc:SCode // low Tryz.prog (fun _=>false) (Tryz.f170.body.getD .skip)=some sc}:=⟨_,rfl⟩
noncomputable def r170:{rs:List SRes // lowRes Tryz.prog Tryz.f170.results.toList=some rs}:=⟨_,rfl⟩
theorem t170 {args:List Value} {h:PHeap} {Q:Value->PHeap->Prop} (hn:Nat.ble args.length Tryz.f170.ntmps=true) (hd:denF Tryz.prog Tryz.f170.ntmps s170.1 r170.1 args h Q):Tri Tryz.prog 170 args h Q:=
 tri_of_den mixed Tryz.func170 rfl (by kernel_rfl) s170.2 r170.2 hn hd
noncomputable def s171:{sc:SCode // low Tryz.prog (fun _=>false) (Tryz.f171.body.getD .skip)=some sc}:=⟨_,rfl⟩
noncomputable def r171:{rs:List SRes // lowRes Tryz.prog Tryz.f171.results.toList=some rs}:=⟨_,rfl⟩
theorem t171 {args:List Value} {h:PHeap} {Q:Value->PHeap->Prop} (hn:Nat.ble args.length Tryz.f171.ntmps=true) (hd:denF Tryz.prog Tryz.f171.ntmps s171.1 r171.1 args h Q):Tri Tryz.prog 171 args h Q:=
 tri_of_den mixed Tryz.func171 rfl (by kernel_rfl) s171.2 r171.2 hn hd
noncomputable def s187:{sc:SCode // low Tryz.prog (fun _=>false) (Tryz.f187.body.getD .skip)=some sc}:=⟨_,rfl⟩
noncomputable def r187:{rs:List SRes // lowRes Tryz.prog Tryz.f187.results.toList=some rs}:=⟨_,rfl⟩
theorem t187 {args:List Value} {h:PHeap} {Q:Value->PHeap->Prop} (hn:Nat.ble args.length Tryz.f187.ntmps=true) (hd:denF Tryz.prog Tryz.f187.ntmps s187.1 r187.1 args h Q):Tri Tryz.prog 187 args h Q:=
 tri_of_den mixed Tryz.func187 rfl (by kernel_rfl) s187.2 r187.2 hn hd
noncomputable def s188:{sc:SCode // low Tryz.prog (fun _=>false) (Tryz.f188.body.getD .skip)=some sc}:=⟨_,rfl⟩
noncomputable def r188:{rs:List SRes // lowRes Tryz.prog Tryz.f188.results.toList=some rs}:=⟨_,rfl⟩
theorem t188 {args:List Value} {h:PHeap} {Q:Value->PHeap->Prop} (hn:Nat.ble args.length Tryz.f188.ntmps=true) (hd:denF Tryz.prog Tryz.f188.ntmps s188.1 r188.1 args h Q):Tri Tryz.prog 188 args h Q:=
 tri_of_den mixed Tryz.func188 rfl (by kernel_rfl) s188.2 r188.2 hn hd
noncomputable def s189:{sc:SCode // low Tryz.prog (fun _=>false) (Tryz.f189.body.getD .skip)=some sc}:=⟨_,rfl⟩
noncomputable def r189:{rs:List SRes // lowRes Tryz.prog Tryz.f189.results.toList=some rs}:=⟨_,rfl⟩
theorem t189 {args:List Value} {h:PHeap} {Q:Value->PHeap->Prop} (hn:Nat.ble args.length Tryz.f189.ntmps=true) (hd:denF Tryz.prog Tryz.f189.ntmps s189.1 r189.1 args h Q):Tri Tryz.prog 189 args h Q:=
 tri_of_den mixed Tryz.func189 rfl (by kernel_rfl) s189.2 r189.2 hn hd
noncomputable def s190:{sc:SCode // low Tryz.prog (fun _=>false) (Tryz.f190.body.getD .skip)=some sc}:=⟨_,rfl⟩
noncomputable def r190:{rs:List SRes // lowRes Tryz.prog Tryz.f190.results.toList=some rs}:=⟨_,rfl⟩
theorem t190 {args:List Value} {h:PHeap} {Q:Value->PHeap->Prop} (hn:Nat.ble args.length Tryz.f190.ntmps=true) (hd:denF Tryz.prog Tryz.f190.ntmps s190.1 r190.1 args h Q):Tri Tryz.prog 190 args h Q:=
 tri_of_den mixed Tryz.func190 rfl (by kernel_rfl) s190.2 r190.2 hn hd
noncomputable def s200:{sc:SCode // low Tryz.prog (fun _=>false) (Tryz.f200.body.getD .skip)=some sc}:=⟨_,rfl⟩
noncomputable def r200:{rs:List SRes // lowRes Tryz.prog Tryz.f200.results.toList=some rs}:=⟨_,rfl⟩
theorem t200 {args:List Value} {h:PHeap} {Q:Value->PHeap->Prop} (hn:Nat.ble args.length Tryz.f200.ntmps=true) (hd:denF Tryz.prog Tryz.f200.ntmps s200.1 r200.1 args h Q):Tri Tryz.prog 200 args h Q:=
 tri_of_den mixed Tryz.func200 rfl (by kernel_rfl) s200.2 r200.2 hn hd
end Go.Proofs.L
