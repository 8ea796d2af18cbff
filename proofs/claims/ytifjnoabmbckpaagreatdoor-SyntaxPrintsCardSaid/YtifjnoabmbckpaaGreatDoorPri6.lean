import Derived.Test.YtifjnoabmbckpaaGreatDoorPri5
namespace Go.Proofs.D
open Go Go.Den
noncomputable section
set_option maxRecDepth 100000
set_option maxHeartbeats 4000000
abbrev dtk1:List CK:=[qi, .str,qi, .str,qi,qi,qi,qi,qi]
abbrev dtk2:List CK:=[qi, .str,qi, .str,qi,qi]
abbrev dtk3:List CK:=[.str,qi,qi,qi,qi]
abbrev dtk4:List CK:=[.str, .slice, .slice,qi,qi]
def d86:DCode:=up ⟨[(6, .l [qi]),(10, .l [.str]),(16, .l [.str]),(20, .l [qi]),(29, .l [qi]),(36, .l [qi]),(44, .l [qi]),(59, .l [qi]),(65, .c (.one false [.bool])),(69, .l [qi]),(71, .c (.one false [qi]))],[32,39,46,62,74],[(3,73,[],[])]⟩ (lw nf Tryz.f86)
theorem low86:lw nf Tryz.f86=some (eC d86):=by kernel_rfl
def R86 (p1 o1:Nat) (h:PHeap) (Q:Value->PHeap->Prop):Prop:=
 ∃ (I_1:Nat->PHeap->Prop),(∃ m2,I_1 m2 h)/\
 ∀ m1 h_1,I_1 m1 h_1->
 ∃ i1,h_1.cell p1 (o1+1)=some (vI i1)/\
 ∃ l1,h_1.cell p1 o1=some (vS l1)/\
 br (decide (i1 < (l1.length:Int)))
 (∃ l2,h_1.cell p1 o1=some (vS l2)/\
 ∃ i2,h_1.cell p1 (o1+1)=some (vI i2)/\
 (0<=i2/\i2<=(l2.length:Int)/\(l2.length:Int)<=(l2.length:Int))/\
 0<=(0:Int)/\∃ c1,(((l2.drop (i2).toNat).take ((l2.length:Int).toNat - (i2).toNat)))[0]? =some c1/\
 br ((c1.toNat:Int) == 10)
 (∃ i3,h_1.cell p1 (o1+1)=some (vI i3)/\
 sto h_1 p1 (o1+1) 1 [vI (IntKind.i64.wrap (i3+1))] fun h_2=>
 ∃ i4,h_2.cell p1 (o1+2)=some (vI i4)/\
 sto h_2 p1 (o1+2) 1 [vI (IntKind.i64.wrap (i4+1))] fun h_3=>
 ∃ i5,h_3.cell p1 (o1+1)=some (vI i5)/\
 sto h_3 p1 (o1+3) 1 [vI i5] fun h_4=>
 ∃ m3,m3 < m1/\I_1 m3 h_4/\
 True)
 (0<=(0:Int)/\∃ c2,(((l2.drop (i2).toNat).take ((l2.length:Int).toNat - (i2).toNat)))[0]? =some c2/\
 br ((c2.toNat:Int) == 32)
 (∃ i6,h_1.cell p1 (o1+1)=some (vI i6)/\
 sto h_1 p1 (o1+1) 1 [vI (IntKind.i64.wrap (i6+1))] fun h_5=>
 ∃ m4,m4 < m1/\I_1 m4 h_5/\
 True)
 (0<=(0:Int)/\∃ c3,(((l2.drop (i2).toNat).take ((l2.length:Int).toNat - (i2).toNat)))[0]? =some c3/\
 br ((c3.toNat:Int) == 9)
 (∃ i7,h_1.cell p1 (o1+1)=some (vI i7)/\
 sto h_1 p1 (o1+1) 1 [vI (IntKind.i64.wrap (i7+1))] fun h_6=>
 ∃ m5,m5 < m1/\I_1 m5 h_6/\
 True)
 (tp 131 [vS ((l2.drop (i2).toNat).take ((l2.length:Int).toNat - (i2).toNat)),vS [47,47]] h_1 fun v_1 h_7=>
 ∃ c4,v_1=vB c4/\
 br c4
 (∃ i8,h_7.cell p1 (o1+1)=some (vI i8)/\
 tp 132 [vS ((l2.drop (i2).toNat).take ((l2.length:Int).toNat - (i2).toNat)),vF 133 [] []] h_7 fun v_2 h_8=>
 ∃ i9,v_2=vI i9/\
 (h_8.cell p1 (o1+1)=some (vI i8))/\
 sto h_8 p1 (o1+1) 1 [vI (IntKind.i64.wrap (i8+i9))] fun h_9=>
 ∃ m6,m6 < m1/\I_1 m6 h_9/\
 True)
 (Q (vT []) h_7)))))
 (Q (vT []) h_1)
theorem T86 {p1 o1 h Q} (hR:R86 p1 o1 h Q):Tri Tryz.prog 86 [vP p1 o1] h Q:=
 tri_of_dn mixed Tryz.func86 rfl (by kernel_rfl) low86 (rs:=[]) (by kernel_rfl) rfl (Eq.mpr (by kernel_rfl) hR)
abbrev o35_10:Op:= .call { callee:=(.builtin .append),args:=#[(.tmp 78),(.tmp 81)],argTypes:=#[75,75] }
abbrev o35_14:Op:= .call { callee:=(.builtin .append),args:=#[(.tmp 92),(.tmp 108)],argTypes:=#[75,75] }
def d35:DCode:=up ⟨[(17, .c (.tup [])),(21, .l [qi]),(32, .l [qi]),(34, .c (.tup [(true,dtk1),(false,[.bool])])),(49, .l [qi]),(53, .l [qi]),(57, .l [qi]),(62, .l [qi]),(65, .l [qi]),(68, .l [qi]),(72, .l [qi]),(80, .l dtk2),(82, .c (.one false [.slice])),(86, .l [qi]),(88, .l [qi]),(26, .c (.tup [])),(96, .l [qi]),(100, .l [qi]),(104, .l [qi]),(109, .c (.one false [.slice]))],[91],[(18,81,[(2, .slice)],[])]⟩ (lw (fun d=>Nat.beq d 15) Tryz.f35)
theorem low35:lw (fun d=>Nat.beq d 15) Tryz.f35=some (eC d35):=by kernel_rfl
def R35 (l1:Bs) (h:PHeap) (Q:Value->PHeap->Prop):Prop:=
 br (decide ((l1.length:Int) > 16384))
 (Q (vT [vL none 0 0,vI 1,vI 1,vI 5]) h)
 (alc h [vS l1,vI 0,vI 1,vI 0] 160 fun b1 h_1=>
 tp 86 [vP b1 0] h_1 fun v_1 h_2=>
 v_1=vT []/\
 ∃ (I_1:Nat->OA->Nat->Nat->PHeap->Prop),(∃ m2,I_1 m2 none 0 0 h_2)/\
 ∀ m1 a1 n1 dtk1 h_3,I_1 m1 a1 n1 dtk1 h_3->
 ∃ i1,h_3.cell b1 1=some (vI i1)/\
 br (decide (i1 < (l1.length:Int)))
 (∃ i2,h_3.cell b1 1=some (vI i2)/\
 (0<=i2/\i2<=(l1.length:Int)/\(l1.length:Int)<=(l1.length:Int))/\
 tp 87 [vS ((l1.drop (i2).toNat).take ((l1.length:Int).toNat - (i2).toNat))] h_3 fun v_2 h_4=>
 ∃ i3 l2 i4 l3 i5 i6 i7 i8 i9 c1,v_2=vT [vA [vI i3,vS l2,vI i4,vS l3,vI i5,vI i6,vI i7,vI i8,vI i9],vB c1]/\
 br (decide ((n1:Int)≥4096))
 (∃ i10,h_4.cell b1 1=some (vI i10)/\
 ∃ i11,h_4.cell b1 3=some (vI i11)/\
 ∃ i12,h_4.cell b1 2=some (vI i12)/\
 Q (vT [vL none 0 0,vI i12,vI (IntKind.i64.wrap ((IntKind.i64.wrap ((IntKind.i64.wrap (i10 - i11))+1))+0)),vI 9]) h_4)
 (br (!c1)
 (∃ i13,h_4.cell b1 1=some (vI i13)/\
 ∃ i14,h_4.cell b1 3=some (vI i14)/\
 ∃ i15,h_4.cell b1 2=some (vI i15)/\
 Q (vT [vL none 0 0,vI i15,vI (IntKind.i64.wrap ((IntKind.i64.wrap ((IntKind.i64.wrap (i13 - i14))+1))+0)),vI 6]) h_4)
 (∃ i16,h_4.cell b1 1=some (vI i16)/\
 ∃ i17,h_4.cell b1 3=some (vI i17)/\
 br (i9 != 0)
 (∃ i18,h_4.cell b1 2=some (vI i18)/\
 Q (vT [vL none 0 0,vI i18,vI (IntKind.i64.wrap ((IntKind.i64.wrap ((IntKind.i64.wrap (i16 - i17))+1))+i8)),vI i9]) h_4)
 (∃ i19,h_4.cell b1 2=some (vI i19)/\
 alc h_4 [vI i3,vS l2,vI i4,vS l3,vI i19,vI (IntKind.i64.wrap ((IntKind.i64.wrap (i16 - i17))+1))] 162 fun b2 h_5=>
 rq [(78,vL a1 n1 dtk1),(81,vL (ad b2 0) 1 1)] o35_10 75 h_5 fun v_3 h_6=>
 ∃ a2 n2 dtk2,v_3=vL a2 n2 dtk2/\
 ∃ i20,h_6.cell b1 1=some (vI i20)/\
 sto h_6 b1 1 1 [vI (IntKind.i64.wrap (i20+i7))] fun h_7=>
 tp 86 [vP b1 0] h_7 fun v_4 h_8=>
 v_4=vT []/\
 ∃ m3,m3 < m1/\I_1 m3 a2 n2 dtk2 h_8/\
 True))))
 (∃ i21,h_3.cell b1 2=some (vI i21)/\
 ∃ i22,h_3.cell b1 1=some (vI i22)/\
 ∃ i23,h_3.cell b1 3=some (vI i23)/\
 alc h_3 [vI 0,vS [],vI 0,vS [],vI i21,vI (IntKind.i64.wrap ((IntKind.i64.wrap (i22 - i23))+1))] 162 fun b3 h_9=>
 (h_9.cell b1 3=some (vI i23))/\
 (h_9.cell b1 1=some (vI i22))/\
 (h_9.cell b1 2=some (vI i21))/\
 rq [(92,vL a1 n1 dtk1),(108,vL (ad b3 0) 1 1)] o35_14 75 h_9 fun v_5 h_10=>
 ∃ a3 n3 dtk3,v_5=vL a3 n3 dtk3/\
 (h_10.cell b1 3=some (vI i23))/\
 (h_10.cell b1 1=some (vI i22))/\
 (h_10.cell b1 2=some (vI i21))/\
 Q (vT [vL a3 n3 dtk3,vI 0,vI 0,vI 0]) h_10))
theorem T35 {l1 h Q} (hR:R35 l1 h Q):Tri Tryz.prog 35 [vS l1] h Q:=
 tri_of_dn mixed Tryz.func35 rfl (by kernel_rfl) low35 (rs:=[.tmp 2, .tmp 3, .tmp 4, .tmp 5]) (by kernel_rfl) rfl (Eq.mpr (by kernel_rfl) hR)
abbrev o14_5:Op:= .makeMap 79 none
abbrev o14_6:Op:= .insert 79 (.tmp 25) (.const (vS [118,97,114])) (.tmp 27)
abbrev o14_7:Op:= .insert 79 (.tmp 25) (.const (vS [105,102])) (.tmp 29)
abbrev o14_8:Op:= .insert 79 (.tmp 25) (.const (vS [119,104,105,108,101])) (.tmp 31)
abbrev o14_9:Op:= .insert 79 (.tmp 25) (.const (vS [114,101,116,117,114,110])) (.tmp 33)
abbrev o14_10:Op:= .insert 79 (.tmp 25) (.const (vS [98,114,101,97,107])) (.tmp 34)
abbrev o14_11:Op:= .insert 79 (.tmp 25) (.const (vS [99,111,110,116,105,110,117,101])) (.tmp 35)
abbrev o14_14:Op:= .call { callee:=(.builtin .append),args:=#[(.tmp 55),(.tmp 58)],argTypes:=#[23,23] }
abbrev o14_15:Op:= .call { callee:=(.builtin .append),args:=#[(.tmp 65),(.tmp 68)],argTypes:=#[24,24] }
def d14:DCode:=up ⟨[(10, .c (.tup [(false,[.slice]),(false,[qi]),(false,[qi]),(false,[qi])])),(24, .l [.ptr]),(25, .c (.one false [.map])),(26, .l [.ptr]),(28, .l [.ptr]),(30, .l [.ptr]),(32, .l [.ptr]),(39, .l [.ptr]),(42, .l [qi]),(45, .l [.ptr]),(46, .c (.one false [.bool])),(52, .l [.ptr]),(53, .c (.one false [.bool])),(55, .l [.slice]),(56, .l [.ptr]),(57, .c (.one true dtk3)),(59, .c (.one false [.slice])),(62, .l [.ptr]),(63, .c (.one false [.bool])),(65, .l [.slice]),(66, .l [.ptr]),(67, .c (.one true dtk4)),(69, .c (.one false [.slice])),(49, .l [.ptr]),(50, .c (.tup [])),(71, .l [.ptr]),(74, .l [qi]),(77, .l [.ptr]),(80, .l [qi]),(81, .l [.ptr]),(84, .l [qi]),(85, .l [.ptr]),(88, .l [qi]),(89, .l [.slice, .slice])],[7,38],[(39,32,[],[(2,[.slice, .slice])])]⟩ (lw (fun d=>Nat.beq d 7 || Nat.beq d 23) Tryz.f14)
theorem low14:lw (fun d=>Nat.beq d 7 || Nat.beq d 23) Tryz.f14=some (eC d14):=by kernel_rfl
def R14 (l1:Bs) (h:PHeap) (Q:Value->PHeap->Prop):Prop:=
 tp 35 [vS l1] h fun v_1 h_1=>
 ∃ a1 n1 dtk1 i1 i2 i3,v_1=vT [vL a1 n1 dtk1,vI i1,vI i2,vI i3]/\
 br (i3 != 0)
 (Q (vT [vA [vL none 0 0,vL none 0 0],vI i1,vI i2,vI i3]) h_1)
 (alc h_1 [vL a1 n1 dtk1,vI 0, .map none,vI 0,vI 0,vI 0] 81 fun b1 h_2=>
 alc h_2 [.pointer none] 78 fun b2 h_3=>
 sto h_3 b2 0 1 [vP b1 0] fun h_4=>
 ∃ p1 o1,h_4.cell b2 0=some (vP p1 o1)/\
 rq [] o14_5 79 h_4 fun v_2 h_5=>
 ∃ m1,v_2=vM m1/\
 ∃ p2 o2,h_5.cell b2 0=some (vP p2 o2)/\
 rq [(25,vM m1),(27,vF 36 [vP p2 o2] [])] o14_6 0 h_5 fun v_3 h_6=>
 v_3=vT []/\
 ∃ p3 o3,h_6.cell b2 0=some (vP p3 o3)/\
 rq [(25,vM m1),(29,vF 37 [vP p3 o3] [])] o14_7 0 h_6 fun v_4 h_7=>
 v_4=vT []/\
 ∃ p4 o4,h_7.cell b2 0=some (vP p4 o4)/\
 rq [(25,vM m1),(31,vF 38 [vP p4 o4] [])] o14_8 0 h_7 fun v_5 h_8=>
 v_5=vT []/\
 ∃ p5 o5,h_8.cell b2 0=some (vP p5 o5)/\
 rq [(25,vM m1),(33,vF 39 [vP p5 o5] [])] o14_9 0 h_8 fun v_6 h_9=>
 v_6=vT []/\
 rq [(25,vM m1),(34,vF 40 [] [vP b2 0])] o14_10 0 h_9 fun v_7 h_10=>
 v_7=vT []/\
 rq [(25,vM m1),(35,vF 42 [] [vP b2 0])] o14_11 0 h_10 fun v_8 h_11=>
 v_8=vT []/\
 sto h_11 p1 (o1+2) 1 [vM m1] fun h_12=>
 ∃ (I_1:Nat->OA->Nat->Nat->OA->Nat->Nat->PHeap->Prop),(∃ m3,I_1 m3 none 0 0 none 0 0 h_12)/\
 ∀ m2 a2 n2 dtk2 a3 n3 dtk3 h_13,I_1 m2 a2 n2 dtk2 a3 n3 dtk3 h_13->
 ∃ p6 o6,h_13.cell b2 0=some (vP p6 o6)/\
 ∃ i4,h_13.cell p6 (o6+5)=some (vI i4)/\
 br (i4 == 0)
 (∃ p7 o7,h_13.cell b2 0=some (vP p7 o7)/\
 tp 43 [vP p7 o7,vI 0] h_13 fun v_9 h_14=>
 ∃ c1,v_9=vB c1/\
 br (!c1)
 (∃ p8 o8,h_14.cell b2 0=some (vP p8 o8)/\
 tp 44 [vP p8 o8,vS [118,97,114]] h_14 fun v_10 h_15=>
 ∃ c2,v_10=vB c2/\
 br c2
 (∃ p9 o9,h_15.cell b2 0=some (vP p9 o9)/\
 tp 45 [vP p9 o9] h_15 fun v_11 h_16=>
 ∃ l4 i5 i6 i7 i8,v_11=vA [vS l4,vI i5,vI i6,vI i7,vI i8]/\
 (tv [vL a2 n2 dtk2])/\
 alc h_16 [vS l4,vI i5,vI i6,vI i7,vI i8] 86 fun b3 h_17=>
 (tv [vL a2 n2 dtk2])/\
 rq [(55,vL a2 n2 dtk2),(58,vL (ad b3 0) 1 1)] o14_14 23 h_17 fun v_12 h_18=>
 ∃ a4 n4 dtk4,v_12=vL a4 n4 dtk4/\
 ∃ m4,m4 < m2/\I_1 m4 a4 n4 dtk4 a3 n3 dtk3 h_18/\
 True)
 (∃ p10 o10,h_15.cell b2 0=some (vP p10 o10)/\
 tp 44 [vP p10 o10,vS [102,117,110,99]] h_15 fun v_13 h_19=>
 ∃ c3,v_13=vB c3/\
 br c3
 (∃ p11 o11,h_19.cell b2 0=some (vP p11 o11)/\
 tp 46 [vP p11 o11] h_19 fun v_14 h_20=>
 ∃ l5 a5 n5 k5 a6 n6 k6 i9 i10,v_14=vA [vS l5,vL a5 n5 k5,vL a6 n6 k6,vI i9,vI i10]/\
 (tv [vL a3 n3 dtk3])/\
 alc h_20 [vS l5,vL a5 n5 k5,vL a6 n6 k6,vI i9,vI i10] 54 fun b4 h_21=>
 (tv [vL a3 n3 dtk3])/\
 rq [(65,vL a3 n3 dtk3),(68,vL (ad b4 0) 1 1)] o14_15 24 h_21 fun v_15 h_22=>
 ∃ a7 n7 k7,v_15=vL a7 n7 k7/\
 ∃ m5,m5 < m2/\I_1 m5 a2 n2 dtk2 a7 n7 k7 h_22/\
 True)
 (∃ p12 o12,h_19.cell b2 0=some (vP p12 o12)/\
 tp 47 [vP p12 o12,vI 30] h_19 fun v_16 h_23=>
 v_16=vT []/\
 ∃ m6,m6 < m2/\I_1 m6 a2 n2 dtk2 a3 n3 dtk3 h_23/\
 True)))
 (∃ p13 o13,h_14.cell b2 0=some (vP p13 o13)/\
 ∃ i11,h_14.cell p13 (o13+5)=some (vI i11)/\
 br (i11 != 0)
 (∃ p14 o14,h_14.cell b2 0=some (vP p14 o14)/\
 ∃ i12,h_14.cell p14 (o14+3)=some (vI i12)/\
 ∃ p15 o15,h_14.cell b2 0=some (vP p15 o15)/\
 ∃ i13,h_14.cell p15 (o15+4)=some (vI i13)/\
 ∃ p16 o16,h_14.cell b2 0=some (vP p16 o16)/\
 ∃ i14,h_14.cell p16 (o16+5)=some (vI i14)/\
 (h_14.cell p16 (o16+5)=some (vI i14))/\
 (h_14.cell b2 0=some (vP p16 o16))/\
 (h_14.cell p15 (o15+4)=some (vI i13))/\
 (h_14.cell b2 0=some (vP p15 o15))/\
 (h_14.cell p14 (o14+3)=some (vI i12))/\
 (h_14.cell b2 0=some (vP p14 o14))/\
 Q (vT [vA [vL none 0 0,vL none 0 0],vI i12,vI i13,vI i14]) h_14)
 (Q (vT [vA [vL a2 n2 dtk2,vL a3 n3 dtk3],vI 0,vI 0,vI 0]) h_14)))
 (∃ p17 o17,h_13.cell b2 0=some (vP p17 o17)/\
 ∃ i15,h_13.cell p17 (o17+5)=some (vI i15)/\
 br (i15 != 0)
 (∃ p18 o18,h_13.cell b2 0=some (vP p18 o18)/\
 ∃ i16,h_13.cell p18 (o18+3)=some (vI i16)/\
 ∃ p19 o19,h_13.cell b2 0=some (vP p19 o19)/\
 ∃ i17,h_13.cell p19 (o19+4)=some (vI i17)/\
 ∃ p20 o20,h_13.cell b2 0=some (vP p20 o20)/\
 ∃ i18,h_13.cell p20 (o20+5)=some (vI i18)/\
 (h_13.cell p20 (o20+5)=some (vI i18))/\
 (h_13.cell b2 0=some (vP p20 o20))/\
 (h_13.cell p19 (o19+4)=some (vI i17))/\
 (h_13.cell b2 0=some (vP p19 o19))/\
 (h_13.cell p18 (o18+3)=some (vI i16))/\
 (h_13.cell b2 0=some (vP p18 o18))/\
 Q (vT [vA [vL none 0 0,vL none 0 0],vI i16,vI i17,vI i18]) h_13)
 (Q (vT [vA [vL a2 n2 dtk2,vL a3 n3 dtk3],vI 0,vI 0,vI 0]) h_13)))
theorem T14 {l1 h Q} (hR:R14 l1 h Q):Tri Tryz.prog 14 [vS l1] h Q:=
 tri_of_dn mixed Tryz.func14 rfl (by kernel_rfl) low14 (rs:=[.cell 2 true 2, .tmp 3, .tmp 4, .tmp 5]) (by kernel_rfl) rfl (Eq.mpr (by kernel_rfl) hR)
end
end Go.Proofs.D
namespace Go.Proofs.D
open Go Go.Den Go.Sx
set_option maxRecDepth 100000
attribute [local irreducible] IntKind.wrap Tri marks words oneS
def SB (s:Bytes) (n:Nat):Obj:= .cells ⟨[vS s,vI n,vI (place s n).1,vI ((n:Int)+1 - (place s n).2)]⟩ 160 (0,0)
theorem SB_mk {s:Bytes} {n:Nat} {a b c:Int} (ha:a=n) (hb:b=(place s n).1) (hc:c=(n:Int)+1 - (place s n).2):Obj.cells ⟨[vS s,vI a,vI b,vI c]⟩ 160 (0,0)=SB s n:=by
 subst ha;subst hb;subst hc;rfl
theorem place_zero (s:Bytes):place s 0=(1,1):=by rw [place_eq];simp
theorem put_id {h:PHeap} {p:Nat} {o:Obj} (hp:h p=some o):h.put p o=h:=by
 funext k;simp only [PHeap.put];split
 . rename_i e;subst e;exact hp.symm
 . rfl
theorem dropE (s:Bytes) (n:Nat):((s.drop ((n:Int)).toNat).take ((s.length:Int).toNat - ((n:Int)).toNat))=s.drop n:=by
 simp only [Int.toNat_natCast]
 rw [List.take_of_length_le]
 rw [List.length_drop];omega
theorem u8_eq {c d:UInt8} (h:((c.toNat:Int) == (d.toNat:Int))=true):c=d:=by
 have:c.toNat=d.toNat:=by
  have:(c.toNat:Int)=d.toNat:=by simpa using h
  omega
 exact UInt8.toNat_inj.1 this
theorem u8_ne {c d:UInt8} (h:((c.toNat:Int) == (d.toNat:Int))=false):c≠d:=by
 rintro rfl;simp at h
theorem drop_head {s:Bytes} {n:Nat} {c:UInt8} {r:Bytes} (h:s.drop n=c::r):s[n]? =some c:=by
 have:(s.drop n)[0]? =some c:=by rw [h];rfl
 rw [List.getElem?_drop] at this;simpa using this
theorem drop_tail {s:Bytes} {n:Nat} {c:UInt8} {r:Bytes} (h:s.drop n=c::r):s.drop (n+1)=r:=by
 rw [←List.drop_drop,h];rfl
theorem skip_tri {s:Bytes} {n p:Nat} {h:PHeap} (hn:n<=s.length) (hl:s.length<=1000000) (hp:h p=some (SB s n)):
 Tri Tryz.prog 86 [vP p 0] h fun v h'=>v=vT []/\h'=h.put p (SB s (n+skipN false (s.drop n))):=by
 refine T86 ?_
 unfold R86
 refine ⟨fun m h1=>∃ n':Nat,n'<=s.length/\n'+m=s.length/\h1=h.put p (SB s n')/\n'+skipN false (s.drop n')=n+skipN false (s.drop n),⟨s.length - n,n,hn,by omega,(put_id hp).symm,rfl⟩,?_⟩
 rintro m _ ⟨n',hn',hm,rfl,hs⟩
 have hb:(h.put p (SB s n')) p=some (SB s n'):=put_same _ _ _
 have hcell:∀ o,(h.put p (SB s n')).cell p o=[vS s,vI n',vI (place s n').1,vI ((n':Int)+1 - (place s n').2)][o]? :=fun o=>cell_of hb o
 have hpb:=place_bound s n'
 refine ⟨_,hcell 1,_,hcell 0,br_split (fun e=>?_) (fun e=>?_)⟩
 . have hlt:n' < s.length:=by
    have:(n':Int) < s.length:=by simpa using e
    omega
   obtain ⟨c,r,hd⟩:∃ c r,s.drop n'=c::r:=by
    cases hd:s.drop n' with
    | nil=>have:=congrArg List.length hd;simp at this;omega
    | cons c r=>exact ⟨c,r,rfl⟩
   have hg:=drop_head hd
   refine ⟨_,hcell 0,_,hcell 1,⟨by omega,by omega,Int.le_refl _⟩,?_⟩
   rw [dropE,hd]
   refine ⟨Int.le_refl _,c,rfl,br_split (fun e1=>?_) (fun e1=>?_)⟩
   . have hc:c=10:=u8_eq e1
     subst hc
     refine ⟨_,hcell 1,_,_,_,hb,⟨by simp,Nat.zero_le _⟩,?_⟩
     rintro h2 rfl
     refine ⟨_,cell_of (put_same _ _ _) 2,_,_,_,put_same _ _ _,⟨by simp [splice],Nat.zero_le _⟩,?_⟩
     rintro h3 rfl
     refine ⟨_,cell_of (put_same _ _ _) 1,_,_,_,put_same _ _ _,⟨by simp [splice],Nat.zero_le _⟩,?_⟩
     rintro h4 rfl
     have hpl:place s (n'+1)=((place s n').1+1,1):=place_succ hg
     refine ⟨m - 1,by omega,⟨n'+1,by omega,by omega,?_,?_⟩,trivial⟩
     . rw [put_put,put_put,put_put]
       rw [wrap64 (by omega) (by omega),wrap64 (by omega) (by omega)]
       refine congrArg (h.put p) (SB_mk ?_ ?_ ?_)
       . omega
       . rw [hpl];rfl
       . rw [hpl];simp only;omega
     . rw [drop_tail hd,←hs,hd,skipN_nl];omega
   have blank:∀ {h2:PHeap},h2=(h.put p (SB s n')).put p (.cells ⟨splice [vS s,vI n',vI (place s n').1,vI ((n':Int)+1 - (place s n').2)] 1 [vI (IntKind.i64.wrap ((n':Int)+1))]⟩ 160 (0,0))->(c=32∨c=9)->
    ∃ m3,m3 < m/\(∃ n':Nat,n'<=s.length/\n'+m3=s.length/\h2=h.put p (SB s n')/\n'+skipN false (s.drop n')=n+skipN false (s.drop n))/\True:=by
    rintro h2 rfl hc
    have h10:(c == 10)=false:=by rcases hc with rfl | rfl <;> rfl
    have hpl:place s (n'+1)=((place s n').1,(place s n').2+1):=by rw [place_succ hg,placeStep,h10];rfl
    refine ⟨m - 1,by omega,⟨n'+1,by omega,by omega,?_,?_⟩,trivial⟩
    . rw [put_put]
      rw [wrap64 (by omega) (by omega)]
      refine congrArg (h.put p) (SB_mk ?_ ?_ ?_)
      . omega
      . rw [hpl]
      . rw [hpl];simp only;omega
    . rw [drop_tail hd,←hs,hd,skipN_sp _ hc];omega
   refine ⟨Int.le_refl _,c,rfl,br_split (fun e2=>?_) (fun e2=>?_)⟩
   . refine ⟨_,hcell 1,_,_,_,hb,⟨by simp,Nat.zero_le _⟩,?_⟩
     intro h2 hh2
     exact blank hh2 (.inl (u8_eq e2))
   refine ⟨Int.le_refl _,c,rfl,br_split (fun e3=>?_) (fun e3=>?_)⟩
   . refine ⟨_,hcell 1,_,_,_,hb,⟨by simp,Nat.zero_le _⟩,?_⟩
     intro h2 hh2
     exact blank hh2 (.inr (u8_eq e3))
   refine Tri.mono (L.stringsHasPrefix_tri (c::r) [47,47] _) ?_
   rintro _ h1 ⟨rfl,rfl⟩
   refine ⟨_,rfl,br_split (fun e4=>?_) (fun e4=>?_)⟩
   . refine ⟨_,hcell 1,?_⟩
     have hrl:(c::r).length+n'=s.length:=by rw [←hd,List.length_drop];omega
     refine Tri.mono (L.leading_tri (c::r) 133 (fun c=> !(c == 10)) L.notNl_tri _ (by omega)) ?_
     rintro _ h1 ⟨rfl,rfl⟩
     refine ⟨_,rfl,hcell 1,_,_,_,hb,⟨by simp,Nat.zero_le _⟩,?_⟩
     rintro h2 rfl
     obtain ⟨r',hr'⟩:∃ r',c::r=47::47::r':=by
      match r,e4 with
      | [],e4=>simp [List.isPrefixOf] at e4
      | d::r',e4=>
        simp [List.isPrefixOf] at e4
        exact ⟨r',by rw [←e4.1,←e4.2]⟩
     have hk2:2<=lead (fun c=> !(c == 10)) (c::r):=by
      rw [hr']
      show 2<=lead (fun c=> !(c == 10)) r'+1+1
      omega
     have hkl:=L.lead_le (fun c=> !(c == 10)) (c::r)
     generalize hk:lead (fun c=> !(c == 10)) (c::r)=k at *
     have hpl:place s (n'+k)=((place s n').1,(place s n').2+k):=place_add k (fun d hdm=>by
      have:=lead_mem (fun c=> !(c == 10)) (c::r) d (by rw [hk,←hd];exact hdm)
      simpa using this) (by omega)
     refine ⟨m - k,by omega,⟨n'+k,by omega,by omega,?_,?_⟩,trivial⟩
     . rw [put_put]
       rw [wrap64 (by omega) (by omega)]
       refine congrArg (h.put p) (SB_mk ?_ ?_ ?_)
       . omega
       . rw [hpl]
       . rw [hpl];simp only;omega
     . rw [←hs,←List.drop_drop,hd,hr',skipN_com]
       rw [hr'] at hk
       rw [hk];omega
   . have h0:skipN false (c::r)=0:=skipN_no (u8_ne e1) (u8_ne e2) (u8_ne e3) e4
     refine ⟨rfl,?_⟩
     rw [←hs,hd,h0];rfl
 . have hlt:n'=s.length:=by
    have:¬ (n':Int) < s.length:=by simpa using e
    omega
   refine ⟨rfl,?_⟩
   rw [←hs,List.drop_eq_nil_of_le (by omega)];rfl
theorem TokRow_of {s:Bytes} {h:PHeap} {b:Nat} {t:TypeId} {z:Nat×Nat}:∀ (ts:List Tok) (pre rest:List Value),h b=some (.cells ⟨pre++(ts.map (tokC s)).flatten++rest⟩ t z)->TokRow s h b pre.length ts
 | [],_,_,_=>trivial
 | x::ts,pre,rest,hb=>by
   refine ⟨row_lit hb fun j v hj=>?_,?_⟩
   . have hj6:j < (tokC s x).length:=(List.getElem?_eq_some_iff.1 hj).1
     simp only [List.map_cons,List.flatten_cons,List.append_assoc]
     rw [List.getElem?_append_right (by omega),show pre.length+j - pre.length=j by omega,List.getElem?_append_left hj6]
     exact hj
   . have:=TokRow_of (s:=s) (h:=h) (b:=b) (t:=t) (z:=z) ts (pre++tokC s x) rest (by rw [hb];simp only [List.map_cons,List.flatten_cons,List.append_assoc])
     rw [List.length_append] at this
     exact this
def preS (done:List Tok):Except (Nat×Nat) (List Tok)->Except (Nat×Nat) (List Tok)
 | .error e=> .error e
 | .ok ts=> .ok (done++ts)
theorem preS_nil (r:Except (Nat×Nat) (List Tok)):preS [] r=r:=by cases r <;> rfl
theorem preS_cons (done:List Tok) (t:Tok) (r:Except (Nat×Nat) (List Tok)):preS done (match r with | .error e=> .error e | .ok ts=> .ok (t::ts))=preS (done++[t]) r:=by
 cases r with
 | error e=>rfl
 | ok ts=>simp [preS]
def ScanP (s:Bytes) (h:PHeap) (v:Value) (h':PHeap):Prop:=
 Ext h h'/\match scanS s with
  | .error e=>v=vT [vL none 0 0,vI (place s e.2).1,vI (place s e.2).2,vI e.1]
  | .ok ts=>∃ b c,v=vT [vL (ad b 0) ts.length c,vI 0,vI 0,vI 0]/\h b=none/\h' b≠none/\TokRow s h' b 0 ts/\ts.length<=c
theorem elem162:ElemT 162 6:=⟨_,_,rfl,rfl,rfl,rfl,by decide⟩
theorem und75:Tryz.prog.underlying 75=some (.slice 162):=rfl
theorem scan_tri (s:Bytes) (h:PHeap) (ht:L.EscTab h):Tri Tryz.prog 35 [vS s] h (ScanP s h):=by
 refine T35 ?_
 unfold R35
 refine br_split (fun e=>?_) (fun e=>?_)
 . have hl:16384 < s.length:=by
    have:(s.length:Int) > 16384:=by simpa using e
    omega
   refine ⟨Ext.refl _,?_⟩
   simp only [scanS,if_pos hl,place_zero];rfl
 have hl:s.length<=16384:=by
  have:¬ (s.length:Int) > 16384:=by simpa using e
  omega
 have hsc:scanS s=scanL (s.length+1) 0 s 0:=by rw [scanS,if_neg (by omega)]
 intro b1 hb1 h1 hh1
 have hsb:h1 b1=some (SB s 0):=by rw [Put.at hh1];exact congrArg some (SB_mk rfl (by rw [place_zero];rfl) (by rw [place_zero];rfl))
 have hx1:Ext h h1:=Put.ext hh1 hb1
 clear hh1
 refine Tri.mono (skip_tri (Nat.zero_le _) (by omega) hsb) ?_
 rintro _ h2 ⟨rfl,hh2⟩
 refine ⟨rfl,?_⟩
 rw [List.drop_zero,Nat.zero_add] at hh2
 have hb1n:h1 b1≠none:=by rw [hsb];exact fun e=>by cases e
 refine ⟨fun m sa sn sc h3=>∃ (n f:Nat) (done:List Tok),n<=s.length/\skipN false (s.drop n)=0/\n+m=s.length/\h3 b1=some (SB s n)/\Away b1 h1 h3/\LM 162 6 h1 h3 sa sn sc (done.map (tokC s))/\done.length=sn/\sn<=4096/\(s.drop n).length < f+1/\scanS s=preS done (scanL (f+1) sn (s.drop n) n),?_,?_⟩
 . have hle:=skipN_le false s
   refine ⟨s.length - skipN false s,skipN false s,s.length,[],hle,skipN_idem false s,by omega,?_,?_,LM.nil,rfl,by omega,?_,?_⟩
   . rw [hh2];exact put_same _ _ _
   . rw [hh2];exact (Chg.put _ _ _).away
   . rw [List.length_drop];omega
   . rw [preS_nil,hsc,scanL_skip];simp
 rintro m sa sn sc h3 ⟨n,f,done,hn,hsk,hm,hb3,hA3,hM3,hdl,hk4,hf,hs3⟩
 have hx3:Ext h h3:=fun k o hk=>hA3 k o (fun e=>by subst e;rw [hb1] at hk;cases hk) (hx1 k o hk)
 have hcell:∀ {g:PHeap},g b1=some (SB s n)->∀ o,g.cell b1 o=[vS s,vI n,vI (place s n).1,vI ((n:Int)+1 - (place s n).2)][o]? :=fun hg o=>cell_of hg o
 have hpb:=place_bound s n
 have hd1:∀ {g:PHeap},Away b1 h1 g->g b1≠none->∀ b,g b=none->h1 b=none:=fun hA hne=>hA.dom hne
 have col:∀ i:Nat,i<=1000000->IntKind.i64.wrap (IntKind.i64.wrap (IntKind.i64.wrap ((n:Int) - ((n:Int)+1 - (place s n).2))+1)+i)=((place s n).2+i:Nat):=fun i hi=>by
  rw [wrap64 (n:=(n:Int) - ((n:Int)+1 - (place s n).2)) (by omega) (by omega),wrap64 (n:=(n:Int) - ((n:Int)+1 - (place s n).2)+1) (by omega) (by omega),wrap64 (by omega) (by omega)];omega
 have col0:IntKind.i64.wrap (IntKind.i64.wrap ((n:Int) - ((n:Int)+1 - (place s n).2))+1)=((place s n).2:Nat):=by
  rw [wrap64 (n:=(n:Int) - ((n:Int)+1 - (place s n).2)) (by omega) (by omega),wrap64 (by omega) (by omega)];omega
 refine ⟨_,hcell hb3 1,br_split (fun e1=>?_) (fun e1=>?_)⟩
 . have hlt:n < s.length:=by
    have:(n:Int) < s.length:=by simpa using e1
    omega
   obtain ⟨c,r,hd⟩:∃ c r,s.drop n=c::r:=by
    cases hd:s.drop n with
    | nil=>have:=congrArg List.length hd;simp at this;omega
    | cons c r=>exact ⟨c,r,rfl⟩
   refine ⟨_,hcell hb3 1,⟨by omega,by omega,Int.le_refl _⟩,?_⟩
   rw [dropE,hd]
   have hrl:(c::r).length+n=s.length:=by rw [←hd,List.length_drop];omega
   have h1s:=oneS_nl (c::r)
   rw [scanL_at f sn n hsk,hd] at hs3
   simp only [scanR] at hs3
   refine Tri.mono (find_tri c r h3 (ht.ext hx3) (by omega)) ?_
   rintro v h4 ⟨hx34,hv⟩
   have hb4:h4 b1=some (SB s n):=hx34 _ _ hb3
   have hx4:Ext h h4:=hx3.trans hx34
   have hA4:Away b1 h1 h4:=hA3.trans hx34.away
   obtain ⟨K,T,V,B,Ln,Cn,Sz,At',Er,c1,hv',hcase⟩:∃ (K:Int) (T:List UInt8) (V:Int) (B:List UInt8) (Ln Cn Sz At' Er:Int) (c1:Bool),v=vT [vA [vI K,vS T,vI V,vS B,vI Ln,vI Cn,vI Sz,vI At',vI Er],vB c1]/\
    ((c1=false/\oneS (c::r)= .error (6,0))∨(c1=true/\K=L.aK (oneS (c::r))/\T=(c::r).take (L.aS (oneS (c::r)))/\V=L.aV (oneS (c::r))/\B=L.aB (oneS (c::r))/\Sz=L.aS (oneS (c::r))/\At'=L.aA (oneS (c::r))/\Er=L.aE (oneS (c::r)))):=by
    rcases hv with rfl | ⟨rfl,h6⟩
    . exact ⟨_,_,_,_,_,_,_,_,_,true,rfl, .inr ⟨rfl,rfl,rfl,rfl,rfl,rfl,rfl,rfl⟩⟩
    . exact ⟨_,_,_,_,_,_,_,_,_,false,rfl, .inl ⟨rfl,h6⟩⟩
   refine ⟨K,T,V,B,Ln,Cn,Sz,At',Er,c1,hv',br_split (fun e2=>?_) (fun e2=>?_)⟩
   . have hk:sn=4096:=by
      have:(sn:Int)≥4096:=by simpa using e2
      omega
     refine ⟨_,hcell hb4 1,_,hcell hb4 3,_,hcell hb4 2,hx4,?_⟩
     rw [hs3,if_pos hk]
     have:=col 0 (by omega)
     simp only [preS]
     rw [show (0:Int)=((0:Nat):Int) from rfl,this];rfl
   have hk:¬ sn=4096:=by
    have:¬ (sn:Int)≥4096:=by simpa using e2
    omega
   rw [if_neg hk] at hs3
   refine br_split (fun e3=>?_) (fun e3=>?_)
   . have hc1:c1=false:=by simpa using e3
     refine ⟨_,hcell hb4 1,_,hcell hb4 3,_,hcell hb4 2,hx4,?_⟩
     rcases hcase with ⟨_,h6⟩ | ⟨h6,_⟩
     . rw [hs3,h6]
       have:=col 0 (by omega)
       simp only [preS]
       rw [show (0:Int)=((0:Nat):Int) from rfl,this];rfl
     . rw [h6] at hc1;cases hc1
   have hc1:c1=true:=by simpa using e3
   rcases hcase with ⟨h6,_⟩ | ⟨_,g1,g2,g3,g4,g5,g6,g7⟩
   . rw [h6] at hc1;cases hc1
   refine ⟨_,hcell hb4 1,_,hcell hb4 3,br_split (fun e4=>?_) (fun e4=>?_)⟩
   . refine ⟨_,hcell hb4 2,hx4,?_⟩
     cases ho:oneS (c::r) with
     | ok p=>
       rw [ho] at g7
       have:Er=0:=g7
       subst this;simp at e4
     | error p=>
       obtain ⟨ee,ei⟩:=p
       rw [ho] at g6 g7 hs3
       replace g6:At'=(ei:Int):=g6
       replace g7:Er=(ee:Int):=g7
       have hnl:=(h1s.1 _ _ ho).1
       have hpl:place s (n+ei)=((place s n).1,(place s n).2+ei):=place_add ei (fun d hdm=>hnl.2 d (by rw [hd] at hdm;exact hdm)) (by have:=hnl.1;omega)
       rw [hs3,g6,g7,col ei (by have:=hnl.1;omega)]
       simp only [preS,hpl]
   . cases ho:oneS (c::r) with
     | error p=>
       obtain ⟨ee,ei⟩:=p
       rw [ho] at g7
       replace g7:Er=(ee:Int):=g7
       have:=(h1s.1 _ _ ho).2
       exfalso
       subst g7
       have:(ee:Int)=0:=by simpa using e4
       omega
     | ok p=>
       obtain ⟨kind,len,vv,bb⟩:=p
       rw [ho] at g1 g2 g3 g4 g5 hs3
       replace g1:K=(kind:Int):=g1
       replace g2:T=(c::r).take len:=g2
       replace g3:V=(vv:Int):=g3
       replace g4:B=bb:=g4
       replace g5:Sz=(len:Int):=g5
       have hok:=h1s.2 _ _ _ _ ho
       have hlen:=hok.nl.1
       have hlp:=hok.pos
       subst g1;subst g2;subst g3;subst g4;subst g5
       refine ⟨_,hcell hb4 2,?_⟩
       rw [col0]
       intro b2 hb2 h5 hh5
       have hne4:h4 b1≠none:=by rw [hb4];exact fun e=>by cases e
       refine Raw.mono (LM.append (h0:=h1) (cs:=tokC s ⟨kind,(c::r).take len,vv,B,n⟩) und75 elem162 rfl rfl rfl rfl rfl (hM3.ext hx34) hb2 hh5 rfl rfl (by omega) (hd1 hA4 hne4)) ?_
       rintro _ h6 ⟨b6,cap6,rfl,hk6,hdd6,hn6,hq6,hM6,_⟩
       have hb6:h6 b1=some (SB s n):=hk6 b1 _ hb1n hb4
       refine ⟨_,_,_,rfl,_,hcell hb6 1,_,_,_,hb6,⟨by simp,Nat.zero_le _⟩,?_⟩
       intro h7 hh7
       have hpl:place s (n+len)=((place s n).1,(place s n).2+len):=place_add len (fun d hdm=>hok.nl.2 d (by rw [hd] at hdm;exact hdm)) (by omega)
       have hh7':h7=h6.put b1 (SB s (n+len)):=by
        rw [hh7,wrap64 (by omega) (by omega)]
        refine congrArg (h6.put b1) (SB_mk ?_ ?_ ?_)
        . omega
        . rw [hpl]
        . rw [hpl];simp only;omega
       have hb7:h7 b1=some (SB s (n+len)):=by rw [hh7'];exact put_same _ _ _
       have hc7:Chg b1 h6 h7:=by rw [hh7'];exact Chg.put _ _ _
       refine Tri.mono (skip_tri (by omega) (by omega) hb7) ?_
       rintro _ h8 ⟨rfl,hh8⟩
       have hc8:Chg b1 h6 h8:=by rw [hh8];exact hc7.trans (Chg.put _ _ _)
       have hle:=skipN_le false (s.drop (n+len))
       rw [List.length_drop] at hle
       have hA6:Away b1 h1 h6:=fun k o hk ho=>hk6 k o (by rw [ho];exact fun e=>by cases e) (hA4 k o hk ho)
       match f,hf with
       | 0,hf=>exfalso;rw [hd] at hf;simp at hf
       | f+1,hf=>
       refine ⟨rfl,m - (len+skipN false (s.drop (n+len))),by omega,⟨n+len+skipN false (s.drop (n+len)),f,done++[⟨kind,(c::r).take len,vv,B,n⟩],by omega,?_,by omega,?_,hA6.trans hc8.away,?_,?_,by omega,?_,?_⟩,trivial⟩
       . rw [←List.drop_drop];exact skipN_idem false _
       . rw [hh8];exact put_same _ _ _
       . have:=hM6.away hb1n hc8.away
         rw [List.map_append];exact this
       . rw [List.length_append,hdl];rfl
       . rw [List.length_drop];rw [List.length_drop] at hf;omega
       . rw [hs3]
         simp only
         refine (preS_cons done _ (scanL (f+1) (sn+1) (List.drop len (c::r)) (n+len))).trans ?_
         rw [←hd,List.drop_drop,scanL_skip,List.drop_drop]
 . have hlt:n=s.length:=by
    have:¬ (n:Int) < s.length:=by simpa using e1
    omega
   refine ⟨_,hcell hb3 2,_,hcell hb3 1,_,hcell hb3 3,?_⟩
   rw [col0]
   intro b3 hb3' h9 hh9
   have hx9:Ext h3 h9:=Put.ext hh9 hb3'
   have hb9:=hx9 _ _ hb3
   refine ⟨hcell hb9 3,hcell hb9 1,hcell hb9 2,?_⟩
   have hne3:h3 b1≠none:=by rw [hb3];exact fun e=>by cases e
   refine Raw.mono (LM.append (h0:=h1) (cs:=tokC s ⟨0,[],0,[],n⟩) und75 elem162 rfl rfl rfl rfl rfl hM3 hb3' hh9 rfl rfl (by omega) (hd1 hA3 hne3)) ?_
   rintro _ h10 ⟨b10,cap10,rfl,hk10,hdd10,hn10,hq10,hM10,_⟩
   have hb10:h10 b1=some (SB s n):=hk10 b1 _ hb1n hb3
   refine ⟨_,_,_,rfl,hcell hb10 3,hcell hb10 1,hcell hb10 2,?_,?_⟩
   . exact fun k o hk=>hk10 k o (by rw [hx1 k o hk];exact fun e=>by cases e) (hx3 k o hk)
   . have hnil:s.drop n=[]:=List.drop_eq_nil_of_le (by omega)
     rw [hs3,scanL_at f sn n hsk,hnil]
     simp only [preS,scanR]
     refine ⟨b10,cap10,by rw [List.length_append,hdl];rfl,?_,?_,?_,?_⟩
     . cases e:h b10 with
       | none=>rfl
       | some o=>rw [hx1 _ _ e] at hn10;cases hn10
     . exact (hM10.own b10 rfl).2
     . obtain ⟨_,hor⟩:=hM10.row
       rcases hor with ⟨g,_⟩ | ⟨b',cap',rest,g,g',_⟩
       . cases g
       . injection g with g;injection g with g;injection g with g
         subst g
         have:(done.map (tokC s)++[tokC s ⟨0,[],0,[],n⟩])=(done++[(⟨0,[],0,[],n⟩:Tok)]).map (tokC s):=by rw [List.map_append];rfl
         rw [this] at g'
         exact TokRow_of (pre:=[]) _ rest g'
     . obtain ⟨_,hor⟩:=hM10.row
       rcases hor with ⟨g,_⟩ | ⟨b',cap',rest,g,g',hr,hc⟩
       . cases g
       . injection g with _ _ g
         subst g
         rw [List.length_append,hdl];exact hc
end Go.Proofs.D
namespace Go.Den
open Go
section
variable {P : Program} {h : PHeap} {f : Operand → Value}
theorem raw_makeMap {t ty:TypeId} {Q:Value->PHeap->Prop} (hq:∀ b,h b=none->Q (.map (some b)) (h.put b (.map ⟨[]⟩ 0))):Raw P (execOp f (mkO (.makeMap t none) ty)) h Q:=by
 intro w hs
 refine ⟨.value (.map (some w.heap.size)), .map (some w.heap.size),w.alloc (.map ⟨[]⟩ 0),h.put w.heap.size (.map ⟨[]⟩ 0),?_, .inl rfl,hq _ hs.fresh,hs.allocReal _,Keep.allocReal w h _⟩
 rfl
theorem beq_bytesS (a b:List UInt8):((⟨⟨a⟩⟩:ByteArray) == ⟨⟨b⟩⟩)=(a == b):=by
 show ((⟨a⟩:Array UInt8) == ⟨b⟩)=(a == b)
 rw [Bool.eq_iff_iff,beq_iff_eq,beq_iff_eq]
 constructor
 . intro e;cases e;rfl
 . rintro rfl;rfl
def ents (L:List (List UInt8×Value×Nat)):List MapEntry:=L.map fun x=>⟨vS x.1,x.2.1,x.2.2⟩
def findS (k:List UInt8):List (List UInt8×Value×Nat)->Nat->Option (Nat×Value)
 | [],_=>none
 | (k',v,_)::L,i=>if k == k' then some (i,v) else findS k L (i+1)
def mapGet (L:List (List UInt8×Value×Nat)) (k:List UInt8):Option Value:=(findS k L 0).map (·.2)
theorem findNow_S (k:List UInt8):∀ (L:List (List UInt8×Value×Nat)) (i:Nat),Instr.findNow .string (vS k) (ents L) i=some (findS k L i)
 | [],_=>rfl
 | (k',v,b)::L,i=>by
   simp only [ents,List.map_cons,Instr.findNow,Instr.sameNow,beq_bytesS,findS]
   cases e:k == k' with
   | true=>rfl
   | false=>
     simp only [Bool.false_eq_true,if_false]
     exact findNow_S k L (i+1)
theorem checkKey_S {t:TypeId} (hu:P.underlying t=some .string) (e:Bool) (v:Value) (w:World):(Instr.checkKey e 10000 t v).run P w= .ok () w:=by
 have:Instr.checkKey e 10000 t v=Instr.checkKey e (9999+1) t v:=rfl
 rw [this,Instr.checkKey]
 simp [run_underlying hu]
def getD2 (z:Value):Option Value->Value
 | some v=>v
 | none=>z
theorem raw_lookupS {t key elem ty:TypeId} {ok:Bool} {m k:Operand} {r clock:Nat} {L:List (List UInt8×Value×Nat)} {lk:List UInt8} {z:Value}
 (hu:P.underlying t=some (.map key elem)) (hks:P.underlying key=some .string) (hz:zeroT P elem=some z) (hm:f m=vM r) (hk:f k=vS lk) (hr:h r=some (.map ⟨ents L⟩ clock)):
 Raw P (execOp f (mkO (.lookup t m k ok) ty)) h fun v h'=>v=(if ok then vT [getD2 z (mapGet L lk),vB (mapGet L lk).isSome] else getD2 z (mapGet L lk))/\h=h':=by
 intro w hs
 have hw:=hs _ _ hr
 have hfn:=findNow_S lk L 0
 have hgo:(getObj r).run P w= .ok (.map ⟨ents L⟩ clock) w:=by simp [getObj,Sem.run,hw]
 have hzr:(zeroValue elem).run P w= .ok z w:=by
  unfold zeroT at hz
  cases hi:P.info? elem with
  | none=>rw [hi] at hz;cases hz
  | some i=>rw [hi] at hz;simp at hz;simp [zeroValue,typeInfo,program,Sem.run,hi,hz]
 refine ⟨_,_,w,h,?_, .inl rfl,⟨rfl,rfl⟩,hs,Keep.refl w h⟩
 unfold mapGet
 cases hres:findS lk L 0 with
 | none=>rw [hres] at hfn;cases ok <;> simp [execOp,mkO,Instr.lookup,run_underlying hu,hm,hk,hgo,checkKey_S hks,Instr.findKey,run_underlying hks,hfn,hzr,getD2]
 | some p=>obtain ⟨i,v⟩:=p;rw [hres] at hfn;cases ok <;> simp [execOp,mkO,Instr.lookup,run_underlying hu,hm,hk,hgo,checkKey_S hks,Instr.findKey,run_underlying hks,hfn,getD2]
theorem setObj_keepS {w:World} {r:Nat} {o o2:Obj} (hs:Sub w h) (hr:h r=some o):Sub { w with heap:=w.heap.setIfInBounds r o2 } (h.put r o2)/\Keep w h { w with heap:=w.heap.setIfInBounds r o2 } (h.put r o2):=by
 have hw:=hs _ _ hr
 have hlt:=(Array.getElem?_eq_some_iff.1 hw).1
 refine ⟨fun k o' hk=>?_,rfl,rfl,rfl,by simp,fun k hk hn=>?_⟩
 . simp only [PHeap.put] at hk
   split at hk
   . rename_i e;subst e;cases hk;simp [hlt]
   . rename_i e
     show (w.heap.setIfInBounds r o2)[k]? =_
     rw [Array.getElem?_setIfInBounds_ne (Ne.symm e)];exact hs _ _ hk
 . have:k≠r:=fun e=>by subst e;rw [hr] at hn;cases hn
   refine ⟨by simp only [PHeap.put];rw [if_neg this];exact hn,?_⟩
   show (w.heap.setIfInBounds r o2)[k]? =_
   rw [Array.getElem?_setIfInBounds_ne (Ne.symm this)]
def mapSet (k:List UInt8) (x:Value) (ck:Nat):List (List UInt8×Value×Nat)->List (List UInt8×Value×Nat)
 | []=>[(k,x,ck)]
 | (k',v,b)::L=>if k == k' then (k,x,b)::L else (k',v,b)::mapSet k x ck L
theorem findS_shift (k:List UInt8):∀ (L:List (List UInt8×Value×Nat)) (i j:Nat),findS k L (i+j)=(findS k L i).map fun p=>(p.1+j,p.2)
 | [],_,_=>rfl
 | (k',v,b)::L,i,j=>by
   simp only [findS]
   cases e:k == k' with
   | true=>rfl
   | false=>
     have:=findS_shift k L (i+1) j
     rw [show i+1+j=i+j+1 by omega] at this
     simpa using this
theorem mapGet_cons (k':List UInt8) (v:Value) (b:Nat) (L:List (List UInt8×Value×Nat)) (k:List UInt8):mapGet ((k',v,b)::L) k=if k == k' then some v else mapGet L k:=by
 simp only [mapGet,findS]
 cases e:k == k' with
 | true=>rfl
 | false=>
   have:=findS_shift k L 0 1
   rw [Nat.zero_add] at this
   simp only [Nat.zero_add,Bool.false_eq_true,if_false]
   rw [this];cases findS k L 0 <;> rfl
theorem mapGet_set (k:List UInt8) (x:Value) (ck:Nat) (k2:List UInt8):∀ (L:List (List UInt8×Value×Nat)),mapGet (mapSet k x ck L) k2=if k2 == k then some x else mapGet L k2
 | []=>by simp [mapSet,mapGet_cons]
 | (k',v,b)::L=>by
   simp only [mapSet]
   cases e:k == k' with
   | true=>
     have e:k=k':=by simpa using e
     subst e
     simp only [if_true,mapGet_cons]
     cases k2 == k <;> rfl
   | false=>
     simp only [Bool.false_eq_true,if_false,mapGet_cons,mapGet_set k x ck k2 L]
     cases e2:k2 == k' with
     | true=>
       have e2:k2=k':=by simpa using e2
       subst e2
       have:(k2 == k)=false:=by rw [Bool.beq_comm];exact e
       simp [this]
     | false=>rfl
theorem set_ents (k:List UInt8) (x:Value) (ck:Nat):∀ (L:List (List UInt8×Value×Nat)),(∀ i v,findS k L 0=some (i,v)->(ents L).modify i (fun e=>{ e with key:=vS k,val:=x })=ents (mapSet k x ck L)/\∃ e,(ents L)[i]? =some e/\e.key=vS k)/\
 (findS k L 0=none->ents L++[⟨vS k,x,ck⟩]=ents (mapSet k x ck L))
 | []=>⟨(fun i v h=>by cases h),fun _=>rfl⟩
 | (k',v',b)::L=>by
   obtain ⟨h1,h2⟩:=set_ents k x ck L
   simp only [findS,mapSet]
   cases e:k == k' with
   | true=>
     have e:k=k':=by simpa using e
     subst e
     refine ⟨fun i v h=>?_,fun h=>by simp at h⟩
     simp at h
     obtain ⟨rfl,rfl⟩:=h
     exact ⟨rfl,_,rfl,rfl⟩
   | false=>
     have hs:=findS_shift k L 0 1
     simp only [Nat.zero_add] at hs
     simp only [Nat.zero_add,Bool.false_eq_true,if_false,hs]
     refine ⟨fun i v h=>?_,fun h=>?_⟩
     . cases hf:findS k L 0 with
       | none=>rw [hf] at h;cases h
       | some p=>
         obtain ⟨j,u⟩:=p
         rw [hf] at h;simp at h
         obtain ⟨rfl,rfl⟩:=h
         obtain ⟨g1,g2⟩:=h1 j u hf
         exact ⟨by simpa [ents] using g1,by simpa [ents] using g2⟩
     . cases hf:findS k L 0 with
       | none=>simpa [ents] using h2 hf
       | some p=>rw [hf] at h;cases h
theorem raw_updS {t key elem ty:TypeId} {m k v:Operand} {op:Op} {r clock:Nat} {L:List (List UInt8×Value×Nat)} {lk:List UInt8} {x:Value}
 (hop:op= .mapUpdate t m k v∨op= .insert t m k v) (hu:P.underlying t=some (.map key elem)) (hks:P.underlying key=some .string) (hm:f m=vM r) (hk:f k=vS lk) (hv:f v=x) (hr:h r=some (.map ⟨ents L⟩ clock)):
 Raw P (execOp f (mkO op ty)) h fun v h'=>v=vT []/\∃ ck,h'=h.put r (.map ⟨ents (mapSet lk x clock L)⟩ ck)/\(mapGet L lk=none->ck=clock+1):=by
 intro w hs
 have hw:=hs _ _ hr
 have hfn:=findNow_S lk L 0
 have hgo:(getObj r).run P w= .ok (.map ⟨ents L⟩ clock) w:=by simp [getObj,Sem.run,hw]
 have hso:∀ o,(setObj r o).run P w= .ok () { w with heap:=w.heap.setIfInBounds r o }:=fun o=>by simp [setObj,Sem.run,hw]
 have hset:=set_ents lk x clock L
 cases hres:findS lk L 0 with
 | none=>
   rw [hres] at hfn
   obtain ⟨k1,k2⟩:=setObj_keepS (o2:= .map ⟨ents (mapSet lk x clock L)⟩ (clock+1)) hs hr
   refine ⟨.skip,undef,_,_,?_, .inr ⟨rfl,rfl⟩,⟨rfl,clock+1,rfl,fun _=>rfl⟩,k1,k2⟩
   rw [←hset.2 hres]
   rcases hop with rfl | rfl <;> simp [execOp,mkO,hm,hk,hv,Instr.mapUpdate,run_underlying hu,hgo,checkKey_S hks,Instr.findKey,run_underlying hks,hfn,hso]
 | some p=>
   obtain ⟨i,u⟩:=p
   rw [hres] at hfn
   obtain ⟨g1,e,he,hek⟩:=hset.1 i u hres
   obtain ⟨k1,k2⟩:=setObj_keepS (o2:= .map ⟨ents (mapSet lk x clock L)⟩ clock) hs hr
   refine ⟨.skip,undef,_,_,?_, .inr ⟨rfl,rfl⟩,⟨rfl,clock,rfl,fun hn=>by simp [mapGet,hres] at hn⟩,k1,k2⟩
   rw [←g1]
   have hsb:Instr.sameBits 10000 e.key (vS lk)=true:=by rw [hek];simp [Instr.sameBits,beq_bytesS]
   rcases hop with rfl | rfl <;> simp [execOp,mkO,hm,hk,hv,Instr.mapUpdate,run_underlying hu,hgo,checkKey_S hks,Instr.findKey,run_underlying hks,hfn,hso,he,Instr.keyThatStays,hsb]
end
end Go.Den
namespace Go.Proofs.D
open Go Go.Den Go.Sx
set_option maxRecDepth 100000
attribute [local irreducible] IntKind.wrap Tri
mutual
def RS (pl:Nat->List Value) (we ws:Nat) (h:PHeap):S->List Value->Prop
 | .mk k nm args body els pos,cs=>∃ a ac b bc e ec,cs=[vI k,vS nm,vL a args.length ac,vL b body.length bc,vL e els.length ec]++pl pos/\At we (RE pl we) h a args/\
  (body=[]∨∃ b' o,b=ad b' o/\RSs pl we ws h b' o body)/\(els=[]∨∃ b' o,e=ad b' o/\RSs pl we ws h b' o els)
def RSs (pl:Nat->List Value) (we ws:Nat) (h:PHeap) (b:Nat):Nat->List S->Prop
 | _,[]=>True
 | o,x::xs=>(∃ cs,h.row b o cs/\RS pl we ws h x cs)/\RSs pl we ws h b (o+ws) xs
end
mutual
theorem RS.ext {pl:Nat->List Value} {we ws:Nat} {h h':PHeap} (x:Ext h h'):∀ {e:S} {cs:List Value},RS pl we ws h e cs->RS pl we ws h' e cs
 | .mk k nm args body els pos,cs,hr=>by
   obtain ⟨a,ac,b,bc,e,ec,h1,h2,h3,h4⟩:=hr
   refine ⟨a,ac,b,bc,e,ec,h1,h2.ext (RE_mono _ _) x,?_,?_⟩
   . rcases h3 with h3 | ⟨b,o,h3,h5⟩
     . exact .inl h3
     . exact .inr ⟨b,o,h3,RSs.ext x h5⟩
   . rcases h4 with h4 | ⟨b,o,h4,h5⟩
     . exact .inl h4
     . exact .inr ⟨b,o,h4,RSs.ext x h5⟩
theorem RSs.ext {pl:Nat->List Value} {we ws:Nat} {h h':PHeap} (x:Ext h h') {b:Nat}:∀ {es:List S} {o:Nat},RSs pl we ws h b o es->RSs pl we ws h' b o es
 | [],_,_=>trivial
 | e::es,o,hr=>by
   obtain ⟨⟨cs,h1,h2⟩,h3⟩:=hr
   exact ⟨⟨cs,row_ext (fun ob=>x b ob) h1,RS.ext x h2⟩,RSs.ext x h3⟩
end
theorem RS_mono (pl:Nat->List Value) (we ws:Nat):Mono (RS pl we ws):=⟨fun x h=>h.ext x⟩
theorem RSs_of {pl:Nat->List Value} {we ws:Nat} {H:PHeap} {b:Nat}:∀ {es:List S} {o:Nat},(∀ (j:Nat) (x:S),es[j]? =some x->∃ cs,H.row b (o+j * ws) cs/\RS pl we ws H x cs)->RSs pl we ws H b o es
 | [],_,_=>trivial
 | e::es,o,hj=>by
   refine ⟨?_,RSs_of fun j x hx=>?_⟩
   . obtain ⟨cs,h1,h2⟩:=hj 0 e rfl
     exact ⟨cs,by simpa using h1,h2⟩
   . obtain ⟨cs,h1,h2⟩:=hj (j+1) x (by simpa using hx)
     exact ⟨cs,by rw [show o+ws+j * ws=o+(j+1) * ws by rw [Nat.add_mul];omega];exact h1,h2⟩
theorem RSs_get {pl:Nat->List Value} {we ws:Nat} {H:PHeap} {b:Nat}:∀ {es:List S} {o:Nat},RSs pl we ws H b o es->∀ (j:Nat) (x:S),es[j]? =some x->∃ cs,H.row b (o+j * ws) cs/\RS pl we ws H x cs
 | [],_,_,j,x,hx=>by simp at hx
 | e::es,o,hr,0,x,hx=>by
   simp at hx;subst hx
   obtain ⟨cs,h1,h2⟩:=hr.1
   exact ⟨cs,by simpa using h1,h2⟩
 | e::es,o,hr,j+1,x,hx=>by
   obtain ⟨cs,h1,h2⟩:=RSs_get hr.2 j x (by simpa using hx)
   exact ⟨cs,by rw [show o+(j+1) * ws=o+ws+j * ws by rw [Nat.add_mul];omega];exact h1,h2⟩
theorem REs_get {pl:Nat->List Value} {w:Nat} {H:PHeap} {b:Nat}:∀ {es:List E} {o:Nat},REs pl w H b o es->∀ (j:Nat) (x:E),es[j]? =some x->∃ cs,H.row b (o+j * w) cs/\RE pl w H x cs
 | [],_,_,j,x,hx=>by simp at hx
 | e::es,o,hr,0,x,hx=>by
   simp at hx;subst hx
   obtain ⟨cs,h1,h2⟩:=hr.1
   exact ⟨cs,by simpa using h1,h2⟩
 | e::es,o,hr,j+1,x,hx=>by
   obtain ⟨cs,h1,h2⟩:=REs_get hr.2 j x (by simpa using hx)
   exact ⟨cs,by rw [show o+(j+1) * w=o+w+j * w by rw [Nat.add_mul];omega];exact h1,h2⟩
theorem RS_iff {pl:Nat->List Value} {we ws:Nat} {h:PHeap} {k:Nat} {nm:Bytes} {args:List E} {body els:List S} {pos:Nat} {cs:List Value}:
 RS pl we ws h (.mk k nm args body els pos) cs↔∃ a ac b bc e ec,cs=[vI k,vS nm,vL a args.length ac,vL b body.length bc,vL e els.length ec]++pl pos/\At we (RE pl we) h a args/\At ws (RS pl we ws) h b body/\At ws (RS pl we ws) h e els:=by
 have key:∀ {a:Option Addr} {l:List S},(l=[]∨∃ b' o,a=ad b' o/\RSs pl we ws h b' o l)↔At ws (RS pl we ws) h a l:=fun {a l}=>by
  constructor
  . rintro (h1 | ⟨b,o,h1,h2⟩)
    . exact .inl h1
    . exact .inr ⟨b,o,h1,RSs_get h2⟩
  . rintro (h1 | ⟨b,o,h1,h2⟩)
    . exact .inl h1
    . exact .inr ⟨b,o,h1,RSs_of h2⟩
 constructor
 . rintro ⟨a,ac,b,bc,e,ec,h1,h2,h3,h4⟩
   exact ⟨a,ac,b,bc,e,ec,h1,h2,key.1 h3,key.1 h4⟩
 . rintro ⟨a,ac,b,bc,e,ec,h1,h2,h3,h4⟩
   exact ⟨a,ac,b,bc,e,ec,h1,h2,key.2 h3,key.2 h4⟩
theorem RE_iff {pl:Nat->List Value} {w:Nat} {h:PHeap} {k:Nat} {op nm:Bytes} {v:Nat} {t:Bytes} {args:List E} {pos:Nat} {cs:List Value}:
 RE pl w h (.mk k op nm v t args pos) cs↔∃ a c,cs=[vI k,vS op,vS nm,vI v,vS t,vL a args.length c]++pl pos/\At w (RE pl w) h a args:=by
 constructor
 . rintro ⟨a,c,h1,h2⟩
   refine ⟨a,c,h1,?_⟩
   rcases h2 with h2 | ⟨b,o,h2,h3⟩
   . exact .inl h2
   . exact .inr ⟨b,o,h2,REs_get h3⟩
 . rintro ⟨a,c,h1,h2⟩
   exact ⟨a,c,h1,h2.res⟩
theorem At.nil {α:Type} {k:Nat} {rel:PHeap->α->List Value->Prop} {h:PHeap} {a:Option Addr}:At k rel h a []:= .inl rfl
theorem At.one {α:Type} {k:Nat} {rel:PHeap->α->List Value->Prop} {H:PHeap} {b:Nat} {x:α} {l:List Value} {t:TypeId} {z:Nat×Nat} (hb:H b=some (.cells ⟨l⟩ t z)) (he:rel H x l):At k rel H (ad b 0) [x]:=
 .inr ⟨b,0,rfl,fun j y hy=>by
  match j,hy with
  | 0,hy=>simp at hy;subst hy;exact ⟨l,row_lit hb fun j v hj=>by simpa using hj,he⟩
  | j+1,hy=>simp at hy⟩
theorem At.two {α:Type} {k:Nat} {rel:PHeap->α->List Value->Prop} {H:PHeap} {b:Nat} {x y:α} {l m:List Value} {t:TypeId} {z:Nat×Nat} (hw:l.length=k) (hb:H b=some (.cells ⟨l++m⟩ t z)) (hx:rel H x l) (hy:rel H y m):At k rel H (ad b 0) [x,y]:=
 .inr ⟨b,0,rfl,fun j u hu=>by
  match j,hu with
  | 0,hu=>
    simp at hu;subst hu
    refine ⟨l,row_lit hb fun j v hj=>?_,hx⟩
    have:j < l.length:=(List.getElem?_eq_some_iff.1 hj).1
    simp only [Nat.zero_mul,Nat.zero_add];rw [List.getElem?_append_left this];exact hj
  | 1,hu=>
    simp at hu;subst hu
    refine ⟨m,row_lit hb fun j v hj=>?_,hy⟩
    simp only [Nat.zero_add,Nat.one_mul];rw [List.getElem?_append_right (by omega)];rw [show k+j - l.length=j by omega];exact hj
  | j+2,hu=>simp at hu⟩
def PSt (K:PK) (s:Bytes) (p:Nat) (h:PHeap) (r:R S) (v:Value) (h':PHeap):Prop:=
 ∃ c:SC,v=vA c.l/\Away p h h'/\PX K s h' p r fun x=>RS (plP s) 8 7 (only (New h) h') x c.l
def PBk (K:PK) (s:Bytes) (p:Nat) (h:PHeap) (r:R (List S)) (v:Value) (h':PHeap):Prop:=
 ∃ a n c,v=vL a n c/\Away p h h'/\PX K s h' p r fun l=>n=l.length/\At 7 (RS (plP s) 8 7) (only (New h) h') a l
def PCo (K:PK) (s:Bytes) (p:Nat) (h:PHeap) (r:R E) (v:Value) (h':PHeap):Prop:=
 ∃ a c,v=vL a 1 c/\Away p h h'/\PX K s h' p r fun e=>At 8 (RE (plP s) 8) (only (New h) h') a [e]
section
variable {K : PK} {s : Bytes} {p : Nat}
theorem cond_tri {f:Nat} (hf:f<=5000000) {α:Type} (r:R α) (h:PHeap) (hP:PS K s h p r) (hn:NF (bindR r fun _ ts d=>pCond f ts d)):Tri Tryz.prog 93 [vP p 0] h (PCo K s p h (bindR r fun _ ts d=>pCond f ts d)):=by
 refine T93 ?_
 unfold R93
 have he:(bindR r fun _ ts d=>pCond f ts d)=thenR (bindR (bindR r fun _ ts d=>takeT [40] ts d) fun _ ts d=>pBin f 1 ts d) fun ts d=>takeT [41] ts d:=by
  simp only [thenR,bindR_bind,bindR_ok,pCond]
 rw [he] at hn ⊢
 have hp0:=hP.mem
 refine Tri.mono (take_tri hP [40]) ?_
 rintro _ h1 ⟨rfl,hc1,hP1⟩
 refine ⟨rfl,?_⟩
 refine Tri.mono (expr_tri (xok f hf) _ h1 hP1 hn.then.bind) ?_
 rintro _ h2 ⟨c,rfl,hA2,hx2⟩
 refine ⟨_,_,_,_,_,_,_,_,_,_,rfl,?_⟩
 refine Tri.mono (take_tri hx2.ps [41]) ?_
 rintro _ h3 ⟨rfl,hc3,hP3⟩
 refine ⟨rfl,?_⟩
 intro b hb h4 hh
 have hA3:Away p h h3:=(hc1.away.trans hA2).trans hc3.away
 have hb0:h b=none:=hA3.dom hP3.mem b hb
 have hbk:only (New h) h4 b=some (.cells ⟨c.l⟩ 48 (0,0)):=only_some.2 ⟨hb0,Put.at hh⟩
 refine ⟨ad b 0,1,rfl,hA3.trans (Put.ext hh hb).away,?_⟩
 have hx3:=hx2.then (rel':=fun e=>RE (plP s) 8 (only (New h) h4) e c.l) hP3 fun e he=>he.ext ((only_new (hc1.away.dom hP1.mem)).trans (only_away hp0 (hc3.away.trans (Put.ext hh hb).away)))
 exact hx3.ext (Put.ext hh hb) fun e he=>At.one hbk he
theorem RS_mk {pl:Nat->List Value} {we ws:Nat} {h:PHeap} (k:Nat) (nm:Bytes) {args:List E} {body els:List S} (pos:Nat) {a:Option Addr} (ac:Nat) {b:Option Addr} (bc:Nat) {e:Option Addr} (ec:Nat)
 (h1:At we (RE pl we) h a args) (h2:At ws (RS pl we ws) h b body) (h3:At ws (RS pl we ws) h e els):
 RS pl we ws h (.mk k nm args body els pos) ([vI k,vS nm,vL a args.length ac,vL b body.length bc,vL e els.length ec]++pl pos):=RS_iff.2 ⟨a,ac,b,bc,e,ec,rfl,h1,h2,h3⟩
def pWord (k:Nat) (ts:List Tok) (d:Int):R S:=bindR (takeT [59] ts.tail d) fun _ ts' d=> .ok (.mk k [] [] [] [] (hd ts).pos,ts',d)
theorem word_tri (k:Nat) {ts:List Tok} {d:Int} {h:PHeap} (hP:POk K s h p ts d) (hk:(hd ts).kind≠0):Tri Tryz.prog 41 [vP p 0,vI k] h (PSt K s p h (pWord k ts d)):=by
 refine T41 ?_
 unfold R41
 refine Tri.mono (begin_tri hP hk k) ?_
 rintro _ h1 ⟨rfl,hc1,hP1⟩
 refine ⟨_,_,_,_,_,_,_,_,_,_,_,_,_,rfl,?_⟩
 refine Tri.mono (take_tri (r:=(.ok ((),ts.tail,d):R Unit)) hP1 [59]) ?_
 rintro _ h2 ⟨rfl,hc2,hP2⟩
 refine ⟨rfl,⟨k,[],none,0,0,none,0,0,none,0,0,_,_⟩,rfl,hc1.away.trans hc2.away,?_⟩
 have hx:PX K s h2 p (takeT [59] ts.tail d) fun _=>True:=PX.unit hP2
 exact hx.map (k:=fun _=>S.mk k [] [] [] [] (hd ts).pos) fun _ _=>RS_mk k [] _ 0 0 0 At.nil At.nil At.nil
theorem word8_tri {ts:List Tok} {d:Int} {h:PHeap} (hP:POk K s h p ts d) (hk:(hd ts).kind≠0):Tri Tryz.prog 40 [vP K.box 0] h (PSt K s p h (pWord 8 ts d)):=by
 refine T40 ?_
 unfold R40
 obtain ⟨⟨_,_,_,_,_,_,_,_,hq⟩,_⟩:=id hP
 refine ⟨p,0,cell_of hq 0,?_⟩
 refine Tri.mono (word_tri 8 hP hk) ?_
 rintro _ h1 hE
 have hE':=hE
 obtain ⟨c,rfl,_⟩:=hE
 exact ⟨_,_,_,_,_,_,_,_,_,_,_,_,_,rfl,hE'⟩
theorem word9_tri {ts:List Tok} {d:Int} {h:PHeap} (hP:POk K s h p ts d) (hk:(hd ts).kind≠0):Tri Tryz.prog 42 [vP K.box 0] h (PSt K s p h (pWord 9 ts d)):=by
 refine T42 ?_
 unfold R42
 obtain ⟨⟨_,_,_,_,_,_,_,_,hq⟩,_⟩:=id hP
 refine ⟨p,0,cell_of hq 0,?_⟩
 refine Tri.mono (word_tri 9 hP hk) ?_
 rintro _ h1 hE
 have hE':=hE
 obtain ⟨c,rfl,_⟩:=hE
 exact ⟨_,_,_,_,_,_,_,_,_,_,_,_,_,rfl,hE'⟩
end
end Go.Proofs.D
namespace Go.Proofs.D
open Go Go.Den Go.Sx
set_option maxRecDepth 100000
attribute [local irreducible] IntKind.wrap Tri
section
variable {K : PK} {s : Bytes} {p : Nat}
def pDecl (f:Nat) (ts:List Tok) (d:Int):R S:=bindR (takeK 1 ts.tail d) fun t ts' d=>
 if isT ts' [61] then bindR (takeT [61] ts' d) fun _ ts' d=>bindR (pBin f 1 ts' d) fun e ts' d=>bindR (takeT [59] ts' d) fun _ ts' d=> .ok (.mk 1 t.text [e] [] [] (hd ts).pos,ts',d)
 else bindR (takeT [59] ts' d) fun _ ts' d=> .ok (.mk 1 t.text [] [] [] (hd ts).pos,ts',d)
def pWhile (f:Nat) (ts:List Tok) (d:Int):R S:=bindR (pCond f ts.tail d) fun e ts' d=>bindR (pBlock f ts' d) fun b ts' d=> .ok (.mk 6 [] [e] b [] (hd ts).pos,ts',d)
def pRet (f:Nat) (ts:List Tok) (d:Int):R S:=
 if isT ts.tail [59] then bindR (takeT [59] ts.tail d) fun _ ts' d=> .ok (.mk 7 [] [] [] [] (hd ts).pos,ts',d)
 else bindR (pBin f 1 ts.tail d) fun e ts' d=>bindR (takeT [59] ts' d) fun _ ts' d=> .ok (.mk 7 [] [e] [] [] (hd ts).pos,ts',d)
theorem decl_tri {f:Nat} (hf:f<=5000000) {ts:List Tok} {d:Int} {h:PHeap} (hP:POk K s h p ts d) (hk:(hd ts).kind≠0) (hn:NF (pDecl f ts d)):Tri Tryz.prog 36 [vP p 0] h (PSt K s p h (pDecl f ts d)):=by
 refine T36 ?_
 unfold R36
 have hp0:h p≠none:=PS.mem (r:=(.ok ((),ts,d):R Unit)) hP
 refine Tri.mono (begin_tri hP hk 1) ?_
 rintro _ h1 ⟨rfl,hc1,hP1⟩
 refine ⟨_,_,_,_,_,_,_,_,_,_,_,_,_,rfl,?_⟩
 refine Tri.mono (takeKind_tri (r:=(.ok ((),ts.tail,d):R Unit)) hP1 1 (by decide)) ?_
 rintro _ h2 ⟨t,rfl,hc2,hx2⟩
 refine ⟨_,_,_,_,_,_,rfl,?_⟩
 rw [bindR_ok] at hx2
 unfold pDecl at hn ⊢
 generalize takeK 1 ts.tail d=r2 at *
 refine Tri.mono (accept_tri hx2.ps [61]) ?_
 rintro _ h3 ⟨rfl,hc3,hP3⟩
 have hA3:Away p h h3:=(hc1.away.trans hc2.away).trans hc3.away
 refine ⟨_,rfl,br_split (fun e=>?_) (fun e=>?_)⟩
 . obtain ⟨x,ts2,d2,rfl,hT,hac⟩:=accB_true e
   rw [hac] at hP3
   obtain ⟨_,rfl⟩:=hx2
   have he:(bindR (.ok (x,ts2,d2):R Tok) fun t ts' d=>
    if isT ts' [61] then bindR (takeT [61] ts' d) fun _ ts' d=>bindR (pBin f 1 ts' d) fun e ts' d=>bindR (takeT [59] ts' d) fun _ ts' d=>(.ok (.mk 1 t.text [e] [] [] (hd ts).pos,ts',d):R S)
    else bindR (takeT [59] ts' d) fun _ ts' d=> .ok (.mk 1 t.text [] [] [] (hd ts).pos,ts',d))=
    mapR (fun e=> .mk 1 x.text [e] [] [] (hd ts).pos) (thenR (bindR (takeT [61] ts2 d2) fun _ ts d=>pBin f 1 ts d) fun ts d=>takeT [59] ts d):=by
     rw [bindR_ok,if_pos hT];simp only [mapR,thenR,bindR_bind,bindR_ok]
   rw [he] at hn ⊢
   refine Tri.mono (expr_tri (xok f hf) _ h3 hP3 hn.map.then.bind) ?_
   rintro _ h4 ⟨c,rfl,hA4,hx4⟩
   refine ⟨_,_,_,_,_,_,_,_,_,_,rfl,?_⟩
   intro b hb h5 hh
   refine Tri.mono (take_tri (hx4.ps.ext (Put.ext hh hb)) [59]) ?_
   rintro _ h6 ⟨rfl,hc6,hP6⟩
   have hb0:h b=none:=(hA3.trans hA4).dom hx4.ps.mem b hb
   have hbp:b≠p:=fun e=>by subst e;exact hp0 hb0
   have hA46:Away p h4 h6:=(Put.ext hh hb).away.trans hc6.away
   have hbk:only (New h) h6 b=some (.cells ⟨c.l⟩ 48 (0,0)):=only_some.2 ⟨hb0,(hc6 b hbp).trans (Put.at hh)⟩
   have hx6:=hx4.then (rel':=fun e=>RE (plP s) 8 (only (New h) h6) e c.l) hP6 fun e he=>he.ext ((only_new (hA3.dom hP3.mem)).trans (only_away hp0 hA46))
   exact ⟨rfl,⟨1,x.text,ad b 0,1,1,none,0,0,none,0,0,_,_⟩,rfl,(hA3.trans hA4).trans hA46,hx6.map fun e he=>RS_mk 1 _ _ 1 0 0 (At.one hbk he) At.nil At.nil⟩
 . obtain ⟨hnt,hac⟩:=accB_false rfl e
   rw [hac] at hP3
   refine Tri.mono (take_tri hP3 [59]) ?_
   rintro _ h4 ⟨rfl,hc4,hP4⟩
   have hP4':PS K s h4 p (bindR r2 fun _ ts d=>takeT [59] ts d):=by
    simp only [mapR,bindR_bind,bindR_ok] at hP4;exact hP4
   have he:(bindR r2 fun t ts' d=>
    if isT ts' [61] then bindR (takeT [61] ts' d) fun _ ts' d=>bindR (pBin f 1 ts' d) fun e ts' d=>bindR (takeT [59] ts' d) fun _ ts' d=>(.ok (.mk 1 t.text [e] [] [] (hd ts).pos,ts',d):R S)
    else bindR (takeT [59] ts' d) fun _ ts' d=> .ok (.mk 1 t.text [] [] [] (hd ts).pos,ts',d))=mapR (fun t=> .mk 1 t.text [] [] [] (hd ts).pos) (thenR r2 fun ts d=>takeT [59] ts d):=by
    match r2,hnt with
    | .error x,_=>rfl
    | .ok (x,ts2,d2),hnt=>rw [bindR_ok,if_neg (by rw [show isT ts2 [61]=false from hnt];decide)];simp only [mapR,thenR,bindR_bind,bindR_ok]
   rw [he]
   refine ⟨rfl,⟨1,t.text,none,0,0,none,0,0,none,0,0,_,_⟩,rfl,hA3.trans hc4.away,?_⟩
   refine (hx2.then hP4' fun _ h=>h).map fun x hx=>?_
   subst hx
   exact RS_mk 1 _ _ 0 0 0 At.nil At.nil At.nil
theorem ret_tri {f:Nat} (hf:f<=5000000) {ts:List Tok} {d:Int} {h:PHeap} (hP:POk K s h p ts d) (hk:(hd ts).kind≠0) (hn:NF (pRet f ts d)):Tri Tryz.prog 39 [vP p 0] h (PSt K s p h (pRet f ts d)):=by
 refine T39 ?_
 unfold R39
 have hp0:h p≠none:=PS.mem (r:=(.ok ((),ts,d):R Unit)) hP
 refine Tri.mono (begin_tri hP hk 7) ?_
 rintro _ h1 ⟨rfl,hc1,hP1⟩
 refine ⟨_,_,_,_,_,_,_,_,_,_,_,_,_,rfl,?_⟩
 refine Tri.mono (is_tri (r:=(.ok ((),ts.tail,d):R Unit)) hP1 [59]) ?_
 rintro _ h1 ⟨rfl,rfl⟩
 unfold pRet at hn ⊢
 refine ⟨_,rfl,br_split (fun e=>?_) (fun e=>?_)⟩
 . have e:isT ts.tail [59]=false:=by simpa [isTr] using e
   rw [if_neg (by rw [e];decide)] at hn ⊢
   have he:(bindR (pBin f 1 ts.tail d) fun e ts' d=>bindR (takeT [59] ts' d) fun _ ts' d=>(.ok (.mk 7 [] [e] [] [] (hd ts).pos,ts',d):R S))=
    mapR (fun e=> .mk 7 [] [e] [] [] (hd ts).pos) (thenR (pBin f 1 ts.tail d) fun ts d=>takeT [59] ts d):=by simp only [mapR,thenR,bindR_bind,bindR_ok]
   rw [he] at hn ⊢
   refine Tri.mono (expr_tri (xok f hf) (.ok ((),ts.tail,d):R Unit) h1 hP1 hn.map.then.bind) ?_
   rintro _ h4 ⟨c,rfl,hA4,hx4⟩
   refine ⟨_,_,_,_,_,_,_,_,_,_,rfl,?_⟩
   intro b hb h5 hh
   refine Tri.mono (take_tri (hx4.ps.ext (Put.ext hh hb)) [59]) ?_
   rintro _ h6 ⟨rfl,hc6,hP6⟩
   have hb0:h b=none:=(hc1.away.trans hA4).dom hx4.ps.mem b hb
   have hbp:b≠p:=fun e=>by subst e;exact hp0 hb0
   have hA46:Away p h4 h6:=(Put.ext hh hb).away.trans hc6.away
   have hbk:only (New h) h6 b=some (.cells ⟨c.l⟩ 48 (0,0)):=only_some.2 ⟨hb0,(hc6 b hbp).trans (Put.at hh)⟩
   have hx6:=hx4.then (rel':=fun e=>RE (plP s) 8 (only (New h) h6) e c.l) hP6 fun e he=>he.ext ((only_new (hc1.away.dom (PS.mem (r:=(.ok ((),ts.tail,d):R Unit)) hP1))).trans (only_away hp0 hA46))
   exact ⟨rfl,⟨7,[],ad b 0,1,1,none,0,0,none,0,0,_,_⟩,rfl,(hc1.away.trans hA4).trans hA46,hx6.map fun e he=>RS_mk 7 _ _ 1 0 0 (At.one hbk he) At.nil At.nil⟩
 . have e:isT ts.tail [59]=true:=by simpa [isTr] using e
   rw [if_pos e]
   refine Tri.mono (take_tri (r:=(.ok ((),ts.tail,d):R Unit)) hP1 [59]) ?_
   rintro _ h2 ⟨rfl,hc2,hP2⟩
   refine ⟨rfl,⟨7,[],none,0,0,none,0,0,none,0,0,_,_⟩,rfl,hc1.away.trans hc2.away,?_⟩
   have hx:PX K s h2 p (takeT [59] ts.tail d) fun _=>True:=PX.unit hP2
   exact hx.map (k:=fun _=>S.mk 7 [] [] [] [] (hd ts).pos) fun _ _=>RS_mk 7 [] _ 0 0 0 At.nil At.nil At.nil
theorem accT {ts:List Tok} {d:Int} {t:Bytes} (ho:opens t=true) (hT:isT ts t=true):(accB (.ok ((),ts,d):R Unit) t=false/\d=32/\accR (.ok ((),ts,d):R Unit) t= .error (9,(hd ts).pos))∨(accB (.ok ((),ts,d):R Unit) t=true/\accR (.ok ((),ts,d):R Unit) t=takeT t ts d):=by
 by_cases hd:d=32
 . left;simp [accB,accR,hT,ho,hd,takeT]
 . right;simp [accB,accR,hT,ho,hd]
theorem pNamed_succ (f:Nat) (ts:List Tok) (d:Int):pNamed (f+1) ts d=if isT ts.tail [61] then bindR (takeT [61] ts.tail d) fun _ ts' d=>bindR (pBin f 1 ts' d) fun e ts' d=>bindR (takeT [59] ts' d) fun _ ts' d=> .ok (.mk 2 (hd ts).text [e] [] [] (hd ts).pos,ts',d)
 else if isT ts.tail [91] then bindR (takeT [91] ts.tail d) fun _ ts' d=>bindR (pBin f 1 ts' d) fun i ts' d=>bindR (takeT [93] ts' d) fun _ ts' d=>bindR (takeT [61] ts' d) fun _ ts' d=>
  bindR (pBin f 1 ts' d) fun e ts' d=>bindR (takeT [59] ts' d) fun _ ts' d=> .ok (.mk 3 (hd ts).text [i,e] [] [] (hd ts).pos,ts',d)
 else bindR (pCall f (hd ts) ts.tail d) fun e ts' d=>bindR (takeT [59] ts' d) fun _ ts' d=> .ok (.mk 4 [] [e] [] [] (hd ts).pos,ts',d):=by
 conv=>lhs;unfold pNamed
theorem named_ok {f:Nat} (hf:f<=5000000) {ts:List Tok} {d:Int} {h:PHeap} (hP:POk K s h p ts d) (hk1:isK ts 1=true) (hn:NF (pNamed (f+1) ts d)):Tri Tryz.prog 173 [vP p 0] h (PSt K s p h (pNamed (f+1) ts d)):=by
 refine T173 ?_
 unfold R173
 have hk:(hd ts).kind≠0:=by simp [isK] at hk1;omega
 have hp0:h p≠none:=PS.mem (r:=(.ok ((),ts,d):R Unit)) hP
 obtain ⟨⟨o,c',l',k',hp,hT,hc,_⟩,hI,hend,hlo,hhi,hl2,hwf⟩:=id hP
 refine ⟨_,_,_,PB_cell hp 0,K.tok,o,rfl,⟨Int.le_refl _,len_pos hend⟩,_,_,_,_,_,_,POk.row hT hend,?_⟩
 refine Tri.mono (begin_tri hP hk 2) ?_
 rintro _ h1 ⟨rfl,hc1,hP1⟩
 refine ⟨_,_,_,_,_,_,_,_,_,_,_,_,_,rfl,?_⟩
 refine Tri.mono (accept_tri (r:=(.ok ((),ts.tail,d):R Unit)) hP1 [61]) ?_
 rintro _ h2 ⟨rfl,hc2,hP2⟩
 have hA2:Away p h h2:=hc1.away.trans hc2.away
 rw [pNamed_succ] at hn ⊢
 refine ⟨_,rfl,br_split (fun e=>?_) (fun e=>?_)⟩
 . obtain ⟨x,ts2,d2,heq,hT,hac⟩:=accB_true e
   cases heq
   rw [hac] at hP2
   rw [if_pos hT] at hn ⊢
   have he:(bindR (takeT [61] ts.tail d) fun _ ts' d=>bindR (pBin f 1 ts' d) fun e ts' d=>bindR (takeT [59] ts' d) fun _ ts' d=>(.ok (.mk 2 (hd ts).text [e] [] [] (hd ts).pos,ts',d):R S))=
    mapR (fun e=> .mk 2 (hd ts).text [e] [] [] (hd ts).pos) (thenR (bindR (takeT [61] ts.tail d) fun _ ts d=>pBin f 1 ts d) fun ts d=>takeT [59] ts d):=by simp only [mapR,thenR,bindR_bind,bindR_ok]
   rw [he] at hn ⊢
   refine Tri.mono (expr_tri (xok f hf) _ h2 hP2 hn.map.then.bind) ?_
   rintro _ h4 ⟨c,rfl,hA4,hx4⟩
   refine ⟨_,_,_,_,_,_,_,_,_,_,rfl,?_⟩
   intro b hb h5 hh
   refine Tri.mono (take_tri (hx4.ps.ext (Put.ext hh hb)) [59]) ?_
   rintro _ h6 ⟨rfl,hc6,hP6⟩
   have hb0:h b=none:=(hA2.trans hA4).dom hx4.ps.mem b hb
   have hbp:b≠p:=fun e=>by subst e;exact hp0 hb0
   have hA46:Away p h4 h6:=(Put.ext hh hb).away.trans hc6.away
   have hbk:only (New h) h6 b=some (.cells ⟨c.l⟩ 48 (0,0)):=only_some.2 ⟨hb0,(hc6 b hbp).trans (Put.at hh)⟩
   have hx6:=hx4.then (rel':=fun e=>RE (plP s) 8 (only (New h) h6) e c.l) hP6 fun e he=>he.ext ((only_new (hA2.dom hP2.mem)).trans (only_away hp0 hA46))
   exact ⟨rfl,⟨2,(hd ts).text,ad b 0,1,1,none,0,0,none,0,0,_,_⟩,rfl,(hA2.trans hA4).trans hA46,hx6.map fun e he=>RS_mk 2 _ _ 1 0 0 (At.one hbk he) At.nil At.nil⟩
 obtain ⟨hnt,hac⟩:=accB_false rfl e
 have hnt:isT ts.tail [61]=false:=hnt
 rw [hac] at hP2
 have hP2:POk K s h2 p ts.tail d:=hP2
 rw [if_neg (by rw [hnt];decide)] at hn ⊢
 refine Tri.mono (accept_tri (r:=(.ok ((),ts.tail,d):R Unit)) hP2 [91]) ?_
 rintro _ h3 ⟨rfl,hc3,hP3⟩
 have hA3:Away p h h3:=hA2.trans hc3.away
 refine ⟨_,rfl,br_split (fun e2=>?_) (fun e2=>?_)⟩
 . obtain ⟨x,ts2,d2,heq,hT,hac⟩:=accB_true e2
   cases heq
   rw [hac] at hP3
   rw [if_pos hT] at hn ⊢
   have he:(bindR (takeT [91] ts.tail d) fun _ ts' d=>bindR (pBin f 1 ts' d) fun i ts' d=>bindR (takeT [93] ts' d) fun _ ts' d=>bindR (takeT [61] ts' d) fun _ ts' d=>
    bindR (pBin f 1 ts' d) fun e ts' d=>bindR (takeT [59] ts' d) fun _ ts' d=>(.ok (.mk 3 (hd ts).text [i,e] [] [] (hd ts).pos,ts',d):R S))=
    mapR (fun ie:E×E=> .mk 3 (hd ts).text [ie.1,ie.2] [] [] (hd ts).pos) (thenR (pairR (thenR (thenR (bindR (takeT [91] ts.tail d) fun _ ts d=>pBin f 1 ts d) fun ts d=>takeT [93] ts d) fun ts d=>takeT [61] ts d) fun ts d=>pBin f 1 ts d) fun ts d=>takeT [59] ts d):=by
     simp only [mapR,thenR,pairR,bindR_bind,bindR_ok]
   rw [he] at hn ⊢
   have n1:=hn.map.then.bind
   have n2:=n1.bind
   refine ⟨rfl,?_⟩
   refine Tri.mono (expr_tri (xok f hf) _ h3 hP3 n2.then.bind.bind) ?_
   rintro _ h4 ⟨c,rfl,hA4,hx4⟩
   refine ⟨_,_,_,_,_,_,_,_,_,_,rfl,?_⟩
   refine Tri.mono (take_tri hx4.ps [93]) ?_
   rintro _ h5 ⟨rfl,hc5,hP5⟩
   refine ⟨rfl,?_⟩
   have hx5:=hx4.then (rel':=fun e=>RE (plP s) 8 (only (New h) h5) e c.l) hP5 fun e he=>he.ext ((only_new (hA3.dom hP3.mem)).trans (only_away hp0 hc5.away))
   refine Tri.mono (take_tri hx5.ps [61]) ?_
   rintro _ h6 ⟨rfl,hc6,hP6⟩
   refine ⟨rfl,?_⟩
   have hx6:=hx5.then (rel':=fun e=>RE (plP s) 8 (only (New h) h6) e c.l) hP6 fun e he=>he.ext (only_away hp0 hc6.away)
   have hA6:Away p h h6:=((hA3.trans hA4).trans hc5.away).trans hc6.away
   refine Tri.mono (expr_tri (xok f hf) _ h6 hx6.ps n1.pair) ?_
   rintro _ h7 ⟨c2,rfl,hA7,hx7⟩
   refine ⟨_,_,_,_,_,_,_,_,_,_,rfl,rfl,?_⟩
   intro b hb h8 hh
   have hx8:=(hx6.pair (rel3:=fun ie=>RE (plP s) 8 (only (New h) h7) ie.1 c.l/\RE (plP s) 8 (only (New h) h7) ie.2 c2.l) hx7 fun x y hx hy=>⟨hx.ext (only_away hp0 hA7),hy.ext (only_new (hA6.dom hx6.ps.mem))⟩)
   refine Tri.mono (take_tri (hx8.ps.ext (Put.ext hh hb)) [59]) ?_
   rintro _ h9 ⟨rfl,hc9,hP9⟩
   have hb0:h b=none:=(hA6.trans hA7).dom hx7.ps.mem b hb
   have hbp:b≠p:=fun e=>by subst e;exact hp0 hb0
   have hA79:Away p h7 h9:=(Put.ext hh hb).away.trans hc9.away
   have hbk:only (New h) h9 b=some (.cells ⟨c.l++c2.l⟩ 48 (0,0)):=only_some.2 ⟨hb0,(hc9 b hbp).trans (Put.at hh)⟩
   have hx9:=hx8.then (rel':=fun ie=>RE (plP s) 8 (only (New h) h9) ie.1 c.l/\RE (plP s) 8 (only (New h) h9) ie.2 c2.l) hP9 fun ie hie=>⟨hie.1.ext (only_away hp0 hA79),hie.2.ext (only_away hp0 hA79)⟩
   exact ⟨rfl,⟨3,(hd ts).text,ad b 0,2,2,none,0,0,none,0,0,_,_⟩,rfl,(hA6.trans hA7).trans hA79,hx9.map fun ie hie=>RS_mk 3 _ _ 2 0 0 (At.two rfl hbk hie.1 hie.2) At.nil At.nil⟩
 . generalize hr3:accR (.ok ((),ts.tail,d):R Unit) [91]=r3 at *
   have he:(if isT ts.tail [91] then bindR (takeT [91] ts.tail d) fun _ ts' d=>bindR (pBin f 1 ts' d) fun i ts' d=>bindR (takeT [93] ts' d) fun _ ts' d=>bindR (takeT [61] ts' d) fun _ ts' d=>
    bindR (pBin f 1 ts' d) fun e ts' d=>bindR (takeT [59] ts' d) fun _ ts' d=>(.ok (.mk 3 (hd ts).text [i,e] [] [] (hd ts).pos,ts',d):R S)
    else bindR (pCall f (hd ts) ts.tail d) fun e ts' d=>bindR (takeT [59] ts' d) fun _ ts' d=> .ok (.mk 4 [] [e] [] [] (hd ts).pos,ts',d))=
    mapR (fun e=> .mk 4 [] [e] [] [] (hd ts).pos) (thenR (bindR r3 fun _ ts' d=>pCall f (hd ts) ts' d) fun ts d=>takeT [59] ts d):=by
     subst hr3
     cases h91:isT ts.tail [91] with
     | true=>
       rcases accT rfl h91 (d:=d) with ⟨_,h32,hac⟩ | ⟨h1,_⟩
       . rw [hac,if_pos rfl];simp [takeT,h91,opens,h32,bindR_err,mapR,thenR]
       . rw [h1] at e2;cases e2
     | false=>
       have hac:=(accB_false rfl e:_/\_)
       have:accR (.ok ((),ts.tail,d):R Unit) [91]= .ok ((),ts.tail,d):=by simp [accR,h91]
       rw [this,if_neg (by decide)];simp only [mapR,thenR,bindR_bind,bindR_ok]
   rw [he] at hn ⊢
   refine Tri.mono ((xok f hf).call (hd ts) r3 h3 hP3 hn.map.then.bind) ?_
   rintro _ h4 ⟨c,rfl,hA4,hx4⟩
   refine ⟨_,_,_,_,_,_,_,_,_,_,rfl,?_⟩
   intro b hb h5 hh
   refine Tri.mono (take_tri (hx4.ps.ext (Put.ext hh hb)) [59]) ?_
   rintro _ h6 ⟨rfl,hc6,hP6⟩
   have hb0:h b=none:=(hA3.trans hA4).dom hx4.ps.mem b hb
   have hbp:b≠p:=fun e=>by subst e;exact hp0 hb0
   have hA46:Away p h4 h6:=(Put.ext hh hb).away.trans hc6.away
   have hbk:only (New h) h6 b=some (.cells ⟨c.l⟩ 48 (0,0)):=only_some.2 ⟨hb0,(hc6 b hbp).trans (Put.at hh)⟩
   have hx6:=hx4.then (rel':=fun e=>RE (plP s) 8 (only (New h) h6) e c.l) hP6 fun e he=>he.ext ((only_new (hA3.dom hP3.mem)).trans (only_away hp0 hA46))
   exact ⟨rfl,⟨4,[],ad b 0,1,1,none,0,0,none,0,0,_,_⟩,rfl,(hA3.trans hA4).trans hA46,hx6.map fun e he=>RS_mk 4 _ _ 1 0 0 (At.one hbk he) At.nil At.nil⟩
structure SOk (K:PK) (s:Bytes) (p:Nat) (f:Nat):Prop where
 blk:∀ {α:Type} (r:R α) (h:PHeap),PS K s h p r->NF (bindR r fun _ ts d=>pBlock f ts d)->Tri Tryz.prog 94 [vP p 0] h (PBk K s p h (bindR r fun _ ts d=>pBlock f ts d))
 stm:∀ {α:Type} (r:R α) (h:PHeap),PS K s h p r->NF (bindR r fun _ ts d=>pStmt f ts d)->Tri Tryz.prog 141 [vP p 0] h (PSt K s p h (bindR r fun _ ts d=>pStmt f ts d))
 iff:∀ (ts:List Tok) (d:Int) (h:PHeap),POk K s h p ts d->(hd ts).kind≠0->NF (pIf f ts d)->Tri Tryz.prog 37 [vP p 0] h (PSt K s p h (pIf f ts d))
theorem while_tri {f:Nat} (hf:f<=5000000) (X:SOk K s p f) {ts:List Tok} {d:Int} {h:PHeap} (hP:POk K s h p ts d) (hk:(hd ts).kind≠0) (hn:NF (pWhile f ts d)):Tri Tryz.prog 38 [vP p 0] h (PSt K s p h (pWhile f ts d)):=by
 refine T38 ?_
 unfold R38
 have hp0:h p≠none:=PS.mem (r:=(.ok ((),ts,d):R Unit)) hP
 have he:pWhile f ts d=mapR (fun eb:E×List S=> .mk 6 [] [eb.1] eb.2 [] (hd ts).pos) (pairR (pCond f ts.tail d) fun ts d=>pBlock f ts d):=by
  simp only [pWhile,mapR,pairR,bindR_bind,bindR_ok]
 rw [he] at hn ⊢
 refine Tri.mono (begin_tri hP hk 6) ?_
 rintro _ h1 ⟨rfl,hc1,hP1⟩
 refine ⟨_,_,_,_,_,_,_,_,_,_,_,_,_,rfl,?_⟩
 refine Tri.mono (cond_tri hf (.ok ((),ts.tail,d):R Unit) h1 hP1 hn.map.pair.bind) ?_
 rintro _ h2 ⟨a,c,rfl,hA2,hx2⟩
 refine ⟨_,_,_,rfl,?_⟩
 rw [bindR_ok] at hx2
 refine Tri.mono (X.blk _ h2 hx2.ps hn.map.pair) ?_
 rintro _ h3 ⟨a3,n3,c3,rfl,hA3,hx3⟩
 refine ⟨_,_,_,rfl,⟨6,[],a,1,c,a3,n3,c3,none,0,0,_,_⟩,rfl,(hc1.away.trans hA2).trans hA3,?_⟩
 have hA12:=hc1.away.trans hA2
 have hx:=hx2.pair (rel3:=fun eb=>At 8 (RE (plP s) 8) (only (New h) h3) a [eb.1]/\n3=eb.2.length/\At 7 (RS (plP s) 8 7) (only (New h) h3) a3 eb.2) hx3 fun x y hx hy=>
  ⟨hx.ext (RE_mono _ _) ((only_new (hc1.away.dom (PS.mem (r:=(.ok ((),ts.tail,d):R Unit)) hP1))).trans (only_away hp0 hA3)),hy.1,hy.2.ext (RS_mono _ _ _) (only_new (hA12.dom hx2.ps.mem))⟩
 refine hx.map fun eb hh=>?_
 obtain ⟨g1,g2,g3⟩:=hh
 rw [g2]
 exact RS_mk 6 _ _ c c3 0 g1 g3 At.nil
theorem pIf_succ (f:Nat) (ts:List Tok) (d:Int):pIf (f+1) ts d=bindR (pCond f ts.tail d) fun e ts' d=>bindR (pBlock f ts' d) fun b ts' d=>
 if isT ts' [101,108,115,101] then
  if isT ts'.tail [105,102] then bindR (pIf f ts'.tail d) fun s ts' d=> .ok (.mk 5 [] [e] b [s] (hd ts).pos,ts',d)
  else bindR (pBlock f ts'.tail d) fun b' ts' d=> .ok (.mk 5 [] [e] b b' (hd ts).pos,ts',d)
 else .ok (.mk 5 [] [e] b [] (hd ts).pos,ts',d):=by
 conv=>lhs;unfold pIf
theorem takeT_else {ts:List Tok} {d:Int} (h:isT ts [101,108,115,101]=true):takeT [101,108,115,101] ts d= .ok ((),ts.tail,d):=by
 simp [takeT,h,opens,closes]
theorem if_ok {f:Nat} (hf:f<=5000000) (X:SOk K s p f) (ts:List Tok) (d:Int) (h:PHeap) (hP:POk K s h p ts d) (hk:(hd ts).kind≠0) (hn:NF (pIf (f+1) ts d)):Tri Tryz.prog 37 [vP p 0] h (PSt K s p h (pIf (f+1) ts d)):=by
 refine T37 ?_
 unfold R37
 have hp0:h p≠none:=PS.mem (r:=(.ok ((),ts,d):R Unit)) hP
 have he:pIf (f+1) ts d=bindR (pairR (pCond f ts.tail d) fun ts d=>pBlock f ts d) fun eb ts' d=>
  if isT ts' [101,108,115,101] then
   if isT ts'.tail [105,102] then bindR (pIf f ts'.tail d) fun s ts' d=> .ok (.mk 5 [] [eb.1] eb.2 [s] (hd ts).pos,ts',d)
   else bindR (pBlock f ts'.tail d) fun b' ts' d=> .ok (.mk 5 [] [eb.1] eb.2 b' (hd ts).pos,ts',d)
  else .ok (.mk 5 [] [eb.1] eb.2 [] (hd ts).pos,ts',d):=by
  rw [pIf_succ];simp only [pairR,bindR_bind,bindR_ok]
 rw [he] at hn ⊢
 refine Tri.mono (begin_tri hP hk 5) ?_
 rintro _ h1 ⟨rfl,hc1,hP1⟩
 refine ⟨_,_,_,_,_,_,_,_,_,_,_,_,_,rfl,?_⟩
 refine Tri.mono (cond_tri hf (.ok ((),ts.tail,d):R Unit) h1 hP1 hn.bind.pair.bind) ?_
 rintro _ h2 ⟨a,c,rfl,hA2,hx2⟩
 refine ⟨_,_,_,rfl,?_⟩
 rw [bindR_ok] at hx2
 refine Tri.mono (X.blk _ h2 hx2.ps hn.bind.pair) ?_
 rintro _ h3 ⟨a3,n3,c3,rfl,hA3,hx3⟩
 refine ⟨_,_,_,rfl,?_⟩
 have hA12:=hc1.away.trans hA2
 have hA03:=hA12.trans hA3
 have hx:=hx2.pair (rel3:=fun eb=>At 8 (RE (plP s) 8) (only (New h) h3) a [eb.1]/\n3=eb.2.length/\At 7 (RS (plP s) 8 7) (only (New h) h3) a3 eb.2) hx3 fun x y hx hy=>
  ⟨hx.ext (RE_mono _ _) ((only_new (hc1.away.dom (PS.mem (r:=(.ok ((),ts.tail,d):R Unit)) hP1))).trans (only_away hp0 hA3)),hy.1,hy.2.ext (RS_mono _ _ _) (only_new (hA12.dom hx2.ps.mem))⟩
 generalize (pairR (pCond f ts.tail d) fun ts d=>pBlock f ts d)=r3 at *
 refine Tri.mono (accept_tri hx.ps [101,108,115,101]) ?_
 rintro _ h4 ⟨rfl,hc4,hP4⟩
 refine ⟨_,rfl,br_split (fun e=>?_) (fun e=>?_)⟩
 . obtain ⟨⟨e1,b1⟩,ts4,d4,rfl,hT,hac⟩:=accB_true e
   rw [hac,takeT_else hT] at hP4
   rw [bindR_ok,if_pos hT] at hn ⊢
   obtain ⟨_,g1,g2,g3⟩:=hx
   have hA04:=hA03.trans hc4.away
   refine Tri.mono (is_tri (r:=(.ok ((),ts4.tail,d4):R Unit)) hP4 [105,102]) ?_
   rintro _ h4 ⟨rfl,rfl⟩
   refine ⟨_,rfl,br_split (fun e2=>?_) (fun e2=>?_)⟩
   . have e2:isT ts4.tail [105,102]=true:=e2
     rw [if_pos e2] at hn ⊢
     refine Tri.mono (X.iff ts4.tail d4 h4 hP4 (isT_kind e2) hn.bind) ?_
     rintro _ h5 ⟨c5,rfl,hA5,hx5⟩
     refine ⟨_,_,_,_,_,_,_,_,_,_,_,_,_,rfl,?_⟩
     intro b hb h6 hh
     have hb0:h b=none:=(hA04.trans hA5).dom hx5.ps.mem b hb
     have hA46:Away p h4 h6:=hA5.trans (Put.ext hh hb).away
     have hbk:only (New h) h6 b=some (.cells ⟨c5.l⟩ 56 (0,0)):=only_some.2 ⟨hb0,Put.at hh⟩
     have hx6:=hx5.ext (rel':=fun x=>RS (plP s) 8 7 (only (New h) h6) x c5.l) (Put.ext hh hb) fun x hx=>hx.ext ((only_new (hA04.dom (PS.mem (r:=(.ok ((),ts4.tail,d4):R Unit)) hP4))).trans (only_away hp0 (Put.ext hh hb).away))
     refine ⟨⟨5,[],a,1,c,a3,n3,c3,ad b 0,1,1,_,_⟩,rfl,hA04.trans hA46,hx6.map fun x hx=>?_⟩
     rw [g2]
     have hX:=only_away hp0 (hc4.away.trans hA46)
     exact RS_mk 5 _ _ c c3 1 (g1.ext (RE_mono _ _) hX) (g3.ext (RS_mono _ _ _) hX) (At.one hbk hx)
   . have e2:isT ts4.tail [105,102]=false:=e2
     rw [if_neg (by rw [e2];decide)] at hn ⊢
     refine Tri.mono (X.blk (.ok ((),ts4.tail,d4):R Unit) h4 hP4 hn.bind) ?_
     rintro _ h5 ⟨a5,n5,c5,rfl,hA5,hx5⟩
     refine ⟨_,_,_,rfl,⟨5,[],a,1,c,a3,n3,c3,a5,n5,c5,_,_⟩,rfl,hA04.trans hA5,hx5.map fun x hx=>?_⟩
     rw [g2,hx.1]
     have hX:=only_away hp0 (hc4.away.trans hA5)
     exact RS_mk 5 _ _ c c3 c5 (g1.ext (RE_mono _ _) hX) (g3.ext (RS_mono _ _ _) hX) (hx.2.ext (RS_mono _ _ _) (only_new (hA04.dom (PS.mem (r:=(.ok ((),ts4.tail,d4):R Unit)) hP4))))
 . obtain ⟨hnt,hac⟩:=accB_false rfl e
   rw [hac] at hP4
   have he2:(bindR r3 fun eb ts' d=>
    if isT ts' [101,108,115,101] then
     if isT ts'.tail [105,102] then bindR (pIf f ts'.tail d) fun s ts' d=>(.ok (.mk 5 [] [eb.1] eb.2 [s] (hd ts).pos,ts',d):R S)
     else bindR (pBlock f ts'.tail d) fun b' ts' d=> .ok (.mk 5 [] [eb.1] eb.2 b' (hd ts).pos,ts',d)
    else .ok (.mk 5 [] [eb.1] eb.2 [] (hd ts).pos,ts',d))=mapR (fun eb=> .mk 5 [] [eb.1] eb.2 [] (hd ts).pos) r3:=by
    match r3,hnt with
    | .error x,_=>rfl
    | .ok (x,ts2,d2),hnt=>rw [bindR_ok,if_neg (by rw [show isT ts2 [101,108,115,101]=false from hnt];decide)];rfl
   rw [he2]
   refine ⟨⟨5,[],a,1,c,a3,n3,c3,none,0,0,_,_⟩,rfl,hA03.trans hc4.away,?_⟩
   have hX:=only_away hp0 hc4.away
   have hx4:PX K s h4 p r3 fun eb=>At 8 (RE (plP s) 8) (only (New h) h4) a [eb.1]/\n3=eb.2.length/\At 7 (RS (plP s) 8 7) (only (New h) h4) a3 eb.2:=by
    match r3,hx,hP4 with
    | .error x,_,hP4=>exact hP4
    | .ok (x,ts2,d2),hx,hP4=>exact ⟨hP4,hx.2.1.ext (RE_mono _ _) hX,hx.2.2.1,hx.2.2.2.ext (RS_mono _ _ _) hX⟩
   refine hx4.map fun eb hh=>?_
   rw [hh.2.1]
   exact RS_mk 5 _ _ c c3 0 hh.1 hh.2.2 At.nil
end
end Go.Proofs.D
namespace Go.Proofs.D
open Go Go.Den Go.Sx
set_option maxRecDepth 100000
attribute [local irreducible] IntKind.wrap Tri
section
variable {K : PK} {s : Bytes} {p : Nat}
theorem pStmts_succ (f:Nat) (l:List S) (ts:List Tok) (d:Int):pStmts (f+1) l ts d=if isT ts [125] then bindR (takeT [125] ts d) fun _ ts d=> .ok (l,ts,d) else bindR (pStmt f ts d) fun s ts d=>pStmts f (l++[s]) ts d:=by
 conv=>lhs;unfold pStmts
theorem pBlock_succ (f:Nat) (ts:List Tok) (d:Int):pBlock (f+1) ts d=bindR (takeT [123] ts d) fun _ ts d=>pStmts f [] ts d:=by
 conv=>lhs;unfold pBlock
theorem SC.one (c:SC):allOne c.l=true:=rfl
theorem block_ok {f:Nat} (X:∀ g,g<=f->SOk K s p g) (hf:f<=5000000) {α:Type} (r:R α) (h:PHeap) (hP:PS K s h p r) (hn:NF (bindR r fun _ ts d=>pBlock (f+1) ts d)):Tri Tryz.prog 94 [vP p 0] h (PBk K s p h (bindR r fun _ ts d=>pBlock (f+1) ts d)):=by
 refine T94 ?_
 unfold R94
 have hp0:=hP.mem
 have hI:=hP.isin
 have he:(bindR r fun _ ts d=>pBlock (f+1) ts d)=bindR (bindR r fun _ ts d=>takeT [123] ts d) fun _ ts d=>pStmts f [] ts d:=by
  simp only [bindR_bind,pBlock_succ]
 rw [he] at hn ⊢
 refine Tri.mono (take_tri hP [123]) ?_
 rintro _ h1 ⟨rfl,hc1,hP1⟩
 refine ⟨rfl,?_⟩
 generalize (bindR r fun _ ts d=>takeT [123] ts d)=r1 at *
 generalize hfin:(bindR r1 fun _ ts d=>pStmts f [] ts d)=fin at *
 refine ⟨fun m a n cc h'=>∃ (r':R (List S)) (css:List (List Value)),n+m<=f/\Away p h h'/\LM 56 7 h h' a n cc css/\PX K s h' p r' (fun l=>LR (RS (plP s) 8 7) h h' a css l)/\(bindR r' fun l ts d=>pStmts m l ts d)=fin,
  ⟨f,mapR (fun _=>[]) r1,[],by omega,hc1.away,LM.nil,(PX.unit hP1).map fun _ _=>LR.nil,by rw [←hfin];simp only [mapR,bindR_bind,bindR_ok]⟩,?_⟩
 rintro m a n cc h2 ⟨r',css,hm,hA2,hM2,hx2,hf2⟩
 have done:∀ {h3:PHeap},Chg p h2 h3->PS K s h3 p (bindR r' fun _ ts d=>takeT [125] ts d)->fin=thenR r' (fun ts d=>takeT [125] ts d)->PBk K s p h fin (vL a n cc) h3:=by
  intro h3 hc3 hP3 he3
  rw [he3]
  refine ⟨a,n,cc,rfl,hA2.trans hc3.away,hx2.then hP3 fun l hl=>?_⟩
  exact ⟨by rw [←hM2.len];exact hl.1,(hM2.away hp0 hc3.away).at (RS_mono _ _ _) (hl.away (RS_mono _ _ _) hp0 hc3.away)⟩
 obtain ⟨i,hi,hz⟩:=hx2.ps.err
 refine ⟨i,hi,br_split (fun e=>?_) (fun e=>?_)⟩
 . obtain ⟨l,ts,d,rfl⟩:=okR_true (hz.symm.trans e)
   rw [bindR_ok] at hf2
   refine Tri.mono (is_tri hx2.ps [125]) ?_
   rintro _ h2 ⟨rfl,rfl⟩
   match m,hf2,hm with
   | 0,hf2,hm=>exact absurd hf2.symm hn
   | m+1,hf2,hm=>
     rw [pStmts_succ] at hf2
     refine ⟨_,rfl,br_split (fun e2=>?_) (fun e2=>?_)⟩
     . have e2:isT ts [125]=false:=by simpa [isTr] using e2
       rw [if_neg (by rw [e2];decide)] at hf2
       have hnS:NF (pStmt m ts d):=by rw [←hf2] at hn;exact hn.bind
       refine Tri.mono ((X m (by omega)).stm (.ok ((),ts,d):R Unit) h2 hx2.1 hnS) ?_
       rintro _ h3 ⟨c3,rfl,hA3,hx3⟩
       refine ⟨_,_,_,_,_,_,_,_,_,_,_,_,_,rfl,?_⟩
       intro b hb h4 hh4
       have hA03:=hA2.trans hA3
       have hd3:∀ b,h3 b=none->h b=none:=hA03.dom hx3.ps.mem
       refine Raw.mono (LM.append (h0:=h) (cs:=c3.l) und52 elem56 rfl rfl rfl rfl rfl (hM2.away hp0 hA3) hb hh4 rfl c3.one (by omega) hd3) ?_
       rintro _ h5 ⟨b5,cap5,rfl,hk5,hd5,hn5,hq5,hM5,hR5⟩
       refine ⟨_,_,_,rfl,m,by omega,⟨mapR (fun x=>l++[x]) (pStmt m ts d),_,by omega,fun k o hk ho=>hk5 k o (by rw [ho];exact fun e=>by cases e) (hA03 k o hk ho),hM5,?_,?_⟩,trivial⟩
       . refine (hx3.stay (rel':=fun x=>LR (RS (plP s) 8 7) h h5 (ad b5 0) (css++[c3.l]) (l++[x])) (hI.old hp0 hk5) fun x hx=>?_).map fun x hx=>hx
         exact hR5 (RS_mono _ _ _) (hx2.2.away (RS_mono _ _ _) hp0 hA3) (hx.ext (hM2.new (hA2.dom (PS.mem (r:=(.ok ((),ts,d):R Unit)) hx2.1))))
       . rw [←hf2];simp only [mapR,bindR_bind,bindR_ok]
     . have e2:isT ts [125]=true:=by simpa [isTr] using e2
       rw [if_pos e2] at hf2
       refine Tri.mono (take_tri hx2.ps [125]) ?_
       rintro _ h3 ⟨rfl,hc3,hP3⟩
       exact ⟨rfl,done hc3 hP3 (by rw [←hf2];rfl)⟩
 . obtain ⟨x,rfl⟩:=okR_false (hz.symm.trans e)
   refine Tri.mono (take_tri hx2.ps [125]) ?_
   rintro _ h3 ⟨rfl,hc3,hP3⟩
   exact ⟨rfl,done hc3 hP3 hf2.symm⟩
def smapL (p q:Nat):List (List UInt8×Value×Nat):=[
 ([118,97,114],vF 36 [vP p 0] [],0),
 ([105,102],vF 37 [vP p 0] [],1),
 ([119,104,105,108,101],vF 38 [vP p 0] [],2),
 ([114,101,116,117,114,110],vF 39 [vP p 0] [],3),
 ([98,114,101,97,107],vF 40 [] [vP q 0],4),
 ([99,111,110,116,105,110,117,101],vF 42 [] [vP q 0],5)]
theorem smap_ents (p q:Nat):smap p q=⟨ents (smapL p q)⟩:=rfl
theorem und79:Tryz.prog.underlying 79=some (.map 9 82):=rfl
theorem und9:Tryz.prog.underlying 9=some .string:=rfl
theorem zero82:zeroT Tryz.prog 82=some .nilFunc:=rfl
theorem pStmt_succ (f:Nat) (ts:List Tok) (d:Int):pStmt (f+1) ts d=if isK ts 1 then pNamed f ts d
 else if isT ts [118,97,114] then pDecl f ts d
 else if isT ts [105,102] then pIf f ts d
 else if isT ts [119,104,105,108,101] then pWhile f ts d
 else if isT ts [114,101,116,117,114,110] then pRet f ts d
 else if isT ts [98,114,101,97,107] then pWord 8 ts d
 else if isT ts [99,111,110,116,105,110,117,101] then pWord 9 ts d
 else .error (30,(hd ts).pos):=by
 conv=>lhs;unfold pStmt
 rfl
theorem smap_get (p q:Nat) (k:List UInt8):mapGet (smapL p q) k=if k == [118,97,114] then some (vF 36 [vP p 0] []) else if k == [105,102] then some (vF 37 [vP p 0] []) else if k == [119,104,105,108,101] then some (vF 38 [vP p 0] [])
 else if k == [114,101,116,117,114,110] then some (vF 39 [vP p 0] []) else if k == [98,114,101,97,107] then some (vF 40 [] [vP q 0]) else if k == [99,111,110,116,105,110,117,101] then some (vF 42 [] [vP q 0]) else none:=by
 simp only [smapL,mapGet_cons];rfl
theorem isT_key {ts:List Tok} (h4:isK ts 4=true) (t:Bytes):isT ts t=((hd ts).text == t):=by
 have:(hd ts).kind=4:=by simpa [isK] using h4
 simp [isT,this]
theorem stmt_ok {f:Nat} (X:∀ g,g<=f->SOk K s p g) (hf:f<=5000000) {α:Type} (r:R α) (h:PHeap) (hP:PS K s h p r) (hn:NF (bindR r fun _ ts d=>pStmt (f+1) ts d)):Tri Tryz.prog 141 [vP p 0] h (PSt K s p h (bindR r fun _ ts d=>pStmt (f+1) ts d)):=by
 refine T141 ?_
 unfold R141
 refine Tri.mono (isKind_tri hP 1) ?_
 rintro _ h ⟨rfl,rfl⟩
 have pass:∀ {r':R S} {v:Value} {h1:PHeap},PSt K s p h r' v h1->∃ (Kind2:Int) (Name2:List UInt8) (Argsa2:Option Addr) (Argsn2 Argsc2:Nat) (Bodya2:Option Addr) (Bodyn2 Bodyc2:Nat) (Elsea2:Option Addr) (Elsen2 Elsec2:Nat) (Line2 Column2:Int),v=vA [vI Kind2,vS Name2,vL Argsa2 Argsn2 Argsc2,vL Bodya2 Bodyn2 Bodyc2,vL Elsea2 Elsen2 Elsec2,vI Line2,vI Column2]/\
  PSt K s p h r' (vA [vI Kind2,vS Name2,vL Argsa2 Argsn2 Argsc2,vL Bodya2 Bodyn2 Bodyc2,vL Elsea2 Elsen2 Elsec2,vI Line2,vI Column2]) h1:=by
  rintro r' v h1 hE
  have hE':=hE
  obtain ⟨c,rfl,_⟩:=hE
  exact ⟨_,_,_,_,_,_,_,_,_,_,_,_,_,rfl,hE'⟩
 have bad:∀ {h2:PHeap},PS K s h2 p (failR r 30:R S)->Chg p h h2->(bindR r fun _ ts d=>pStmt (f+1) ts d)=failR r 30->PSt K s p h (bindR r fun _ ts d=>pStmt (f+1) ts d) (vA [vI 0,vS [],vL none 0 0,vL none 0 0,vL none 0 0,vI 0,vI 0]) h2:=by
  intro h2 hP2 hc2 he
  rw [he]
  refine ⟨⟨0,[],none,0,0,none,0,0,none,0,0,0,0⟩,rfl,hc2.away,?_⟩
  match r,hP2 with
  | .error x,hP2=>exact hP2
  | .ok (x,ts,d),hP2=>exact hP2
 refine ⟨_,rfl,br_split (fun e=>?_) (fun e=>?_)⟩
 . obtain ⟨x,ts,d,rfl,k1⟩:=isKr_ok e
   have he:(bindR (.ok (x,ts,d):R α) fun _ ts d=>pStmt (f+1) ts d)=pNamed f ts d:=by rw [bindR_ok,pStmt_succ,if_pos k1]
   rw [he] at hn ⊢
   match f,hf,X,hn with
   | 0,_,_,hn=>exact absurd (by unfold pNamed;rfl) hn
   | f+1,hf,X,hn=>
     exact Tri.mono (named_ok (by omega) hP k1 hn) fun v h1 hE=>pass hE
 refine Tri.mono (isKind_tri hP 4) ?_
 rintro _ h ⟨rfl,rfl⟩
 refine ⟨_,rfl,br_split (fun e2=>?_) (fun e2=>?_)⟩
 . obtain ⟨x,ts,d,rfl,k4⟩:=isKr_ok e2
   have k1:isK ts 1=false:=e
   have hk:(hd ts).kind≠0:=by simp [isK] at k4;omega
   obtain ⟨⟨o,c',l',k',hp,hT,hc,hM,hq⟩,hI,hend,hlo,hhi,hl2,hwf⟩:=id (show POk K s h p ts d from hP)
   refine ⟨_,PB_cell hp 2,_,_,_,PB_cell hp 0,K.tok,o,rfl,⟨Int.le_refl _,len_pos hend⟩,_,(POk.row hT hend).2.1,?_⟩
   rw [smap_ents] at hM
   refine Raw.mono (raw_lookupS und79 und9 zero82 rfl rfl hM) ?_
   rintro _ h ⟨rfl,rfl⟩
   refine ⟨_,_,rfl,PB_cell hp 0,?_⟩
   rw [smap_get]
   have he:(bindR (.ok (x,ts,d):R α) fun _ ts d=>pStmt (f+1) ts d)=if (hd ts).text == [118,97,114] then pDecl f ts d
    else if (hd ts).text == [105,102] then pIf f ts d
    else if (hd ts).text == [119,104,105,108,101] then pWhile f ts d
    else if (hd ts).text == [114,101,116,117,114,110] then pRet f ts d
    else if (hd ts).text == [98,114,101,97,107] then pWord 8 ts d
    else if (hd ts).text == [99,111,110,116,105,110,117,101] then pWord 9 ts d
    else .error (30,(hd ts).pos):=by
    rw [bindR_ok,pStmt_succ,if_neg (by rw [k1];decide),isT_key k4,isT_key k4,isT_key k4,isT_key k4,isT_key k4,isT_key k4]
   cases t1:(hd ts).text == [118,97,114] with
   | true=>
     simp only [t1,Bool.false_eq_true,if_true,if_false] at he hn ⊢
     rw [he] at hn ⊢
     refine br_pos rfl ⟨36,[vP p 0],[],rfl,?_⟩
     exact Tri.mono (decl_tri hf hP hk hn) fun v h1 hE=>pass hE
   | false=>
   cases t2:(hd ts).text == [105,102] with
   | true=>
     simp only [t1,t2,Bool.false_eq_true,if_true,if_false] at he hn ⊢
     rw [he] at hn ⊢
     refine br_pos rfl ⟨37,[vP p 0],[],rfl,?_⟩
     exact Tri.mono ((X f (Nat.le_refl _)).iff ts d h hP hk hn) fun v h1 hE=>pass hE
   | false=>
   cases t3:(hd ts).text == [119,104,105,108,101] with
   | true=>
     simp only [t1,t2,t3,Bool.false_eq_true,if_true,if_false] at he hn ⊢
     rw [he] at hn ⊢
     refine br_pos rfl ⟨38,[vP p 0],[],rfl,?_⟩
     exact Tri.mono (while_tri hf (X f (Nat.le_refl _)) hP hk hn) fun v h1 hE=>pass hE
   | false=>
   cases t4:(hd ts).text == [114,101,116,117,114,110] with
   | true=>
     simp only [t1,t2,t3,t4,Bool.false_eq_true,if_true,if_false] at he hn ⊢
     rw [he] at hn ⊢
     refine br_pos rfl ⟨39,[vP p 0],[],rfl,?_⟩
     exact Tri.mono (ret_tri hf hP hk hn) fun v h1 hE=>pass hE
   | false=>
   cases t5:(hd ts).text == [98,114,101,97,107] with
   | true=>
     simp only [t1,t2,t3,t4,t5,Bool.false_eq_true,if_true,if_false] at he hn ⊢
     rw [he] at hn ⊢
     refine br_pos rfl ⟨40,[],[vP K.box 0],rfl,?_⟩
     exact Tri.mono (word8_tri hP hk) fun v h1 hE=>pass hE
   | false=>
   cases t6:(hd ts).text == [99,111,110,116,105,110,117,101] with
   | true=>
     simp only [t1,t2,t3,t4,t5,t6,Bool.false_eq_true,if_true,if_false] at he hn ⊢
     rw [he] at hn ⊢
     refine br_pos rfl ⟨42,[],[vP K.box 0],rfl,?_⟩
     exact Tri.mono (word9_tri hP hk) fun v h1 hE=>pass hE
   | false=>
     simp only [t1,t2,t3,t4,t5,t6,Bool.false_eq_true,if_false] at he ⊢
     refine br_neg rfl ?_
     refine Tri.mono (fail_tri (β:=S) hP 30 (by decide)) ?_
     rintro _ h2 ⟨rfl,hc2,hP2⟩
     exact ⟨rfl,bad hP2 hc2 he⟩
 . refine Tri.mono (fail_tri (β:=S) hP 30 (by decide)) ?_
   rintro _ h2 ⟨rfl,hc2,hP2⟩
   refine ⟨rfl,bad hP2 hc2 ?_⟩
   match r,e,e2,hP with
   | .error x,_,_,_=>rfl
   | .ok (x,ts,d),e,e2,hP0=>
     have k1:isK ts 1=false:=e
     have k4:isK ts 4=false:=e2
     have hwf:(hd ts).kind=5->words.contains (hd ts).text=false:=POk.wf hP0 _ (by rw [(POk.ended hP0).cons];exact List.mem_cons_self)
     have hT:∀ t:Bytes,words.contains t=true->¬ isT ts t=true:=fun t ht hi=>by
      have k4:((hd ts).kind == 4)=false:=k4
      simp only [isT,k4,Bool.false_or,Bool.and_eq_true,beq_iff_eq] at hi
      have:=hwf hi.1
      rw [hi.2,ht] at this;cases this
     rw [bindR_ok,pStmt_succ,if_neg (by rw [k1];decide),if_neg (hT _ rfl),if_neg (hT _ rfl),if_neg (hT _ rfl),if_neg (hT _ rfl),if_neg (hT _ rfl),if_neg (hT _ rfl)]
     rfl
theorem block_err {e:Nat×Nat} {h:PHeap} (hP:PErr K s h p e):Tri Tryz.prog 94 [vP p 0] h (PBk K s p h (.error e)):=by
 refine T94 ?_
 unfold R94
 refine Tri.mono (take_tri (r:=(.error e:R Unit)) hP [123]) ?_
 rintro _ h1 ⟨rfl,hc1,hP1⟩
 refine ⟨rfl,fun m a n cc h'=>h'=h1,⟨0,rfl⟩,?_⟩
 rintro m a n cc h1 rfl
 obtain ⟨i,hi,hz⟩:=hP1.err
 refine ⟨i,hi,br_neg hz ?_⟩
 refine Tri.mono (take_tri hP1 [125]) ?_
 rintro _ h3 ⟨rfl,hc3,hP3⟩
 exact ⟨rfl,a,n,cc,rfl,hc1.away.trans hc3.away,hP3⟩
theorem stmt_err {e:Nat×Nat} {h:PHeap} (hP:PErr K s h p e):Tri Tryz.prog 141 [vP p 0] h (PSt K s p h (.error e)):=by
 refine T141 ?_
 unfold R141
 refine Tri.mono (isKind_tri (r:=(.error e:R Unit)) hP 1) ?_
 rintro _ h ⟨rfl,rfl⟩
 refine ⟨_,rfl,br_neg rfl ?_⟩
 refine Tri.mono (isKind_tri (r:=(.error e:R Unit)) hP 4) ?_
 rintro _ h ⟨rfl,rfl⟩
 refine ⟨_,rfl,br_neg rfl ?_⟩
 refine Tri.mono (fail_tri (β:=S) (r:=(.error e:R Unit)) hP 30 (by decide)) ?_
 rintro _ h2 ⟨rfl,hc2,hP2⟩
 exact ⟨rfl,⟨0,[],none,0,0,none,0,0,none,0,0,0,0⟩,rfl,hc2.away,hP2⟩
theorem sok (f:Nat) (hf:f<=5000000):SOk K s p f:=by
 induction f using Nat.strongRecOn with
 | _ f ih=>
   match f,ih,hf with
   | 0,_,_=>
     refine ⟨fun r h hP hn=>?_,fun r h hP hn=>?_,fun ts d h hP h1 hn=>?_⟩
     . obtain ⟨e,rfl⟩:=fuel_err (fun _ _ _=>by unfold pBlock;rfl) hn
       exact block_err hP
     . obtain ⟨e,rfl⟩:=fuel_err (fun _ _ _=>by unfold pStmt;rfl) hn
       exact stmt_err hP
     . exact absurd (by unfold pIf;rfl) hn
   | f+1,ih,hf=>
     have X:∀ g,g<=f->SOk K s p g:=fun g hg=>ih g (by omega) (by omega)
     exact ⟨fun r h hP hn=>block_ok X (by omega) r h hP hn,fun r h hP hn=>stmt_ok X (by omega) r h hP hn,fun ts d h hP hk hn=>if_ok (by omega) (X f (Nat.le_refl _)) ts d h hP hk hn⟩
end
end Go.Proofs.D
namespace Go.Proofs.D
open Go Go.Den Go.Sx
set_option maxRecDepth 100000
attribute [local irreducible] IntKind.wrap Tri
def RG (pl:Nat->List Value) (_:PHeap) (g:G) (cs:List Value):Prop:=cs=[vS g.name,vI g.size,vI g.value]++pl g.pos
def RStr (_:PHeap) (l:Bytes) (cs:List Value):Prop:=cs=[vS l]
def RF (pl:Nat->List Value) (we ws:Nat) (h:PHeap) (f:F) (cs:List Value):Prop:=
 ∃ a ac b bc,cs=[vS f.name,vL a f.params.length ac,vL b f.body.length bc]++pl f.pos/\At 1 RStr h a f.params/\At ws (RS pl we ws) h b f.body/\okN a f.params.length ac
theorem RG_mono (pl:Nat->List Value):Mono (RG pl):=⟨fun _ h=>h⟩
theorem RStr_mono:Mono RStr:=⟨fun _ h=>h⟩
theorem RF_mono (pl:Nat->List Value) (we ws:Nat):Mono (RF pl we ws):=⟨fun x ⟨a,ac,b,bc,h1,h2,h3,h4⟩=>⟨a,ac,b,bc,h1,h2.ext RStr_mono x,h3.ext (RS_mono _ _ _) x,h4⟩⟩
structure GC where
 name:List UInt8
 size:Int
 value:Int
 line:Int
 column:Int
def GC.l (c:GC):List Value:=[vS c.name,vI c.size,vI c.value,vI c.line,vI c.column]
structure FC where
 name:List UInt8
 pa:Option Addr
 pn:Nat
 pc:Nat
 ba:Option Addr
 bn:Nat
 bc:Nat
 line:Int
 column:Int
def FC.l (c:FC):List Value:=[vS c.name,vL c.pa c.pn c.pc,vL c.ba c.bn c.bc,vI c.line,vI c.column]
theorem GC.one (c:GC):allOne c.l=true:=rfl
theorem FC.one (c:FC):allOne c.l=true:=rfl
section
variable {K : PK} {s : Bytes} {p : Nat}
theorem global_tri {α:Type} (r:R α) (h:PHeap) (hP:PS K s h p r):Tri Tryz.prog 45 [vP p 0] h fun v h'=>∃ c:GC,v=vA c.l/\Chg p h h'/\PX K s h' p (bindR r fun _ ts d=>pGlobal ts d) fun g=>RG (plP s) h' g c.l:=by
 refine T45 ?_
 unfold R45
 refine Tri.mono (take_tri hP [118,97,114]) ?_
 rintro _ h1 ⟨rfl,hc1,hP1⟩
 refine ⟨rfl,?_⟩
 refine Tri.mono (takeKind_tri hP1 1 (by decide)) ?_
 rintro _ h2 ⟨t,rfl,hc2,hx2⟩
 refine ⟨_,_,_,_,_,_,rfl,?_⟩
 have he:(bindR r fun _ ts d=>pGlobal ts d)=bindR (bindR (bindR r fun _ ts d=>takeT [118,97,114] ts d) fun _ ts d=>takeK 1 ts d) fun t ts d=>
  if isT ts [61] then bindR (takeT [61] ts d) fun _ ts d=>bindR (takeK 2 ts d) fun n ts d=>bindR (takeT [59] ts d) fun _ ts d=> .ok (⟨t.text,0,n.value,t.pos⟩,ts,d)
  else if isT ts [91] then bindR (takeT [91] ts d) fun _ ts d=>bindR (takeK 2 ts d) fun n ts d=>bindR (takeT [93] ts d) fun _ ts d=>bindR (takeT [59] ts d) fun _ ts d=> .ok (⟨t.text,n.value,0,t.pos⟩,ts,d)
  else bindR (takeT [59] ts d) fun _ ts d=> .ok (⟨t.text,0,0,t.pos⟩,ts,d):=by
   simp only [bindR_bind,pGlobal]
 rw [he]
 clear he
 generalize (bindR (bindR r fun _ ts d=>takeT [118,97,114] ts d) fun _ ts d=>takeK 1 ts d)=r2 at *
 have hc02:=hc1.trans hc2
 refine Tri.mono (accept_tri hx2.ps [61]) ?_
 rintro _ h3 ⟨rfl,hc3,hP3⟩
 have hc03:=hc02.trans hc3
 refine ⟨_,rfl,br_split (fun e=>?_) (fun e=>?_)⟩
 . obtain ⟨x,ts2,d2,rfl,hT,hac⟩:=accB_true e
   rw [hac] at hP3
   obtain ⟨_,rfl⟩:=hx2
   rw [bindR_ok,if_pos hT]
   refine Tri.mono (takeKind_tri hP3 2 (by decide)) ?_
   rintro _ h4 ⟨t4,rfl,hc4,hx4⟩
   refine ⟨_,_,_,_,_,_,rfl,?_⟩
   refine Tri.mono (take_tri hx4.ps [59]) ?_
   rintro _ h5 ⟨rfl,hc5,hP5⟩
   have he:(bindR (takeT [61] ts2 d2) fun _ ts d=>bindR (takeK 2 ts d) fun n ts d=>bindR (takeT [59] ts d) fun _ ts d=>(.ok (⟨x.text,0,n.value,x.pos⟩,ts,d):R G))=
    mapR (fun n=>⟨x.text,0,n.value,x.pos⟩) (thenR (bindR (takeT [61] ts2 d2) fun _ ts d=>takeK 2 ts d) fun ts d=>takeT [59] ts d):=by simp only [mapR,thenR,bindR_bind,bindR_ok]
   rw [he]
   refine ⟨rfl,⟨x.text,0,t4.value,_,_⟩,rfl,(hc03.trans hc4).trans hc5,(hx4.then hP5 fun _ h=>h).map fun n hn=>?_⟩
   subst hn;rfl
 obtain ⟨hnt,hac⟩:=accB_false rfl e
 rw [hac] at hP3
 have hx3:PX K s h3 p r2 fun x=>t=TC.of s x:=by
  match r2,hP3,hx2 with
  | .error e,hP3,hx2=>exact hP3
  | .ok (x,ts,d),hP3,hx2=>exact ⟨hP3,hx2.2⟩
 refine Tri.mono (accept_tri hx3.ps [91]) ?_
 rintro _ h4 ⟨rfl,hc4,hP4⟩
 have hc04:=hc03.trans hc4
 refine ⟨_,rfl,br_split (fun e2=>?_) (fun e2=>?_)⟩
 . obtain ⟨x,ts2,d2,rfl,hT,hac⟩:=accB_true e2
   rw [hac] at hP4
   obtain ⟨_,rfl⟩:=hx2
   rw [bindR_ok,if_neg (by rw [show isT ts2 [61]=false from hnt];decide),if_pos hT]
   refine Tri.mono (takeKind_tri hP4 2 (by decide)) ?_
   rintro _ h5 ⟨t5,rfl,hc5,hx5⟩
   refine ⟨_,_,_,_,_,_,rfl,?_⟩
   refine Tri.mono (take_tri hx5.ps [93]) ?_
   rintro _ h6 ⟨rfl,hc6,hP6⟩
   refine ⟨rfl,?_⟩
   have hx6:=hx5.then (rel':=fun x=>t5=TC.of s x) hP6 fun _ h=>h
   refine Tri.mono (take_tri hx6.ps [59]) ?_
   rintro _ h7 ⟨rfl,hc7,hP7⟩
   have he:(bindR (takeT [91] ts2 d2) fun _ ts d=>bindR (takeK 2 ts d) fun n ts d=>bindR (takeT [93] ts d) fun _ ts d=>bindR (takeT [59] ts d) fun _ ts d=>(.ok (⟨x.text,n.value,0,x.pos⟩,ts,d):R G))=
    mapR (fun n=>⟨x.text,n.value,0,x.pos⟩) (thenR (thenR (bindR (takeT [91] ts2 d2) fun _ ts d=>takeK 2 ts d) fun ts d=>takeT [93] ts d) fun ts d=>takeT [59] ts d):=by simp only [mapR,thenR,bindR_bind,bindR_ok]
   rw [he]
   refine ⟨rfl,⟨x.text,t5.value,0,_,_⟩,rfl,((hc04.trans hc5).trans hc6).trans hc7,(hx6.then hP7 fun _ h=>h).map fun n hn=>?_⟩
   subst hn;rfl
 . refine Tri.mono (take_tri hP4 [59]) ?_
   rintro _ h5 ⟨rfl,hc5,hP5⟩
   refine ⟨rfl,⟨t.text,0,0,t.line,t.column⟩,rfl,hc04.trans hc5,?_⟩
   match r2,hP5,hnt,hx2,e2 with
   | .error x,hP5,_,_,_=>exact hP5
   | .ok (x,ts2,d2),hP5,hnt,hx2,e2=>
     obtain ⟨_,rfl⟩:=hx2
     rw [bindR_ok,if_neg (by rw [show isT ts2 [61]=false from hnt];decide)]
     cases h91:isT ts2 [91] with
     | true=>
       have h32:d2=32:=by simpa [accB,h91,opens] using e2
       have hac:accR (.ok (x,ts2,d2):R Tok) [91]= .error (9,(hd ts2).pos):=by simp [accR,h91,takeT,opens,h32]
       rw [hac] at hP5
       rw [if_pos rfl,show takeT [91] ts2 d2= .error (9,(hd ts2).pos) by simp [h91,takeT,opens,h32]]
       exact hP5
     | false=>
       have hac:accR (.ok (x,ts2,d2):R Tok) [91]= .ok ((),ts2,d2):=by simp [accR,h91]
       rw [hac,bindR_ok] at hP5
       rw [if_neg (by decide)]
       have hx:PX K s h5 p (takeT [59] ts2 d2) fun _=>True:=PX.unit hP5
       exact hx.map (k:=fun _=>(⟨x.text,0,0,x.pos⟩:G)) fun _ _=>rfl
theorem pMoreP_succ (f:Nat) (l:List Bytes) (ts:List Tok) (d:Int):pMoreP (f+1) l ts d=if isT ts [44] then bindR (takeT [44] ts d) fun _ ts d=>bindR (takeK 1 ts d) fun t ts d=>pMoreP f (l++[t.text]) ts d else .ok (l,ts,d):=rfl
theorem func_tri {f:Nat} (hf:f<=4000000) {α:Type} (r:R α) (h:PHeap) (hP:PS K s h p r) (hn:NF (bindR r fun _ ts d=>pFunc f ts d)):Tri Tryz.prog 46 [vP p 0] h fun v h'=>∃ c:FC,v=vA c.l/\Away p h h'/\PX K s h' p (bindR r fun _ ts d=>pFunc f ts d) fun g=>RF (plP s) 8 7 (only (New h) h') g c.l:=by
 refine T46 ?_
 unfold R46
 have hp0:=hP.mem
 have hI:=hP.isin
 refine Tri.mono (take_tri hP [102,117,110,99]) ?_
 rintro _ h1 ⟨rfl,hc1,hP1⟩
 refine ⟨rfl,?_⟩
 refine Tri.mono (takeKind_tri hP1 1 (by decide)) ?_
 rintro _ h2 ⟨t,rfl,hc2,hx2⟩
 refine ⟨_,_,_,_,_,_,rfl,?_⟩
 refine Tri.mono (take_tri hx2.ps [40]) ?_
 rintro _ h3 ⟨rfl,hc3,hP3⟩
 refine ⟨rfl,?_⟩
 have hx3:=hx2.then (rel':=fun x=>t=TC.of s x) hP3 fun _ h=>h
 have he:(bindR r fun _ ts d=>pFunc f ts d)=mapR (fun x:(Tok×List Bytes)×List S=>(⟨x.1.1.text,x.1.2,x.2,x.1.1.pos⟩:F))
  (pairR (thenR (pairR (thenR (bindR (bindR r fun _ ts d=>takeT [102,117,110,99] ts d) fun _ ts d=>takeK 1 ts d) fun ts d=>takeT [40] ts d) fun ts d=>pParams f ts d) fun ts d=>takeT [41] ts d) fun ts d=>pBlock f ts d):=by
  simp only [mapR,pairR,thenR,bindR_bind,bindR_ok,pFunc]
 rw [he] at hn ⊢
 clear he
 generalize (thenR (bindR (bindR r fun _ ts d=>takeT [102,117,110,99] ts d) fun _ ts d=>takeK 1 ts d) fun ts d=>takeT [40] ts d)=r3 at *
 have hA3:Away p h h3:=(hc1.away.trans hc2.away).trans hc3.away
 have n1:=hn.map.pair.bind.bind
 have n2:NF (bindR r3 fun _ ts d=>pParams f ts d):=n1.pair
 have fine:∀ {h4:PHeap} {a:Option Addr} {n c:Nat},okN a n c->Away p h h4->PX K s h4 p (bindR r3 fun _ ts d=>pParams f ts d) (fun ps=>n=ps.length/\At 1 RStr (only (New h) h4) a ps)->
  Tri Tryz.prog 92 [vP p 0,vS [41]] h4 fun v_10 h_13=>v_10=vT []/\Tri Tryz.prog 94 [vP p 0] h_13 fun v_11 h_14=>∃ (sa3:Option Addr) (sn3 sc3:Nat),v_11=vL sa3 sn3 sc3/\
   ∃ c':FC,vA [vS t.text,vL a n c,vL sa3 sn3 sc3,vI t.line,vI t.column]=vA c'.l/\Away p h h_14/\PX K s h_14 p (mapR (fun x:(Tok×List Bytes)×List S=>(⟨x.1.1.text,x.1.2,x.2,x.1.1.pos⟩:F)) (pairR (thenR (pairR r3 fun ts d=>pParams f ts d) fun ts d=>takeT [41] ts d) fun ts d=>pBlock f ts d)) fun g=>RF (plP s) 8 7 (only (New h) h_14) g c'.l:=by
  intro h4 a n c hok hA4 hx4
  have hx4':=hx3.pair (rel3:=fun x=>t=TC.of s x.1/\n=x.2.length/\At 1 RStr (only (New h) h4) a x.2) hx4 fun x y hx hy=>⟨hx,hy⟩
  refine Tri.mono (take_tri hx4'.ps [41]) ?_
  rintro _ h5 ⟨rfl,hc5,hP5⟩
  refine ⟨rfl,?_⟩
  have hx5:=hx4'.then (rel':=fun x=>t=TC.of s x.1/\n=x.2.length/\At 1 RStr (only (New h) h5) a x.2) hP5 fun x hx=>⟨hx.1,hx.2.1,hx.2.2.ext RStr_mono (only_away hp0 hc5.away)⟩
  refine Tri.mono ((sok f (by omega)).blk _ h5 hx5.ps hn.map.pair) ?_
  rintro _ h6 ⟨a6,n6,c6,rfl,hA6,hx6⟩
  refine ⟨_,_,_,rfl,⟨t.text,a,n,c,a6,n6,c6,t.line,t.column⟩,rfl,(hA4.trans hc5.away).trans hA6,?_⟩
  refine (hx5.pair (rel3:=fun x=>(t=TC.of s x.1.1/\n=x.1.2.length/\At 1 RStr (only (New h) h6) a x.1.2)/\n6=x.2.length/\At 7 (RS (plP s) 8 7) (only (New h) h6) a6 x.2) hx6 fun x y hx hy=>
   ⟨⟨hx.1,hx.2.1,hx.2.2.ext RStr_mono (only_away hp0 hA6)⟩,hy.1,hy.2.ext (RS_mono _ _ _) (only_new ((hA4.trans hc5.away).dom hx5.ps.mem))⟩).map fun x hx=>?_
  obtain ⟨⟨g1,g2,g3⟩,g4,g5⟩:=hx
  subst g1;subst g2;subst g4
  exact ⟨a,c,a6,c6,rfl,g3,g5,hok⟩
 refine Tri.mono (is_tri hx3.ps [41]) ?_
 rintro _ h3 ⟨rfl,rfl⟩
 refine ⟨_,rfl,br_split (fun e=>?_) (fun e=>?_)⟩
 . refine Tri.mono (takeKind_tri hx3.ps 1 (by decide)) ?_
   rintro _ h4 ⟨t4,rfl,hc4,hx4⟩
   refine ⟨_,_,_,_,_,_,rfl,rfl,?_⟩
   intro b hb h5 hh5
   refine ⟨rfl,?_⟩
   have hA4:=hA3.trans hc4.away
   have hd4:∀ b,h4 b=none->h b=none:=hA4.dom hx4.ps.mem
   refine Raw.mono (LM.append (h0:=h) (cs:=[vS t4.text]) und51 elem9 rfl rfl rfl rfl rfl LM.nil hb hh5 rfl rfl (by omega) hd4) ?_
   rintro _ h6 ⟨b6,cap6,rfl,hk6,hd6,hn6,hq6,hM6,hR6⟩
   refine ⟨_,_,_,rfl,?_⟩
   have hA6:Away p h h6:=fun k o hk ho=>hk6 k o (by rw [ho];exact fun e=>by cases e) (hA4 k o hk ho)
   have hfin:(bindR r3 fun _ ts d=>pParams f ts d)=bindR (mapR (fun t=>[t.text]) (bindR r3 fun _ ts d=>takeK 1 ts d)) fun l ts d=>pMoreP f l ts d:=by
    match r3,e with
    | .error x,_=>rfl
    | .ok (x,ts,d),e=>
      have e:isT ts [41]=false:=by simpa [isTr] using e
      simp only [bindR_ok,mapR,bindR_bind,pParams,e];rfl
   generalize hfe:(bindR r3 fun _ ts d=>pParams f ts d)=fin at *
   have hx6:=(hx4.stay (rel':=fun x=>LR RStr h h6 (ad b6 0) [[vS t4.text]] [x.text]) (hI.old hp0 hk6) fun x hx=>hR6 RStr_mono LR.nil (by subst hx;rfl)).map (k:=fun t=>[t.text]) (rel':=fun l=>LR RStr h h6 (ad b6 0) [[vS t4.text]] l) fun x hx=>hx
   refine ⟨fun m nm a n cc ba bn bc ln cl h'=>(nm=t.text/\ba=none/\bn=0/\bc=0/\ln=t.line/\cl=t.column)/\∃ (r':R (List Bytes)) (css:List (List Value)),n+m<=f+1/\Away p h h'/\LM 9 1 h h' a n cc css/\PX K s h' p r' (fun l=>LR RStr h h' a css l)/\(bindR r' fun l ts d=>pMoreP m l ts d)=fin,
    ⟨f,⟨rfl,rfl,rfl,rfl,rfl,rfl⟩,_,_,by omega,hA6,hM6,hx6,hfin.symm⟩,?_⟩
   rintro m _ a n cc _ _ _ _ _ h7 ⟨⟨rfl,rfl,rfl,rfl,rfl,rfl⟩,r',css,hm,hA7,hM7,hx7,hf7⟩
   refine Tri.mono (accept_tri hx7.ps [44]) ?_
   rintro _ h8 ⟨rfl,hc8,hP8⟩
   refine ⟨_,rfl,br_split (fun e3=>?_) (fun e3=>?_)⟩
   . obtain ⟨l,ts,d,rfl,hT,hac⟩:=accB_true e3
     rw [hac] at hP8
     rw [bindR_ok] at hf7
     match m,hf7,hm with
     | 0,hf7,hm=>exact absurd hf7.symm n2
     | m+1,hf7,hm=>
       rw [pMoreP_succ,if_pos hT,←bindR_bind] at hf7
       refine Tri.mono (takeKind_tri hP8 1 (by decide)) ?_
       rintro _ h9 ⟨t9,rfl,hc9,hx9⟩
       refine ⟨_,_,_,_,_,_,rfl,rfl,?_⟩
       intro b10 hb10 h10 hh10
       refine ⟨rfl,?_⟩
       have hA79:Away p h7 h9:=hc8.away.trans hc9.away
       have hA09:Away p h h9:=hA7.trans hA79
       have hd9:∀ b,h9 b=none->h b=none:=hA09.dom hx9.ps.mem
       refine Raw.mono (LM.append (h0:=h) (cs:=[vS t9.text]) und51 elem9 rfl rfl rfl rfl rfl (hM7.away hp0 hA79) hb10 hh10 rfl rfl (by omega) hd9) ?_
       rintro _ h11 ⟨b11,cap11,rfl,hk11,hd11,hn11,hq11,hM11,hR11⟩
       refine ⟨_,_,_,rfl,m,by omega,⟨⟨rfl,rfl,rfl,rfl,rfl,rfl⟩,mapR (fun t=>l++[t.text]) (bindR (takeT [44] ts d) fun _ ts d=>takeK 1 ts d),_,by omega,fun k o hk ho=>hk11 k o (by rw [ho];exact fun e=>by cases e) (hA09 k o hk ho),hM11,?_,?_⟩,rfl,rfl,trivial⟩
       . refine (hx9.stay (rel':=fun x=>LR RStr h h11 (ad b11 0) (css++[[vS t9.text]]) (l++[x.text])) (hI.old hp0 hk11) fun x hx=>?_).map fun x hx=>hx
         exact hR11 RStr_mono (hx7.2.away RStr_mono hp0 hA79) (by subst hx;rfl)
       . rw [←hf7];simp only [mapR,bindR_bind,bindR_ok]
   . obtain ⟨hnt,hac⟩:=accB_false rfl e3
     rw [hac] at hP8
     have hfr:fin=r':=by
      match r',hf7,hnt with
      | .error x,hf7,_=>exact hf7.symm
      | .ok (es,ts,d),hf7,hnt=>
        rw [bindR_ok] at hf7
        match m,hf7 with
        | 0,hf7=>exact absurd hf7.symm n2
        | m+1,hf7=>rw [←hf7,pMoreP_succ,if_neg (by rw [show isT ts [44]=false from hnt];decide)]
     have hx8:PX K s h8 p fin fun l=>n=l.length/\At 1 RStr (only (New h) h8) a l:=by
      rw [hfr]
      match r',hx7,hP8 with
      | .error x,_,hP8=>exact hP8
      | .ok (l,ts,d),hx7,hP8=>exact ⟨hP8,by rw [←hM7.len];exact hx7.2.1,(hM7.away hp0 hc8.away).at RStr_mono (hx7.2.away RStr_mono hp0 hc8.away)⟩
     exact fine hM7.okN (hA7.trans hc8.away) hx8
 . refine fine ⟨Nat.le_refl _,fun _=>⟨rfl,rfl⟩⟩ hA3 ?_
   match r3,e,hx3 with
   | .error x,e,_=>simp [isTr] at e
   | .ok (x,ts,d),e,hx3=>
     have e:isT ts [41]=true:=by simpa [isTr] using e
     simp only [bindR_ok,pParams,e]
     exact ⟨hx3.1,rfl,At.nil⟩
end
end Go.Proofs.D
namespace Go.Sx
def FN {α:Type} (k n:Nat) (r:R α):Prop:=(∀ i,r≠ .error (0,i))/\∀ x ts d,r= .ok (x,ts,d)->ts.length+k<=n
theorem FN.bind {α β:Type} {k k' n:Nat} {r:R α} {g:α->List Tok->Int->R β} (h:FN k n r) (hg:∀ x ts d,ts.length+k<=n->FN k' n (g x ts d)):FN k' n (bindR r g):=by
 match r,h with
 | .error e,h=>exact ⟨fun i hi=>h.1 i (by injection hi with hi;rw [hi]),fun x ts d hx=>by cases hx⟩
 | .ok (x,ts,d),h=>exact hg x ts d (h.2 x ts d rfl)
theorem FN.ok {α:Type} {k n:Nat} {x:α} {ts:List Tok} {d:Int} (h:ts.length+k<=n):FN k n (.ok (x,ts,d):R α):=
 ⟨(fun i hi=>by cases hi),fun x ts d hx=>by cases hx;exact h⟩
theorem FN.err {α:Type} {k n e i:Nat} (h:e≠0):FN k n (.error (e,i):R α):=
 ⟨fun j hj=>by injection hj with hj;injection hj with hj;exact h hj,fun x ts d hx=>by cases hx⟩
theorem FN.up {α:Type} {k n k' n':Nat} {r:R α} (h:FN k n r) (hk:n+k'<=n'+k):FN k' n' r:=
 ⟨h.1,fun x ts d hx=>by have:=h.2 x ts d hx;omega⟩
theorem isK_ne {ts:List Tok} {k:Nat} (hk:k≠0) (h:isK ts k=true):ts.tail.length+1=ts.length:=by
 cases ts with
 | nil=>simp [isK,hd] at h;omega
 | cons t ts=>simp
theorem isT_ne {ts:List Tok} {t:Bytes} (h:isT ts t=true):ts.tail.length+1=ts.length:=by
 cases ts with
 | nil=>simp [isT,hd] at h
 | cons t ts=>simp
theorem takeT_fn (t:Bytes) (ts:List Tok) (d:Int):FN 1 ts.length (takeT t ts d):=by
 unfold takeT
 split
 . exact FN.err (by decide)
 . rename_i h
   have h:isT ts t=true:=by simpa using h
   have:=isT_ne h
   split
   . split
     . exact FN.err (by decide)
     . exact FN.ok (by omega)
   . split
     . exact FN.ok (by omega)
     . exact FN.ok (by omega)
theorem takeK_fn (k:Nat) (hk:k≠0) (ts:List Tok) (d:Int):FN 1 ts.length (takeK k ts d):=by
 unfold takeK
 split
 . rename_i h
   have:=isK_ne hk h
   exact FN.ok (by omega)
 . exact FN.err (by decide)
structure FX (f:Nat):Prop where
 bin:∀ lv ts d,1<=lv->lv<=11->20 * ts.length+15 - lv<=f->FN 1 ts.length (pBin f lv ts d)
 loop:∀ lv e ts d,1<=lv->lv<=10->20 * ts.length+1<=f->FN 0 ts.length (pLoop f lv e ts d)
 un:∀ ts d,20 * ts.length+3<=f->FN 1 ts.length (pUn f ts d)
 prim:∀ ts d,20 * ts.length+2<=f->FN 1 ts.length (pPrim f ts d)
 name:∀ ts d,isK ts 1=true->20 * ts.length+1<=f->FN 1 ts.length (pName f ts d)
 call:∀ t ts d,20 * ts.length+1<=f->FN 1 ts.length (pCall f t ts d)
 args:∀ ts d,20 * ts.length+15<=f->FN 0 ts.length (pArgs f ts d)
 more:∀ l ts d,20 * ts.length+1<=f->FN 0 ts.length (pMore f l ts d)
theorem fx:∀ f,FX f
 | 0=>⟨fun lv ts d _ _ h=>by omega,fun lv e ts d _ _ h=>by omega,fun ts d h=>by omega,fun ts d h=>by omega,fun ts d _ h=>by omega,fun t ts d h=>by omega,fun ts d h=>by omega,fun l ts d h=>by omega⟩
 | f+1=>by
   have X:=fx f
   refine ⟨fun lv ts d h1 h2 h=>?_,fun lv e ts d h1 h2 h=>?_,fun ts d h=>?_,fun ts d h=>?_,fun ts d hk h=>?_,fun t ts d h=>?_,fun ts d h=>?_,fun l ts d h=>?_⟩
   . unfold pBin
     split
     . exact (X.un ts d (by omega)).up (by omega)
     . exact (X.bin (lv+1) ts d (by omega) (by omega) (by omega)).bind fun e ts' d' hl=>(X.loop lv e ts' d' (by omega) (by omega) (by omega)).up (by omega)
   . unfold pLoop
     split
     . rename_i hc
       simp only [Bool.and_eq_true] at hc
       have:=isK_ne (by decide) hc.1
       exact ((X.bin (lv+1) ts.tail d (by omega) (by omega) (by omega)).up (k':=2) (n':=ts.length) (by omega)).bind fun e' ts' d' hl=>(X.loop lv _ ts' d' (by omega) (by omega) (by omega)).up (by omega)
     . exact FN.ok (by omega)
   . unfold pUn
     split
     . rename_i hc
       have:ts.tail.length+1=ts.length:=by
        simp only [Bool.or_eq_true] at hc
        rcases hc with (hc | hc) | hc <;> exact isT_ne hc
       exact ((X.un ts.tail d (by omega)).up (k':=2) (n':=ts.length) (by omega)).bind fun e' ts' d' hl=>FN.ok (by omega)
     . exact (X.prim ts d (by omega)).up (by omega)
   . unfold pPrim
     split
     . rename_i hc;have:=isK_ne (by decide) hc;exact FN.ok (by omega)
     split
     . rename_i hc;have:=isK_ne (by decide) hc;exact FN.ok (by omega)
     split
     . rename_i hc;exact (X.name ts d hc (by omega)).up (by omega)
     exact (takeT_fn _ ts d).bind fun _ ts1 d1 l1=>((X.bin 1 ts1 d1 (by omega) (by omega) (by omega)).up (k':=2) (n':=ts.length) (by omega)).bind fun e ts2 d2 l2=>((takeT_fn _ ts2 d2).up (k':=3) (n':=ts.length) (by omega)).bind fun _ ts3 d3 l3=>FN.ok (by omega)
   . unfold pName
     have:=isK_ne (by decide) hk
     split
     . exact (X.call _ ts.tail d (by omega)).up (by omega)
     split
     . exact ((takeT_fn _ ts.tail d).up (k':=2) (n':=ts.length) (by omega)).bind fun _ ts1 d1 l1=>((X.bin 1 ts1 d1 (by omega) (by omega) (by omega)).up (k':=2) (n':=ts.length) (by omega)).bind fun e ts2 d2 l2=>((takeT_fn _ ts2 d2).up (k':=3) (n':=ts.length) (by omega)).bind fun _ ts3 d3 l3=>FN.ok (by omega)
     . exact FN.ok (by omega)
   . unfold pCall
     exact (takeT_fn _ ts d).bind fun _ ts1 d1 l1=>((X.args ts1 d1 (by omega)).up (k':=1) (n':=ts.length) (by omega)).bind fun e ts2 d2 l2=>((takeT_fn _ ts2 d2).up (k':=2) (n':=ts.length) (by omega)).bind fun _ ts3 d3 l3=>FN.ok (by omega)
   . unfold pArgs
     split
     . exact FN.ok (by omega)
     . exact (X.bin 1 ts d (by omega) (by omega) (by omega)).bind fun e ts' d' hl=>(X.more _ ts' d' (by omega)).up (by omega)
   . unfold pMore
     split
     . exact (takeT_fn _ ts d).bind fun _ ts1 d1 l1=>((X.bin 1 ts1 d1 (by omega) (by omega) (by omega)).up (k':=2) (n':=ts.length) (by omega)).bind fun e ts' d' hl=>(X.more _ ts' d' (by omega)).up (by omega)
     . exact FN.ok (by omega)
theorem pCond_fn {f:Nat} {ts:List Tok} {d:Int} (h:20 * ts.length<=f):FN 1 ts.length (pCond f ts d):=by
 unfold pCond
 exact (takeT_fn _ ts d).bind fun _ ts1 d1 l1=>(((fx f).bin 1 ts1 d1 (by omega) (by omega) (by omega)).up (k':=2) (n':=ts.length) (by omega)).bind fun e ts2 d2 l2=>((takeT_fn _ ts2 d2).up (k':=3) (n':=ts.length) (by omega)).bind fun _ ts3 d3 l3=>FN.ok (by omega)
structure FS (f:Nat):Prop where
 block:∀ ts d,20 * ts.length+1<=f->FN 1 ts.length (pBlock f ts d)
 stmts:∀ l ts d,20 * ts.length+3<=f->FN 1 ts.length (pStmts f l ts d)
 stmt:∀ ts d,20 * ts.length+2<=f->FN 1 ts.length (pStmt f ts d)
 ifs:∀ ts d,ts.tail.length+1=ts.length->20 * ts.length+1<=f->FN 1 ts.length (pIf f ts d)
 named:∀ ts d,ts.tail.length+1=ts.length->20 * ts.length+1<=f->FN 1 ts.length (pNamed f ts d)
theorem fs:∀ f,FS f
 | 0=>⟨fun ts d h=>by omega,fun l ts d h=>by omega,fun ts d h=>by omega,fun ts d _ h=>by omega,fun ts d _ h=>by omega⟩
 | f+1=>by
   have X:=fs f
   have Y:=fx f
   have bin:∀ (ts:List Tok) (d:Int) (n:Nat),ts.length+1<=n->20 * n<=f+1->FN 2 n (pBin f 1 ts d):=fun ts d n h1 h2=>(Y.bin 1 ts d (by omega) (by omega) (by omega)).up (by omega)
   have tk:∀ (t:Bytes) (ts:List Tok) (d:Int) (k n:Nat),ts.length+k<=n->FN (k+1) n (takeT t ts d):=fun t ts d k n h=>(takeT_fn t ts d).up (by omega)
   refine ⟨fun ts d h=>?_,fun l ts d h=>?_,fun ts d h=>?_,fun ts d hk h=>?_,fun ts d hk h=>?_⟩
   . unfold pBlock
     exact (takeT_fn _ ts d).bind fun _ ts1 d1 l1=>(X.stmts _ ts1 d1 (by omega)).up (by omega)
   . unfold pStmts
     split
     . exact (takeT_fn _ ts d).bind fun _ ts1 d1 l1=>FN.ok (by omega)
     . exact (X.stmt ts d (by omega)).bind fun s ts1 d1 l1=>(X.stmts _ ts1 d1 (by omega)).up (by omega)
   . unfold pStmt
     split
     . rename_i hc;exact (X.named ts d (isK_ne (by decide) hc) (by omega)).up (by omega)
     split
     . rename_i hc
       have hl:=isT_ne hc
       refine FN.bind ((takeK_fn 1 (by decide) ts.tail d).up (k':=2) (n':=ts.length) (by omega)) fun t ts1 d1 l1=>?_
       split
       . exact (tk _ ts1 d1 1 ts.length (by omega)).bind fun _ ts2 d2 l2=>(bin ts2 d2 ts.length (by omega) (by omega)).bind fun e ts3 d3 l3=>(tk _ ts3 d3 1 ts.length (by omega)).bind fun _ ts4 d4 l4=>FN.ok (by omega)
       . exact (tk _ ts1 d1 1 ts.length (by omega)).bind fun _ ts2 d2 l2=>FN.ok (by omega)
     split
     . rename_i hc;exact (X.ifs ts d (isT_ne hc) (by omega)).up (by omega)
     split
     . rename_i hc
       have hl:=isT_ne hc
       exact ((pCond_fn (f:=f) (ts:=ts.tail) (d:=d) (by omega)).up (k':=2) (n':=ts.length) (by omega)).bind fun e ts1 d1 l1=>((X.block ts1 d1 (by omega)).up (k':=2) (n':=ts.length) (by omega)).bind fun b ts2 d2 l2=>FN.ok (by omega)
     split
     . rename_i hc
       have hl:=isT_ne hc
       split
       . exact (tk _ ts.tail d 1 ts.length (by omega)).bind fun _ ts2 d2 l2=>FN.ok (by omega)
       . exact (bin ts.tail d ts.length (by omega) (by omega)).bind fun e ts3 d3 l3=>(tk _ ts3 d3 1 ts.length (by omega)).bind fun _ ts4 d4 l4=>FN.ok (by omega)
     split
     . rename_i hc
       have hl:=isT_ne hc
       exact (tk _ ts.tail d 1 ts.length (by omega)).bind fun _ ts2 d2 l2=>FN.ok (by omega)
     split
     . rename_i hc
       have hl:=isT_ne hc
       exact (tk _ ts.tail d 1 ts.length (by omega)).bind fun _ ts2 d2 l2=>FN.ok (by omega)
     . exact FN.err (by decide)
   . unfold pIf
     refine FN.bind ((pCond_fn (f:=f) (ts:=ts.tail) (d:=d) (by omega)).up (k':=2) (n':=ts.length) (by omega)) fun e ts1 d1 l1=>?_
     refine FN.bind ((X.block ts1 d1 (by omega)).up (k':=2) (n':=ts.length) (by omega)) fun b ts2 d2 l2=>?_
     split
     . rename_i hc
       have hl:=isT_ne hc
       split
       . rename_i hc2
         exact ((X.ifs ts2.tail d2 (isT_ne hc2) (by omega)).up (k':=2) (n':=ts.length) (by omega)).bind fun b ts2 d2 l2=>FN.ok (by omega)
       . exact ((X.block ts2.tail d2 (by omega)).up (k':=2) (n':=ts.length) (by omega)).bind fun b ts2 d2 l2=>FN.ok (by omega)
     . exact FN.ok (by omega)
   . rw [pNamed]
     split
     . exact (tk _ ts.tail d 1 ts.length (by omega)).bind fun _ ts2 d2 l2=>(bin ts2 d2 ts.length (by omega) (by omega)).bind fun e ts3 d3 l3=>(tk _ ts3 d3 1 ts.length (by omega)).bind fun _ ts4 d4 l4=>FN.ok (by omega)
     split
     . exact (tk _ ts.tail d 1 ts.length (by omega)).bind fun _ ts2 d2 l2=>(bin ts2 d2 ts.length (by omega) (by omega)).bind fun e ts3 d3 l3=>(tk _ ts3 d3 1 ts.length (by omega)).bind fun _ ts4 d4 l4=>
        (tk _ ts4 d4 1 ts.length (by omega)).bind fun _ ts5 d5 l5=>(bin ts5 d5 ts.length (by omega) (by omega)).bind fun e ts6 d6 l6=>(tk _ ts6 d6 1 ts.length (by omega)).bind fun _ ts7 d7 l7=>FN.ok (by omega)
     . exact ((Y.call _ ts.tail d (by omega)).up (k':=2) (n':=ts.length) (by omega)).bind fun e ts3 d3 l3=>(tk _ ts3 d3 1 ts.length (by omega)).bind fun _ ts4 d4 l4=>FN.ok (by omega)
theorem pGlobal_fn (ts:List Tok) (d:Int):FN 1 ts.length (pGlobal ts d):=by
 have tk:∀ (t:Bytes) (ts:List Tok) (d:Int) (n:Nat),ts.length+1<=n->FN 1 n (takeT t ts d):=fun t ts d n h=>(takeT_fn t ts d).up (by omega)
 have tkk:∀ (k:Nat) (_:k≠0) (ts:List Tok) (d:Int) (n:Nat),ts.length+1<=n->FN 1 n (takeK k ts d):=fun k hk ts d n h=>(takeK_fn k hk ts d).up (by omega)
 unfold pGlobal
 refine FN.bind (takeT_fn _ ts d) fun _ ts1 d1 l1=>?_
 refine FN.bind (tkk 1 (by decide) ts1 d1 ts.length l1) fun t ts2 d2 l2=>?_
 split
 . exact (tk _ ts2 d2 ts.length l2).bind fun _ ts3 d3 l3=>(tkk 2 (by decide) ts3 d3 ts.length l3).bind fun _ ts4 d4 l4=>(tk _ ts4 d4 ts.length l4).bind fun _ ts5 d5 l5=>FN.ok l5
 split
 . exact (tk _ ts2 d2 ts.length l2).bind fun _ ts3 d3 l3=>(tkk 2 (by decide) ts3 d3 ts.length l3).bind fun _ ts4 d4 l4=>(tk _ ts4 d4 ts.length l4).bind fun _ ts5 d5 l5=>(tk _ ts5 d5 ts.length l5).bind fun _ ts6 d6 l6=>FN.ok l6
 . exact (tk _ ts2 d2 ts.length l2).bind fun _ ts3 d3 l3=>FN.ok l3
theorem pMoreP_fn:∀ (f:Nat) (l:List Bytes) (ts:List Tok) (d:Int),ts.length+1<=f->FN 0 ts.length (pMoreP f l ts d)
 | 0,_,_,_,h=>by omega
 | f+1,l,ts,d,h=>by
   unfold pMoreP
   split
   . exact (takeT_fn _ ts d).bind fun _ ts1 d1 l1=>((takeK_fn 1 (by decide) ts1 d1).up (k':=1) (n':=ts.length) (by omega)).bind fun t ts2 d2 l2=>(pMoreP_fn f _ ts2 d2 (by omega)).up (by omega)
   . exact FN.ok (by omega)
theorem pFunc_fn {f:Nat} {ts:List Tok} {d:Int} (h:20 * ts.length+2<=f):FN 1 ts.length (pFunc f ts d):=by
 have tk:∀ (t:Bytes) (ts:List Tok) (d:Int) (n:Nat),ts.length+1<=n->FN 1 n (takeT t ts d):=fun t ts d n h=>(takeT_fn t ts d).up (by omega)
 have tkk:∀ (k:Nat) (_:k≠0) (ts:List Tok) (d:Int) (n:Nat),ts.length+1<=n->FN 1 n (takeK k ts d):=fun k hk ts d n h=>(takeK_fn k hk ts d).up (by omega)
 unfold pFunc
 refine FN.bind (takeT_fn _ ts d) fun _ ts1 d1 l1=>?_
 refine FN.bind (tkk 1 (by decide) ts1 d1 ts.length l1) fun t ts2 d2 l2=>?_
 refine FN.bind (tk _ ts2 d2 ts.length l2) fun t ts3 d3 l3=>?_
 refine FN.bind (k:=1) (n:=ts.length) ?_ fun ps ts4 d4 l4=>?_
 . unfold pParams
   split
   . exact FN.ok l3
   . exact (tkk 1 (by decide) ts3 d3 ts.length l3).bind fun t ts5 d5 l5=>(pMoreP_fn f _ ts5 d5 (by omega)).up (by omega)
 . refine FN.bind (tk _ ts4 d4 ts.length l4) fun t ts5 d5 l5=>?_
   exact (((fs f).block ts5 d5 (by omega)).up (k':=1) (n':=ts.length) (by omega)).bind fun b ts6 d6 l6=>FN.ok l6
theorem pProg_fn:∀ (f:Nat) (p:Pg) (ts:List Tok) (d:Int),20 * ts.length+10<=f->FN 0 ts.length (pProg f p ts d)
 | 0,_,_,_,h=>by omega
 | f+1,p,ts,d,h=>by
   unfold pProg
   split
   . exact FN.ok (by omega)
   split
   . exact (pGlobal_fn ts d).bind fun g ts1 d1 l1=>(pProg_fn f _ ts1 d1 (by omega)).up (by omega)
   . exact (pFunc_fn (f:=f) (by omega)).bind fun g ts1 d1 l1=>(pProg_fn f _ ts1 d1 (by omega)).up (by omega)
end Go.Sx
namespace Go.Proofs.D
open Go Go.Den Go.Sx
set_option maxRecDepth 100000
attribute [local irreducible] IntKind.wrap Tri marks words oneS
section
variable {e k : Nat} {h0 h h' : PHeap} {a : Option Addr} {n c : Nat} {css : List (List Value)}
theorem LM.keep (hk:∀ b,a=ad b 0->h' b=h b) (hL:LM e k h0 h a n c css):LM e k h0 h' a n c css:=by
 obtain ⟨h2,h3,h4,h5,h6⟩:=hL
 exact ⟨fun b hb=>⟨(h2 b hb).1,by rw [hk b hb];exact (h2 b hb).2⟩,h3,h4,Own.keep hk h5,h6⟩
theorem append_apart {h2:PHeap} {b:Nat} {cs:List Value}
 (hR:∀ {α:Type} {rel:PHeap->α->List Value->Prop} {xs:List α} {v:α},Mono rel->LR rel h0 h a css xs->rel (only (fun b=>New h0 b/\a≠ad b 0) h) v cs->LR rel h0 h2 (ad b 0) (css++[cs]) (xs++[v])):
 ∀ q o,New h0 q->a≠ad q 0->h q=some o->ad b 0≠ad q 0/\h2 q=some o:=by
 intro q o h1 h3 h4
 have hq:only (fun b=>New h0 b/\a≠ad b 0) h q=some o:=only_some.2 ⟨⟨h1,h3⟩,h4⟩
 have:=hR (α:=Unit) (rel:=fun H _ _=>H q=some o) (xs:=List.replicate css.length ()) (v:=()) ⟨fun x hh=>x _ _ hh⟩ ⟨by simp,fun j x cs _ _=>hq⟩ hq
 have h5:=this.2 css.length () cs (by simp) (by simp)
 have h6:=only_some.1 h5
 exact ⟨h6.1.2,h6.2⟩
end
def EL {α:Type} (rel:PHeap->α->List Value->Prop) (h0 h:PHeap) (a a':Option Addr) (css:List (List Value)) (xs:List α):Prop:=
 css.length=xs.length/\∀ (j:Nat) (x:α) (cs:List Value),xs[j]? =some x->css[j]? =some cs->rel (only (fun b=>New h0 b/\a≠ad b 0/\a'≠ad b 0) h) x cs
theorem EL.nil {α:Type} {rel:PHeap->α->List Value->Prop} {h0 h:PHeap} {a a':Option Addr}:EL rel h0 h a a' [] ([]:List α):=⟨rfl,fun j x cs hx=>by simp at hx⟩
theorem EL.mono {α:Type} {rel:PHeap->α->List Value->Prop} (hm:Mono rel) {h0 h h':PHeap} {a a' b b':Option Addr} {css:List (List Value)} {xs:List α} (hE:EL rel h0 h a a' css xs)
 (hx:∀ q o,New h0 q->a≠ad q 0->a'≠ad q 0->h q=some o->b≠ad q 0/\b'≠ad q 0/\h' q=some o):EL rel h0 h' b b' css xs:=
 ⟨hE.1,fun j x cs h1 h2=>hm.ap (only_ext fun q o hq ho=>let ⟨g1,g2,g3⟩:=hx q o hq.1 hq.2.1 hq.2.2 ho;⟨⟨hq.1,g1,g2⟩,g3⟩) (hE.2 j x cs h1 h2)⟩
theorem EL.snoc {α:Type} {rel:PHeap->α->List Value->Prop} {h0 h:PHeap} {a a':Option Addr} {css:List (List Value)} {xs:List α} {x:α} {cs:List Value} (hE:EL rel h0 h a a' css xs)
 (hx:rel (only (fun b=>New h0 b/\a≠ad b 0/\a'≠ad b 0) h) x cs):EL rel h0 h a a' (css++[cs]) (xs++[x]):=by
 refine ⟨by simp [hE.1],fun j y ds h1 h2=>?_⟩
 by_cases hj:j < xs.length
 . rw [List.getElem?_append_left hj] at h1
   rw [List.getElem?_append_left (by rw [hE.1];exact hj)] at h2
   exact hE.2 j y ds h1 h2
 . have:j=xs.length:=by
    have:=(List.getElem?_eq_some_iff.1 h1).1
    simp at this;omega
   subst this
   have e1:y=x:=by simpa using h1.symm
   have e2:ds=cs:=by rw [←hE.1] at h2;simpa using h2.symm
   subst e1;subst e2;exact hx
theorem EL.lr {α:Type} {rel:PHeap->α->List Value->Prop} (hm:Mono rel) {h0 h:PHeap} {a a':Option Addr} {css:List (List Value)} {xs:List α} (hE:EL rel h0 h a a' css xs):LR rel h0 h a css xs:=
 ⟨hE.1,fun j x cs h1 h2=>hm.ap (only_ext fun q o hq ho=>⟨⟨hq.1,hq.2.1⟩,ho⟩) (hE.2 j x cs h1 h2)⟩
theorem pProg_succ (f:Nat) (p:Pg) (ts:List Tok) (d:Int):pProg (f+1) p ts d=if isK ts 0 then .ok (p,ts,d)
 else if isT ts [118,97,114] then bindR (pGlobal ts d) fun g ts d=>pProg f ⟨p.globals++[g],p.funcs⟩ ts d
 else bindR (pFunc f ts d) fun g ts d=>pProg f ⟨p.globals,p.funcs++[g]⟩ ts d:=rfl
def ParseP (s:Bytes) (h:PHeap) (v:Value) (h':PHeap):Prop:=
 Ext h h'/\match parseS s with
  | .error e=>v=vT [vA [vL none 0 0,vL none 0 0],vI (place s e.2).1,vI (place s e.2).2,vI e.1]
  | .ok p=>∃ ga gc fa fc,v=vT [vA [vL ga p.globals.length gc,vL fa p.funcs.length fc],vI 0,vI 0,vI 0]/\At 5 (RG (plP s)) (only (New h) h') ga p.globals/\At 5 (RF (plP s) 8 7) (only (New h) h') fa p.funcs
def outP:R Pg->Except (Nat×Nat) Pg
 | .error e=> .error e
 | .ok (p,_,_)=> .ok p
theorem scanS_ok (s:Bytes):(∀ e,scanS s= .error e->e.1≠0)/\∀ ts,scanS s= .ok ts->Ended ts/\ts.length<=4097/\∀ t∈ts,t.kind=5->words.contains t.text=false:=by
 unfold scanS
 split
 . exact ⟨fun e h=>by cases h;exact (by decide:(5:Nat)≠0),fun ts h=>by cases h⟩
 . have:=scanL_ok (s.length+1) 0 s 0 (by omega) (by omega)
   exact ⟨this.1,fun ts h=>let ⟨a,b,c⟩:=this.2 ts h;⟨a,by omega,c⟩⟩
theorem ne_of {h:PHeap} {b:Nat} {o:Obj} (hb:h b=some o):h b≠none:=by rw [hb];exact fun e=>by cases e
theorem parse_tri (s:Bytes) (h:PHeap) (ht:L.EscTab h):Tri Tryz.prog 14 [vS s] h (ParseP s h):=by
 refine T14 ?_
 unfold R14
 refine Tri.mono (scan_tri s h ht) ?_
 rintro v h1 ⟨hx1,hv⟩
 have hso:=scanS_ok s
 cases hsc:scanS s with
 | error e=>
   rw [hsc] at hv
   have he:=hso.1 e hsc
   refine ⟨_,_,_,_,_,_,hv,br_pos ?_ ⟨hx1,?_⟩⟩
   . have:(e.1:Int)≠0:=by omega
     simpa using this
   . simp only [parseS,hsc]
 | ok ts=>
   rw [hsc] at hv
   obtain ⟨tb,tc,rfl,htb,htn,hT,htc⟩:=hv
   obtain ⟨hend,hlen,hwf⟩:=hso.2 ts hsc
   refine ⟨_,_,_,_,_,_,rfl,br_neg rfl ?_⟩
   intro b1 hb1 h2 hh2 b2 hb2 h3 hh3
   have hx2:Ext h1 h2:=Put.ext hh2 hb1
   have hx3:Ext h2 h3:=Put.ext hh3 hb2
   refine ⟨_,_,_,Put.at hh3,⟨by simp,Nat.zero_le _⟩,?_⟩
   intro h4 hh4
   have hc4:Chg b2 h3 h4:=Put.chg hh4
   have hq4:h4 b2=some (.cells ⟨[vP b1 0]⟩ 78 (0,0)):=Put.at hh4
   have hb12:b1≠b2:=fun e=>by subst e;rw [Put.at hh2] at hb2;cases hb2
   have hp4:h4 b1=some (.cells ⟨[vL (ad tb 0) ts.length tc,vI 0, .map none,vI 0,vI 0,vI 0]⟩ 81 (0,0)):=by
    rw [hc4 b1 hb12];exact hx3 _ _ (Put.at hh2)
   have hx4:Ext h1 h4:=fun k o hk=>by
    have hk2:k≠b2:=fun e=>by subst e;rw [hx2 _ _ hk] at hb2;cases hb2
    rw [hc4 k hk2];exact hx3 _ _ (hx2 _ _ hk)
   clear hh2 hh3 hh4 hc4 hx2 hx3 hb2 h2 h3
   refine ⟨b1,0,cell_of hq4 0,?_⟩
   refine raw_makeMap fun m1 hm1=>⟨m1,rfl,?_⟩
   have hmb1:m1≠b1:=fun e=>by subst e;rw [hp4] at hm1;cases hm1
   have hmb2:m1≠b2:=fun e=>by subst e;rw [hq4] at hm1;cases hm1
   have hch:∀ {g g':PHeap} {o:Obj},Chg m1 h4 g->g'=g.put m1 o->Chg m1 h4 g':=fun hc he=>hc.trans (Put.chg he)
   have hq:∀ {g:PHeap},Chg m1 h4 g->g b2=some (.cells ⟨[vP b1 0]⟩ 78 (0,0)):=fun hc=>by rw [hc b2 hmb2.symm];exact hq4
   have c5:Chg m1 h4 (h4.put m1 (.map ⟨[]⟩ 0)):=Chg.put _ _ _
   have m5:(h4.put m1 (.map ⟨[]⟩ 0)) m1=some (.map ⟨ents []⟩ 0):=put_same _ _ _
   generalize h4.put m1 (.map ⟨[]⟩ 0)=h5 at *
   refine ⟨b1,0,cell_of (hq c5) 0,?_⟩
   refine Raw.mono (raw_updS (.inr rfl) und79 und9 rfl rfl rfl m5) ?_
   rintro _ h6 ⟨rfl,k6,hh6,hk6⟩
   have c6:=hch c5 hh6
   have m6:=Put.at hh6
   rw [hk6 rfl] at m6
   refine ⟨rfl,b1,0,cell_of (hq c6) 0,?_⟩
   refine Raw.mono (raw_updS (.inr rfl) und79 und9 rfl rfl rfl m6) ?_
   rintro _ h7 ⟨rfl,k7,hh7,hk7⟩
   have c7:=hch c6 hh7
   have m7:=Put.at hh7
   rw [hk7 rfl] at m7
   refine ⟨rfl,b1,0,cell_of (hq c7) 0,?_⟩
   refine Raw.mono (raw_updS (.inr rfl) und79 und9 rfl rfl rfl m7) ?_
   rintro _ h8 ⟨rfl,k8,hh8,hk8⟩
   have c8:=hch c7 hh8
   have m8:=Put.at hh8
   rw [hk8 rfl] at m8
   refine ⟨rfl,b1,0,cell_of (hq c8) 0,?_⟩
   refine Raw.mono (raw_updS (.inr rfl) und79 und9 rfl rfl rfl m8) ?_
   rintro _ h9 ⟨rfl,k9,hh9,hk9⟩
   have c9:=hch c8 hh9
   have m9:=Put.at hh9
   rw [hk9 rfl] at m9
   refine ⟨rfl,?_⟩
   refine Raw.mono (raw_updS (.inr rfl) und79 und9 rfl rfl rfl m9) ?_
   rintro _ h10 ⟨rfl,k10,hh10,hk10⟩
   have c10:=hch c9 hh10
   have m10:=Put.at hh10
   rw [hk10 rfl] at m10
   refine ⟨rfl,?_⟩
   refine Raw.mono (raw_updS (.inr rfl) und79 und9 rfl rfl rfl m10) ?_
   rintro _ h11 ⟨rfl,k11,hh11,hk11⟩
   have c11:=hch c10 hh11
   have m11:=Put.at hh11
   have hp11:h11 b1=some (.cells ⟨[vL (ad tb 0) ts.length tc,vI 0, .map none,vI 0,vI 0,vI 0]⟩ 81 (0,0)):=by rw [c11 b1 hmb1.symm];exact hp4
   have hq11:=hq c11
   have hx11:Ext h1 h11:=fun k o hk=>by
    have:k≠m1:=fun e=>by subst e;rw [hx4 _ _ hk] at hm1;cases hm1
    rw [c11 k this];exact hx4 _ _ hk
   clear c5 c6 c7 c8 c9 c10 c11 m5 m6 m7 m8 m9 m10 hk6 hk7 hk8 hk9 hk10 hk11 hh6 hh7 hh8 hh9 hh10 hh11 hch hq h5 h6 h7 h8 h9 h10
   replace m11:h11 m1=some (.map (smap b1 b2) k11):=m11
   refine ⟨rfl,_,_,_,hp11,⟨by simp,Nat.zero_le _⟩,?_⟩
   intro h12 hh12
   have hp12:h12 b1=some (PB (vL (ad tb 0) ts.length tc) 0 m1 0 0 0):=Put.at hh12
   have c12:Chg b1 h11 h12:=Put.chg hh12
   have hq12:h12 b2=some (.cells ⟨[vP b1 0]⟩ 78 (0,0)):=by rw [c12 b2 hb12.symm];exact hq11
   have hm12:h12 m1=some (.map (smap b1 b2) k11):=by rw [c12 m1 hmb1];exact m11
   have hx12:Ext h1 h12:=fun k o hk=>by
    have:k≠b1:=fun e=>by subst e;rw [hk] at hb1;cases hb1
    rw [c12 k this];exact hx11 _ _ hk
   have hT12:TokRow s h12 tb 0 ts:=hT.ext fun ob=>hx12 _ ob
   have htb1:tb≠b1:=fun e=>by subst e;exact htn hb1
   have htb12:h12 tb≠none:=by
    cases e:h1 tb with
    | none=>exact absurd e htn
    | some o=>exact ne_of (hx12 _ _ e)
   clear hh12 c12 hp11 hq11 hx11 m11 h11 hx4 hm1 hp4 hq4 h4
   have hPOk:POk ⟨tb,m1,b2,k11⟩ s h12 b1 ts 0:=
    ⟨⟨0,tc,0,0,hp12,hT12,htc,hm12,hq12⟩,⟨htb12,ne_of hm12,ne_of hq12,htb1,hmb1,hb12.symm⟩,hend,by omega,by omega,by omega,hwf⟩
   have hp0:h12 b1≠none:=ne_of hp12
   have hI:=hPOk.isin
   have hx0:Ext h h12:=hx1.trans hx12
   have hfn:=(pProg_fn (20 * ts.length+40) ⟨[],[]⟩ ts 0 (by omega)).1
   have hpar:parseS s=outP (pProg (20 * ts.length+40) ⟨[],[]⟩ ts 0):=by
    unfold parseS;rw [hsc];rfl
   generalize hF:20 * ts.length+40=F at *
   have hFb:F<=100000:=by omega
   clear hF
   generalize hfin:pProg F ⟨[],[]⟩ ts 0=fin at *
   have hn:NF fin:=hfn 0
   clear hT hT12 hx12 htc htn hwf hend
   refine ⟨fun m ga gn gc fa fn fc h'=>∃ (r':R Pg) (cG cF:List (List Value)),gn+fn+m<=F/\Away b1 h12 h'/\LM 86 5 h12 h' ga gn gc cG/\LM 54 5 h12 h' fa fn fc cF/\(∀ b,fa=ad b 0->ga≠ad b 0)/\
    PX ⟨tb,m1,b2,k11⟩ s h' b1 r' (fun p=>LR (RG (plP s)) h12 h' ga cG p.globals/\EL (RF (plP s) 8 7) h12 h' fa ga cF p.funcs)/\(bindR r' fun p ts d=>pProg m p ts d)=fin,
    ⟨F, .ok (⟨[],[]⟩,ts,0),[],[],by omega,Away.refl _ _,LM.nil,LM.nil,(fun b e=>by cases e),⟨hPOk,LR.nil,EL.nil⟩,hfin⟩,?_⟩
   rintro m ga gn gc fa fn fc h13 ⟨r',cG,cF,hm,hA,hMG,hMF,hdis,hx,hf⟩
   have hbox:∀ {g:PHeap},Away b1 h12 g->g.cell b2 0=some (vP b1 0):=fun hA=>cell_of (hA _ _ hb12.symm hq12) 0
   obtain ⟨i,hi,hz⟩:=hx.ps.err
   have hxE:Ext h h13:=fun k o hk=>hA k o (fun e=>by subst e;rw [hx1 _ _ hk] at hb1;cases hb1) (hx0 k o hk)
   refine ⟨b1,0,hbox hA,i,hi,br_split (fun e=>?_) (fun e=>?_)⟩
   . obtain ⟨p,ts2,d2,rfl⟩:=okR_true (hz.symm.trans e)
     refine ⟨b1,0,hbox hA,?_⟩
     refine Tri.mono (isKind_tri hx.ps 0) ?_
     rintro _ h13 ⟨rfl,rfl⟩
     refine ⟨_,rfl,?_⟩
     rw [bindR_ok] at hf
     match m,hf,hm with
     | 0,hf,hm=>exact absurd hf.symm hn
     | m+1,hf,hm=>
     rw [pProg_succ] at hf
     refine br_split (fun e0=>?_) (fun e0=>?_)
     . have e0:isK ts2 0=false:=by simpa [isKr] using e0
       rw [if_neg (by rw [e0];decide)] at hf
       refine ⟨b1,0,hbox hA,?_⟩
       refine Tri.mono (is_tri hx.ps [118,97,114]) ?_
       rintro _ h13 ⟨rfl,rfl⟩
       refine ⟨_,rfl,br_split (fun e2=>?_) (fun e2=>?_)⟩
       . have e2:isT ts2 [118,97,114]=true:=by simpa [isTr] using e2
         rw [if_pos e2] at hf
         refine ⟨b1,0,hbox hA,?_⟩
         refine Tri.mono (global_tri (.ok ((),ts2,d2):R Unit) h13 hx.1) ?_
         rintro _ h16 ⟨c,rfl,hc16,hx16⟩
         refine ⟨_,_,_,_,_,rfl,rfl,?_⟩
         intro b3 hb3 h17 hh17
         refine ⟨rfl,?_⟩
         have hA16:Away b1 h12 h16:=hA.trans hc16.away
         have hd16:∀ b,h16 b=none->h12 b=none:=hA16.dom hx16.ps.mem
         refine Raw.mono (LM.append (h0:=h12) (cs:=c.l) und23 elem86 rfl rfl rfl rfl rfl (hMG.away hp0 hc16.away) hb3 hh17 rfl c.one (by omega) hd16) ?_
         rintro _ h18 ⟨b18,cap18,rfl,hk18,hd18,hn18,hq18,hM18,hR18⟩
         have hap:=append_apart hR18
         have hA18:Away b1 h12 h18:=fun k o hk ho=>hk18 k o (ne_of ho) (hA16 k o hk ho)
         have hMF16:=hMF.away hp0 hc16.away
         have hEx:=hx.2.2.mono (RF_mono _ _ _) (h':=h16) (b:=fa) (b':=ga) fun q o h1 h2 h3 h4=>⟨h2,h3,hc16.away q o (fun e=>by subst e;exact hp0 h1) h4⟩
         refine ⟨_,_,_,rfl,m,by omega,⟨mapR (fun g=>⟨p.globals++[g],p.funcs⟩) (pGlobal ts2 d2),cG++[c.l],cF,by omega,hA18,hM18,?_,?_,?_,?_⟩,trivial⟩
         . refine hMF16.keep fun q hq=>?_
           have h1:=(hMF16.own q hq)
           cases ho:h16 q with
           | none=>exact absurd ho h1.2
           | some o=>exact (hap q o h1.1 (hdis q hq) ho).2
         . intro q hq
           have h1:=(hMF16.own q hq)
           cases ho:h16 q with
           | none=>exact absurd ho h1.2
           | some o=>exact (hap q o h1.1 (hdis q hq) ho).1
         . refine (hx16.stay (rel':=fun g=>LR (RG (plP s)) h12 h18 (ad b18 0) (cG++[c.l]) (p.globals++[g])/\EL (RF (plP s) 8 7) h12 h18 fa (ad b18 0) cF p.funcs) (hI.old hp0 hk18) fun g hg=>⟨?_,?_⟩).map fun g hg=>hg
           . exact hR18 (RG_mono _) (hx.2.1.away (RG_mono _) hp0 hc16.away) hg
           . exact hEx.mono (RF_mono _ _ _) fun q o h1 h2 h3 h4=>⟨h2,hap q o h1 h3 h4⟩
         . rw [←hf];simp only [mapR,bindR_bind,bindR_ok]
       . have e2:isT ts2 [118,97,114]=false:=by simpa [isTr] using e2
         rw [if_neg (by rw [e2];decide)] at hf
         refine ⟨b1,0,hbox hA,?_⟩
         refine Tri.mono (is_tri hx.ps [102,117,110,99]) ?_
         rintro _ h13 ⟨rfl,rfl⟩
         refine ⟨_,rfl,br_split (fun e3=>?_) (fun e3=>?_)⟩
         . have e3:isT ts2 [102,117,110,99]=true:=by simpa [isTr] using e3
           refine ⟨b1,0,hbox hA,?_⟩
           have hnF:NF (pFunc m ts2 d2):=by rw [←hf] at hn;exact hn.bind
           refine Tri.mono (func_tri (f:=m) (by omega) (.ok ((),ts2,d2):R Unit) h13 hx.1 hnF) ?_
           rintro _ h20 ⟨c,rfl,hA20',hx20⟩
           refine ⟨_,_,_,_,_,_,_,_,_,rfl,rfl,?_⟩
           intro b4 hb4 h21 hh21
           refine ⟨rfl,?_⟩
           have hA20:Away b1 h12 h20:=hA.trans hA20'
           have hd20:∀ b,h20 b=none->h12 b=none:=hA20.dom hx20.ps.mem
           refine Raw.mono (LM.append (h0:=h12) (cs:=c.l) und24 elem54 rfl rfl rfl rfl rfl (hMF.away hp0 hA20') hb4 hh21 rfl c.one (by omega) hd20) ?_
           rintro _ h22 ⟨b22,cap22,rfl,hk22,hd22,hn22,hq22,hM22,hR22⟩
           have hap:=append_apart hR22
           have hA22:Away b1 h12 h22:=fun k o hk ho=>hk22 k o (ne_of ho) (hA20 k o hk ho)
           have hMG20:=hMG.away hp0 hA20'
           have hEx:=hx.2.2.mono (RF_mono _ _ _) (h':=h20) (b:=fa) (b':=ga) fun q o h1 h2 h3 h4=>⟨h2,h3,hA20' q o (fun e=>by subst e;exact hp0 h1) h4⟩
           have hdis':∀ b,ga=ad b 0->fa≠ad b 0:=fun b h1 h2=>hdis b h2 h1
           refine ⟨_,_,_,rfl,m,by omega,⟨mapR (fun g=>⟨p.globals,p.funcs++[g]⟩) (pFunc m ts2 d2),cG,cF++[c.l],by omega,hA22,?_,hM22,?_,?_,?_⟩,trivial⟩
           . refine hMG20.keep fun q hq=>?_
             have h1:=(hMG20.own q hq)
             cases ho:h20 q with
             | none=>exact absurd ho h1.2
             | some o=>exact (hap q o h1.1 (hdis' q hq) ho).2
           . intro q hq hg
             have h1:=(hMG20.own q hg)
             cases ho:h20 q with
             | none=>exact absurd ho h1.2
             | some o=>exact (hap q o h1.1 (hdis' q hg) ho).1 hq
           . refine (hx20.stay (rel':=fun g=>LR (RG (plP s)) h12 h22 ga cG p.globals/\EL (RF (plP s) 8 7) h12 h22 (ad b22 0) ga (cF++[c.l]) (p.funcs++[g])) (hI.old hp0 hk22) fun g hg=>⟨⟨hx.2.1.1,hx.2.1.2⟩,?_⟩).map fun g hg=>hg
             refine (hEx.snoc (x:=g) (cs:=c.l) ((RF_mono _ _ _).ap ?_ hg)).mono (RF_mono _ _ _) fun q o h1 h2 h3 h4=>⟨(hap q o h1 h2 h4).1,h3,(hap q o h1 h2 h4).2⟩
             exact only_ext fun q o hq ho=>⟨⟨hA.dom (PS.mem (r:=(.ok ((),ts2,d2):R Unit)) hx.1) q hq,fun e=>(hMF.own q e).2 hq,fun e=>(hMG.own q e).2 hq⟩,ho⟩
           . rw [←hf];simp only [mapR,bindR_bind,bindR_ok]
         . have e3:isT ts2 [102,117,110,99]=false:=by simpa [isTr] using e3
           have hpf:pFunc m ts2 d2= .error (30,(hd ts2).pos):=by simp [pFunc,takeT,e3,bindR]
           rw [hpf] at hf
           refine ⟨b1,0,hbox hA,?_⟩
           refine Tri.mono (fail_tri (β:=Pg) hx.ps 30 (by decide)) ?_
           rintro _ h23 ⟨rfl,hc23,hP23⟩
           refine ⟨rfl,m,by omega,⟨.error (30,(hd ts2).pos),cG,cF,by omega,hA.trans hc23.away,hMG.away hp0 hc23.away,hMF.away hp0 hc23.away,hdis,hP23,hf⟩,trivial⟩
     . have e0:isK ts2 0=true:=by simpa [isKr] using e0
       rw [if_pos e0] at hf
       refine ⟨b1,0,hbox hA,i,hi,br_neg ?_ ⟨hxE,?_⟩⟩
       . have:i=0:=by simpa using e
         subst this;rfl
       . rw [hpar,←hf]
         refine ⟨ga,gc,fa,fc,?_,?_,?_⟩
         . rw [←hx.2.1.1,←hx.2.2.1,hMG.len,hMF.len]
         . exact (hMG.at (RG_mono _) hx.2.1).ext (RG_mono _) (only_new fun k hk=>by
            cases e:h k with
            | none=>rfl
            | some o=>rw [hx0 _ _ e] at hk;cases hk)
         . exact (hMF.at (RF_mono _ _ _) (hx.2.2.lr (RF_mono _ _ _))).ext (RF_mono _ _ _) (only_new fun k hk=>by
            cases e:h k with
            | none=>rfl
            | some o=>rw [hx0 _ _ e] at hk;cases hk)
   . obtain ⟨x,rfl⟩:=okR_false (hz.symm.trans e)
     have hxe:PErr ⟨tb,m1,b2,k11⟩ s h13 b1 x:=hx
     obtain ⟨g0,_,a',n',c',d',m',hpe⟩:=hxe
     have hb:=hbox hA
     refine ⟨b1,0,hb,_,PB_cell hpe 5,br_pos ?_ ?_⟩
     . have:(x.1:Int)≠0:=by omega
       simpa using this
     . refine ⟨b1,0,hb,_,PB_cell hpe 3,b1,0,hb,_,PB_cell hpe 4,b1,0,hb,_,PB_cell hpe 5,PB_cell hpe 5,hb,PB_cell hpe 4,hb,PB_cell hpe 3,hb,hxE,?_⟩
       rw [hpar,←hf];rfl
end Go.Proofs.D
namespace Go.Sx
structure PO (PT:Tok->Prop) (PX:Nat->Prop):Prop where
 z:PX 0
 t:∀ t,PT t->PX t.pos
structure ClE (PT:Tok->Prop) (PX:Nat->Prop) (PE:E->Prop):Prop extends PO PT PX where
 c1:∀ t,PT t->t.kind=2->PE (.mk 1 [] [] t.value [] [] t.pos)
 c2:∀ t,PT t->t.kind=3->PE (.mk 2 [] [] 0 t.bytes [] t.pos)
 c3:∀ t,PT t->t.kind=1->PE (.mk 3 [] t.text 0 [] [] t.pos)
 c4:∀ t e,PT t->t.kind=1->PE e->PE (.mk 4 [] t.text 0 [] [e] t.pos)
 c5:∀ t l,PT t->t.kind=1->(∀ e∈l,PE e)->PE (.mk 5 [] t.text 0 [] l t.pos)
 c6:∀ t e,PT t->(t.text=[45]∨t.text=[33]∨t.text=[126])->PE e->PE (.mk 6 t.text [] 0 [] [e] t.pos)
 c7:∀ t e e',PT t->t.kind=5->1<=levelS t.text->levelS t.text<=10->PE e->PE e'->PE (.mk 7 t.text [] 0 [] [e,e'] t.pos)
structure ClS (PT:Tok->Prop) (PX:Nat->Prop) (PE:E->Prop) (PS:S->Prop):Prop extends ClE PT PX PE where
 s1:∀ t u l,PT t->PT u->u.kind=1->(l=[]∨∃ e,l=[e]/\PE e)->PS (.mk 1 u.text l [] [] t.pos)
 s2:∀ t e,PT t->t.kind=1->PE e->PS (.mk 2 t.text [e] [] [] t.pos)
 s3:∀ t i e,PT t->t.kind=1->PE i->PE e->PS (.mk 3 t.text [i,e] [] [] t.pos)
 s4:∀ t l,PT t->t.kind=1->(∀ e∈l,PE e)->PS (.mk 4 [] [.mk 5 [] t.text 0 [] l t.pos] [] [] t.pos)
 s5:∀ t e b c,PT t->PE e->(∀ s∈b,PS s)->(∀ s∈c,PS s)->PS (.mk 5 [] [e] b c t.pos)
 s6:∀ t e b,PT t->PE e->(∀ s∈b,PS s)->PS (.mk 6 [] [e] b [] t.pos)
 s7:∀ t l,PT t->(l=[]∨∃ e,l=[e]/\PE e)->PS (.mk 7 [] l [] [] t.pos)
 s8:∀ t,PT t->PS (.mk 8 [] [] [] [] t.pos)
 s9:∀ t,PT t->PS (.mk 9 [] [] [] [] t.pos)
def TB (PT:Tok->Prop) (ts:List Tok):Prop:=∀ t∈ts,PT t
def RP {α:Type} (PT:Tok->Prop) (PX:Nat->Prop) (P:α->Prop) (r:R α):Prop:=(∀ x ts d,r= .ok (x,ts,d)->P x/\TB PT ts)/\∀ e,r= .error e->PX e.2
section
variable {PT : Tok → Prop} {PX : Nat → Prop} {PE : E → Prop} {PS : S → Prop}
theorem TB.tail {ts:List Tok} (h:TB PT ts):TB PT ts.tail:=fun t ht=>h t (List.mem_of_mem_tail ht)
theorem TB.hd {ts:List Tok} {n:Nat} (h:TB PT ts) (hl:ts.tail.length+1=ts.length):PT (hd ts):=by
 cases ts with
 | nil=>simp at hl
 | cons t ts=>exact h t (List.mem_cons_self ..)
theorem TB.hdK {ts:List Tok} {k:Nat} (h:TB PT ts) (hk:k≠0) (e:isK ts k=true):PT (Go.Sx.hd ts)/\(Go.Sx.hd ts).kind=k:=⟨h.hd (n:=0) (isK_ne hk e),by simpa [isK] using e⟩
theorem TB.hdT {ts:List Tok} {t:Bytes} (h:TB PT ts) (e:isT ts t=true):PT (Go.Sx.hd ts)/\(Go.Sx.hd ts).text=t:=⟨h.hd (n:=0) (isT_ne e),by
 simp only [isT,Bool.and_eq_true,beq_iff_eq] at e;exact e.2⟩
theorem TB.px (O:PO PT PX) {ts:List Tok} (h:TB PT ts):PX (Go.Sx.hd ts).pos:=by
 cases ts with
 | nil=>exact O.z
 | cons t ts=>exact O.t t (h t (List.mem_cons_self ..))
theorem RP.bind {α β:Type} {P:α->Prop} {P':β->Prop} {r:R α} {g:α->List Tok->Int->R β} (h:RP PT PX P r) (hg:∀ x ts d,P x->TB PT ts->RP PT PX P' (g x ts d)):RP PT PX P' (bindR r g):=by
 match r,h with
 | .error e,h=>exact ⟨(fun x ts d hx=>by cases hx),fun e' he=>h.2 e' (by injection he with he;rw [he])⟩
 | .ok (x,ts,d),h=>exact hg x ts d (h.1 x ts d rfl).1 (h.1 x ts d rfl).2
theorem RP.ok {α:Type} {P:α->Prop} {x:α} {ts:List Tok} {d:Int} (h1:P x) (h2:TB PT ts):RP PT PX P (.ok (x,ts,d):R α):=⟨(fun y us e hy=>by cases hy;exact ⟨h1,h2⟩),fun e he=>by cases he⟩
theorem RP.err {α:Type} {P:α->Prop} {e:Nat×Nat} (h:PX e.2):RP PT PX P (.error e:R α):=⟨(fun y us d hy=>by cases hy),fun e' he=>by injection he with he;rw [←he];exact h⟩
theorem takeT_rp (O:PO PT PX) {t:Bytes} {ts:List Tok} {d:Int} (h:TB PT ts):RP PT PX (fun _=>True) (takeT t ts d):=by
 unfold takeT
 split
 . exact RP.err (h.px O)
 . split
   . split
     . exact RP.err (h.px O)
     . exact RP.ok trivial h.tail
   . split
     . exact RP.ok trivial h.tail
     . exact RP.ok trivial h.tail
theorem takeK_rp (O:PO PT PX) {k:Nat} (hk:k≠0) {ts:List Tok} {d:Int} (h:TB PT ts):RP PT PX (fun t=>PT t/\t.kind=k) (takeK k ts d):=by
 unfold takeK
 split
 . rename_i e
   exact RP.ok (h.hdK hk e) h.tail
 . exact RP.err (h.px O)
structure GX (PT:Tok->Prop) (PX:Nat->Prop) (PE:E->Prop) (f:Nat):Prop where
 bin:∀ lv ts d,1<=lv->TB PT ts->RP PT PX PE (pBin f lv ts d)
 loop:∀ lv e ts d,1<=lv->lv<=10->PE e->TB PT ts->RP PT PX PE (pLoop f lv e ts d)
 un:∀ ts d,TB PT ts->RP PT PX PE (pUn f ts d)
 prim:∀ ts d,TB PT ts->RP PT PX PE (pPrim f ts d)
 name:∀ ts d,isK ts 1=true->TB PT ts->RP PT PX PE (pName f ts d)
 call:∀ t ts d,PT t->t.kind=1->TB PT ts->RP PT PX (fun e=>PE e/\∃ l,e= .mk 5 [] t.text 0 [] l t.pos/\∀ x∈l,PE x) (pCall f t ts d)
 args:∀ ts d,TB PT ts->RP PT PX (fun l=>∀ e∈l,PE e) (pArgs f ts d)
 more:∀ l ts d,(∀ e∈l,PE e)->TB PT ts->RP PT PX (fun l=>∀ e∈l,PE e) (pMore f l ts d)
theorem RP.mono {α:Type} {P P':α->Prop} {r:R α} (h:RP PT PX P r) (hp:∀ x,P x->P' x):RP PT PX P' r:=⟨fun x ts d hx=>⟨hp x (h.1 x ts d hx).1,(h.1 x ts d hx).2⟩,h.2⟩
theorem gx (C:ClE PT PX PE):∀ f,GX PT PX PE f
 | 0=>⟨fun lv ts d _ _=>by unfold pBin;exact RP.err C.z,fun lv e ts d _ _ _ _=>by unfold pLoop;exact RP.err C.z,fun ts d _=>by unfold pUn;exact RP.err C.z,fun ts d _=>by unfold pPrim;exact RP.err C.z,fun ts d _ _=>by unfold pName;exact RP.err C.z,
    fun t ts d _ _ _=>by unfold pCall;exact RP.err C.z,fun ts d _=>by unfold pArgs;exact RP.err C.z,fun l ts d _ _=>by unfold pMore;exact RP.err C.z⟩
 | f+1=>by
   have X:=gx C f
   have O:=C.toPO
   refine ⟨fun lv ts d h1 h=>?_,fun lv e ts d h1 h2 he h=>?_,fun ts d h=>?_,fun ts d h=>?_,fun ts d hk h=>?_,fun t ts d ht hk h=>?_,fun ts d h=>?_,fun l ts d hl h=>?_⟩
   . unfold pBin
     split
     . exact X.un ts d h
     . rename_i hlv
       refine (X.bin (lv+1) ts d (by omega) h).bind fun e ts' d' he ht=>?_
       by_cases h10:lv<=10
       . exact X.loop lv e ts' d' h1 h10 he ht
       . -- no operator has such a level
         match f with
         | 0=>unfold pLoop;exact RP.err C.z
         | f+1=>
           unfold pLoop
           split
           . rename_i hc
             exfalso
             simp only [Bool.and_eq_true,beq_iff_eq] at hc
             have:levelS (hd ts').text<=10:=by
              unfold levelS;repeat' split
              all_goals omega
             omega
           . exact RP.ok he ht
   . unfold pLoop
     split
     . rename_i hc
       simp only [Bool.and_eq_true,beq_iff_eq] at hc
       have h5:=h.hdK (by decide) hc.1
       exact (X.bin (lv+1) ts.tail d (by omega) h.tail).bind fun e' ts' d' he' ht=>X.loop lv _ ts' d' h1 h2 (C.c7 _ e e' h5.1 h5.2 (by omega) (by omega) he he') ht
     . exact RP.ok he h
   . unfold pUn
     split
     . rename_i hc
       have ht:PT (hd ts)/\((hd ts).text=[45]∨(hd ts).text=[33]∨(hd ts).text=[126]):=by
        simp only [Bool.or_eq_true] at hc
        rcases hc with (hc | hc) | hc
        . exact ⟨(h.hdT hc).1, .inl (h.hdT hc).2⟩
        . exact ⟨(h.hdT hc).1, .inr (.inl (h.hdT hc).2)⟩
        . exact ⟨(h.hdT hc).1, .inr (.inr (h.hdT hc).2)⟩
       exact (X.un ts.tail d h.tail).bind fun e ts' d' he ht'=>RP.ok (C.c6 _ e ht.1 ht.2 he) ht'
     . exact X.prim ts d h
   . unfold pPrim
     split
     . rename_i hc;have:=h.hdK (by decide) hc;exact RP.ok (C.c1 _ this.1 this.2) h.tail
     split
     . rename_i hc;have:=h.hdK (by decide) hc;exact RP.ok (C.c2 _ this.1 this.2) h.tail
     split
     . rename_i hc;exact X.name ts d hc h
     exact (takeT_rp O h).bind fun _ ts1 d1 _ h1=>(X.bin 1 ts1 d1 (by omega) h1).bind fun e ts2 d2 he h2=>(takeT_rp O h2).bind fun _ ts3 d3 _ h3=>RP.ok he h3
   . unfold pName
     have hh:=h.hdK (by decide) hk
     split
     . exact (X.call _ ts.tail d hh.1 hh.2 h.tail).mono fun e he=>he.1
     split
     . exact (takeT_rp O h.tail).bind fun _ ts1 d1 _ h1=>(X.bin 1 ts1 d1 (by omega) h1).bind fun e ts2 d2 he h2=>(takeT_rp O h2).bind fun _ ts3 d3 _ h3=>RP.ok (C.c4 _ e hh.1 hh.2 he) h3
     . exact RP.ok (C.c3 _ hh.1 hh.2) h.tail
   . unfold pCall
     exact (takeT_rp O h).bind fun _ ts1 d1 _ h1=>(X.args ts1 d1 h1).bind fun l ts2 d2 hl h2=>(takeT_rp O h2).bind fun _ ts3 d3 _ h3=>RP.ok ⟨C.c5 _ l ht hk hl,l,rfl,hl⟩ h3
   . unfold pArgs
     split
     . exact RP.ok (fun e he=>by cases he) h
     . exact (X.bin 1 ts d (by omega) h).bind fun e ts' d' he h1=>X.more _ ts' d' (fun x hx=>by simp at hx;subst hx;exact he) h1
   . unfold pMore
     split
     . exact (takeT_rp O h).bind fun _ ts1 d1 _ h1=>(X.bin 1 ts1 d1 (by omega) h1).bind fun e ts' d' he h2=>X.more _ ts' d' (fun x hx=>by
        rw [List.mem_append] at hx
        rcases hx with hx | hx
        . exact hl x hx
        . simp at hx;subst hx;exact he) h2
     . exact RP.ok hl h
theorem pCond_rp (C:ClE PT PX PE) {f:Nat} {ts:List Tok} {d:Int} (h:TB PT ts):RP PT PX PE (pCond f ts d):=by
 have O:=C.toPO
 unfold pCond
 exact (takeT_rp O h).bind fun _ ts1 d1 _ h1=>((gx C f).bin 1 ts1 d1 (by omega) h1).bind fun e ts2 d2 he h2=>(takeT_rp O h2).bind fun _ ts3 d3 _ h3=>RP.ok he h3
structure GS (PT:Tok->Prop) (PX:Nat->Prop) (PS:S->Prop) (f:Nat):Prop where
 block:∀ ts d,TB PT ts->RP PT PX (fun l=>∀ s∈l,PS s) (pBlock f ts d)
 stmts:∀ l ts d,(∀ s∈l,PS s)->TB PT ts->RP PT PX (fun l=>∀ s∈l,PS s) (pStmts f l ts d)
 stmt:∀ ts d,TB PT ts->RP PT PX PS (pStmt f ts d)
 ifs:∀ ts d,PT (hd ts)->TB PT ts->RP PT PX PS (pIf f ts d)
 named:∀ ts d,isK ts 1=true->TB PT ts->RP PT PX PS (pNamed f ts d)
theorem gs (C:ClS PT PX PE PS):∀ f,GS PT PX PS f
 | 0=>⟨fun ts d _=>by unfold pBlock;exact RP.err C.z,fun l ts d _ _=>by unfold pStmts;exact RP.err C.z,fun ts d _=>by unfold pStmt;exact RP.err C.z,fun ts d _ _=>by unfold pIf;exact RP.err C.z,fun ts d _ _=>by rw [pNamed];exact RP.err C.z⟩
 | f+1=>by
   have X:=gs C f
   have O:=C.toPO
   have Y:=gx C.toClE f
   refine ⟨fun ts d h=>?_,fun l ts d hl h=>?_,fun ts d h=>?_,fun ts d hk h=>?_,fun ts d hk h=>?_⟩
   . unfold pBlock
     exact (takeT_rp O h).bind fun _ ts1 d1 _ h1=>X.stmts _ ts1 d1 (fun s hs=>by cases hs) h1
   . unfold pStmts
     split
     . exact (takeT_rp O h).bind fun _ ts1 d1 _ h1=>RP.ok hl h1
     . exact (X.stmt ts d h).bind fun s ts1 d1 hs h1=>X.stmts _ ts1 d1 (fun x hx=>by
        rw [List.mem_append] at hx
        rcases hx with hx | hx
        . exact hl x hx
        . simp at hx;subst hx;exact hs) h1
   . unfold pStmt
     split
     . rename_i hc;exact X.named ts d hc h
     split
     . rename_i hc
       have hh:=(h.hdT hc).1
       refine (takeK_rp O (by decide) h.tail).bind fun t ts1 d1 ht h1=>?_
       split
       . exact (takeT_rp O h1).bind fun _ ts2 d2 _ h2=>(Y.bin 1 ts2 d2 (by omega) h2).bind fun e ts3 d3 he h3=>(takeT_rp O h3).bind fun _ ts4 d4 _ h4=>RP.ok (C.s1 _ t _ hh ht.1 ht.2 (.inr ⟨e,rfl,he⟩)) h4
       . exact (takeT_rp O h1).bind fun _ ts2 d2 _ h2=>RP.ok (C.s1 _ t _ hh ht.1 ht.2 (.inl rfl)) h2
     split
     . rename_i hc;exact X.ifs ts d (h.hdT hc).1 h
     split
     . rename_i hc
       have hh:=(h.hdT hc).1
       exact (pCond_rp C.toClE h.tail).bind fun e ts1 d1 he h1=>(X.block ts1 d1 h1).bind fun b ts2 d2 hb h2=>RP.ok (C.s6 _ e b hh he hb) h2
     split
     . rename_i hc
       have hh:=(h.hdT hc).1
       split
       . exact (takeT_rp O h.tail).bind fun _ ts2 d2 _ h2=>RP.ok (C.s7 _ _ hh (.inl rfl)) h2
       . exact (Y.bin 1 ts.tail d (by omega) h.tail).bind fun e ts3 d3 he h3=>(takeT_rp O h3).bind fun _ ts4 d4 _ h4=>RP.ok (C.s7 _ _ hh (.inr ⟨e,rfl,he⟩)) h4
     split
     . rename_i hc
       exact (takeT_rp O h.tail).bind fun _ ts2 d2 _ h2=>RP.ok (C.s8 _ (h.hdT hc).1) h2
     split
     . rename_i hc
       exact (takeT_rp O h.tail).bind fun _ ts2 d2 _ h2=>RP.ok (C.s9 _ (h.hdT hc).1) h2
     . exact RP.err (h.px O)
   . unfold pIf
     refine (pCond_rp C.toClE h.tail).bind fun e ts1 d1 he h1=>?_
     refine (X.block ts1 d1 h1).bind fun b ts2 d2 hb h2=>?_
     split
     . split
       . rename_i hc2
         exact (X.ifs ts2.tail d2 (h2.tail.hdT hc2).1 h2.tail).bind fun s ts3 d3 hs h3=>RP.ok (C.s5 _ e b [s] hk he hb (fun x hx=>by simp at hx;subst hx;exact hs)) h3
       . exact (X.block ts2.tail d2 h2.tail).bind fun c ts3 d3 hc h3=>RP.ok (C.s5 _ e b c hk he hb hc) h3
     . exact RP.ok (C.s5 _ e b [] hk he hb (fun x hx=>by cases hx)) h2
   . rw [pNamed]
     have hh:=h.hdK (by decide) hk
     split
     . exact (takeT_rp O h.tail).bind fun _ ts2 d2 _ h2=>(Y.bin 1 ts2 d2 (by omega) h2).bind fun e ts3 d3 he h3=>(takeT_rp O h3).bind fun _ ts4 d4 _ h4=>RP.ok (C.s2 _ e hh.1 hh.2 he) h4
     split
     . exact (takeT_rp O h.tail).bind fun _ ts2 d2 _ h2=>(Y.bin 1 ts2 d2 (by omega) h2).bind fun i ts3 d3 hi h3=>(takeT_rp O h3).bind fun _ ts4 d4 _ h4=>(takeT_rp O h4).bind fun _ ts5 d5 _ h5=>
        (Y.bin 1 ts5 d5 (by omega) h5).bind fun e ts6 d6 he h6=>(takeT_rp O h6).bind fun _ ts7 d7 _ h7=>RP.ok (C.s3 _ i e hh.1 hh.2 hi he) h7
     . refine (Y.call _ ts.tail d hh.1 hh.2 h.tail).bind fun e ts3 d3 he h3=>?_
       obtain ⟨_,l,rfl,hl⟩:=he
       exact (takeT_rp O h3).bind fun _ ts4 d4 _ h4=>RP.ok (C.s4 _ l hh.1 hh.2 hl) h4
structure ClP (PT:Tok->Prop) (PX:Nat->Prop) (PE:E->Prop) (PS:S->Prop) (PG:G->Prop) (PF:F->Prop):Prop extends ClS PT PX PE PS where
 g0:∀ t,PT t->t.kind=1->PG ⟨t.text,0,0,t.pos⟩
 g1:∀ t n,PT t->t.kind=1->PT n->n.kind=2->PG ⟨t.text,0,n.value,t.pos⟩
 g2:∀ t n,PT t->t.kind=1->PT n->n.kind=2->PG ⟨t.text,n.value,0,t.pos⟩
 f1:∀ t ps b,PT t->t.kind=1->(∀ q∈ps,∃ u,PT u/\u.kind=1/\u.text=q)->(∀ s∈b,PS s)->PF ⟨t.text,ps,b,t.pos⟩
variable {PG : G → Prop} {PF : F → Prop}
theorem pGlobal_rp (C:ClP PT PX PE PS PG PF) {ts:List Tok} {d:Int} (h:TB PT ts):RP PT PX PG (pGlobal ts d):=by
 have O:=C.toPO
 unfold pGlobal
 refine (takeT_rp O h).bind fun _ ts1 d1 _ h1=>(takeK_rp O (by decide) h1).bind fun t ts2 d2 ht h2=>?_
 split
 . exact (takeT_rp O h2).bind fun _ ts3 d3 _ h3=>(takeK_rp O (by decide) h3).bind fun n ts4 d4 hn h4=>(takeT_rp O h4).bind fun _ ts5 d5 _ h5=>RP.ok (C.g1 t n ht.1 ht.2 hn.1 hn.2) h5
 split
 . exact (takeT_rp O h2).bind fun _ ts3 d3 _ h3=>(takeK_rp O (by decide) h3).bind fun n ts4 d4 hn h4=>(takeT_rp O h4).bind fun _ ts5 d5 _ h5=>(takeT_rp O h5).bind fun _ ts6 d6 _ h6=>RP.ok (C.g2 t n ht.1 ht.2 hn.1 hn.2) h6
 . exact (takeT_rp O h2).bind fun _ ts3 d3 _ h3=>RP.ok (C.g0 t ht.1 ht.2) h3
theorem pMoreP_rp (O:PO PT PX):∀ (f:Nat) (l:List Bytes) (ts:List Tok) (d:Int),(∀ q∈l,∃ u,PT u/\u.kind=1/\u.text=q)->TB PT ts->RP PT PX (fun l=>∀ q∈l,∃ u,PT u/\u.kind=1/\u.text=q) (pMoreP f l ts d)
 | 0,_,_,_,_,_=>RP.err O.z
 | f+1,l,ts,d,hl,h=>by
   unfold pMoreP
   split
   . exact (takeT_rp O h).bind fun _ ts1 d1 _ h1=>(takeK_rp O (by decide) h1).bind fun t ts2 d2 ht h2=>pMoreP_rp O f _ ts2 d2 (fun q hq=>by
      rw [List.mem_append] at hq
      rcases hq with hq | hq
      . exact hl q hq
      . simp at hq;subst hq;exact ⟨t,ht.1,ht.2,rfl⟩) h2
   . exact RP.ok hl h
theorem pFunc_rp (C:ClP PT PX PE PS PG PF) {f:Nat} {ts:List Tok} {d:Int} (h:TB PT ts):RP PT PX PF (pFunc f ts d):=by
 have O:=C.toPO
 unfold pFunc
 refine (takeT_rp O h).bind fun _ ts1 d1 _ h1=>(takeK_rp O (by decide) h1).bind fun t ts2 d2 ht h2=>(takeT_rp O h2).bind fun _ ts3 d3 _ h3=>?_
 refine RP.bind (P:=fun l=>∀ q∈l,∃ u,PT u/\u.kind=1/\u.text=q) ?_ fun ps ts4 d4 hps h4=>(takeT_rp O h4).bind fun _ ts5 d5 _ h5=>((gs C.toClS f).block ts5 d5 h5).bind fun b ts6 d6 hb h6=>RP.ok (C.f1 t ps b ht.1 ht.2 hps hb) h6
 unfold pParams
 split
 . exact RP.ok (fun q hq=>by cases hq) h3
 . exact (takeK_rp O (by decide) h3).bind fun t ts5 d5 ht h5=>pMoreP_rp O f _ ts5 d5 (fun q hq=>by simp at hq;subst hq;exact ⟨t,ht.1,ht.2,rfl⟩) h5
theorem pProg_rp (C:ClP PT PX PE PS PG PF):∀ (f:Nat) (p:Pg) (ts:List Tok) (d:Int),(∀ g∈p.globals,PG g)->(∀ g∈p.funcs,PF g)->TB PT ts->RP PT PX (fun p=>(∀ g∈p.globals,PG g)/\∀ g∈p.funcs,PF g) (pProg f p ts d)
 | 0,_,_,_,_,_,_=>RP.err C.z
 | f+1,p,ts,d,hg,hf,h=>by
   unfold pProg
   split
   . exact RP.ok ⟨hg,hf⟩ h
   split
   . exact (pGlobal_rp C h).bind fun g ts1 d1 h1 h2=>pProg_rp C f _ ts1 d1 (fun x hx=>by
      rw [List.mem_append] at hx
      rcases hx with hx | hx
      . exact hg x hx
      . simp at hx;subst hx;exact h1) hf h2
   . exact (pFunc_rp C (f:=f) h).bind fun g ts1 d1 h1 h2=>pProg_rp C f _ ts1 d1 hg (fun x hx=>by
      rw [List.mem_append] at hx
      rcases hx with hx | hx
      . exact hf x hx
      . simp at hx;subst hx;exact h1) h2
end
end Go.Sx
namespace Go.Sx
mutual
def cntE:E->Nat
 | .mk _ _ _ _ _ args _=>cntEs args+1
def cntEs:List E->Nat
 | []=>0
 | e::es=>cntE e+cntEs es
end
mutual
def cntS:S->Nat
 | .mk _ _ args body els _=>cntEs args+cntSs body+cntSs els+1
def cntSs:List S->Nat
 | []=>0
 | s::ss=>cntS s+cntSs ss
end
theorem cntEs_append:∀ (l m:List E),cntEs (l++m)=cntEs l+cntEs m
 | [],m=>by simp [cntEs]
 | e::l,m=>by simp [cntEs,cntEs_append l m];omega
theorem cntSs_append:∀ (l m:List S),cntSs (l++m)=cntSs l+cntSs m
 | [],m=>by simp [cntSs]
 | e::l,m=>by simp [cntSs,cntSs_append l m];omega
theorem cntE_pos:∀ (e:E),1<=cntE e
 | .mk _ _ _ _ _ _ _=>by simp [cntE]
theorem cntS_pos:∀ (e:S),1<=cntS e
 | .mk _ _ _ _ _ _=>by simp [cntS]
theorem cntEs_len:∀ (l:List E),l.length<=cntEs l
 | []=>by simp
 | e::l=>by have:=cntE_pos e;have:=cntEs_len l;simp [cntEs];omega
theorem cntSs_len:∀ (l:List S),l.length<=cntSs l
 | []=>by simp
 | e::l=>by have:=cntS_pos e;have:=cntSs_len l;simp [cntSs];omega
theorem cntEs_mem:∀ {l:List E} {e:E},e∈l->cntE e<=cntEs l
 | e::l,x,hx=>by
   cases hx with
   | head=>simp [cntEs]
   | tail _ hx=>have:=cntEs_mem hx;simp [cntEs];omega
theorem cntSs_mem:∀ {l:List S} {e:S},e∈l->cntS e<=cntSs l
 | e::l,x,hx=>by
   cases hx with
   | head=>simp [cntSs]
   | tail _ hx=>have:=cntSs_mem hx;simp [cntSs];omega
def CN {α:Type} (c:α->Nat) (n:Nat) (r:R α):Prop:=∀ x ts d,r= .ok (x,ts,d)->c x+ts.length<=n
theorem CN.bind {α β:Type} {c:α->Nat} {c':β->Nat} {n n':Nat} {r:R α} {g:α->List Tok->Int->R β} (h:CN c n r) (hg:∀ x ts d,c x+ts.length<=n->CN c' n' (g x ts d)):CN c' n' (bindR r g):=by
 match r,h with
 | .error e,h=>intro x ts d hx;cases hx
 | .ok (x,ts,d),h=>exact hg x ts d (h x ts d rfl)
theorem CN.ok {α:Type} {c:α->Nat} {n:Nat} {x:α} {ts:List Tok} {d:Int} (h:c x+ts.length<=n):CN c n (.ok (x,ts,d):R α):=fun y us e hy=>by cases hy;exact h
theorem CN.err {α:Type} {c:α->Nat} {n:Nat} {e:Nat×Nat}:CN c n (.error e:R α):=fun y us d hy=>by cases hy
theorem CN.up {α:Type} {c c':α->Nat} {n n':Nat} {r:R α} (h:CN c n r) (hc:∀ x,c' x+n<=c x+n'):CN c' n' r:=fun x ts d hx=>by have:=h x ts d hx;have:=hc x;omega
theorem takeT_cn (t:Bytes) (ts:List Tok) (d:Int):CN (fun _=>1) ts.length (takeT t ts d):=fun x us e hx=>by
 have:=(takeT_fn t ts d).2 x us e hx;show 1+us.length<=ts.length;omega
theorem takeK_cn (k:Nat) (hk:k≠0) (ts:List Tok) (d:Int):CN (fun _=>1) ts.length (takeK k ts d):=fun x us e hx=>by
 have:=(takeK_fn k hk ts d).2 x us e hx;show 1+us.length<=ts.length;omega
structure HX (f:Nat):Prop where
 bin:∀ lv ts d,CN cntE ts.length (pBin f lv ts d)
 loop:∀ lv e ts d,CN cntE (cntE e+ts.length) (pLoop f lv e ts d)
 un:∀ ts d,CN cntE ts.length (pUn f ts d)
 prim:∀ ts d,CN cntE ts.length (pPrim f ts d)
 name:∀ ts d,isK ts 1=true->CN cntE ts.length (pName f ts d)
 call:∀ t ts d,CN (fun e=>cntE e+1) ts.length (pCall f t ts d)
 args:∀ ts d,CN cntEs ts.length (pArgs f ts d)
 more:∀ l ts d,CN cntEs (cntEs l+ts.length) (pMore f l ts d)
theorem hx:∀ f,HX f
 | 0=>⟨fun lv ts d=>by unfold pBin;exact CN.err,fun lv e ts d=>by unfold pLoop;exact CN.err,fun ts d=>by unfold pUn;exact CN.err,fun ts d=>by unfold pPrim;exact CN.err,fun ts d _=>by unfold pName;exact CN.err,
    fun t ts d=>by unfold pCall;exact CN.err,fun ts d=>by unfold pArgs;exact CN.err,fun l ts d=>by unfold pMore;exact CN.err⟩
 | f+1=>by
   have X:=hx f
   refine ⟨fun lv ts d=>?_,fun lv e ts d=>?_,fun ts d=>?_,fun ts d=>?_,fun ts d hk=>?_,fun t ts d=>?_,fun ts d=>?_,fun l ts d=>?_⟩
   . unfold pBin
     split
     . exact X.un ts d
     . exact (X.bin (lv+1) ts d).bind fun e ts1 d1 h=>(X.loop lv e ts1 d1).up fun x=>by omega
   . unfold pLoop
     split
     . rename_i hc
       simp only [Bool.and_eq_true] at hc
       have:=isK_ne (by decide) hc.1
       exact (X.bin (lv+1) ts.tail d).bind fun e' ts1 d1 h=>(X.loop lv _ ts1 d1).up fun x=>by simp only [cntE,cntEs];omega
     . exact CN.ok (Nat.le_refl _)
   . unfold pUn
     split
     . rename_i hc
       have:ts.tail.length+1=ts.length:=by
        simp only [Bool.or_eq_true] at hc
        rcases hc with (hc | hc) | hc <;> exact isT_ne hc
       exact (X.un ts.tail d).bind fun e ts1 d1 h=>CN.ok (by simp only [cntE,cntEs];omega)
     . exact X.prim ts d
   . unfold pPrim
     split
     . rename_i hc;have:=isK_ne (by decide) hc;exact CN.ok (by simp only [cntE,cntEs];omega)
     split
     . rename_i hc;have:=isK_ne (by decide) hc;exact CN.ok (by simp only [cntE,cntEs];omega)
     split
     . rename_i hc;exact X.name ts d hc
     exact (takeT_cn _ ts d).bind fun _ ts1 d1 h1=>(X.bin 1 ts1 d1).bind fun e ts2 d2 h2=>(takeT_cn _ ts2 d2).bind fun _ ts3 d3 h3=>CN.ok (by omega)
   . unfold pName
     have:=isK_ne (by decide) hk
     split
     . exact (X.call _ ts.tail d).up fun x=>by omega
     split
     . exact (takeT_cn _ ts.tail d).bind fun _ ts1 d1 h1=>(X.bin 1 ts1 d1).bind fun e ts2 d2 h2=>(takeT_cn _ ts2 d2).bind fun _ ts3 d3 h3=>CN.ok (by simp only [cntE,cntEs];omega)
     . exact CN.ok (by simp only [cntE,cntEs];omega)
   . unfold pCall
     exact (takeT_cn _ ts d).bind fun _ ts1 d1 h1=>(X.args ts1 d1).bind fun l ts2 d2 h2=>(takeT_cn _ ts2 d2).bind fun _ ts3 d3 h3=>CN.ok (by simp only [cntE];omega)
   . unfold pArgs
     split
     . exact CN.ok (by simp [cntEs])
     . exact (X.bin 1 ts d).bind fun e ts1 d1 h=>(X.more _ ts1 d1).up fun x=>by simp only [cntEs];omega
   . unfold pMore
     split
     . exact (takeT_cn _ ts d).bind fun _ ts1 d1 h1=>(X.bin 1 ts1 d1).bind fun e ts2 d2 h2=>(X.more _ ts2 d2).up fun x=>by rw [cntEs_append];simp only [cntEs];omega
     . exact CN.ok (Nat.le_refl _)
theorem pCond_cn (f:Nat) (ts:List Tok) (d:Int):CN (fun e=>cntE e+2) ts.length (pCond f ts d):=by
 unfold pCond
 exact (takeT_cn _ ts d).bind fun _ ts1 d1 h1=>((hx f).bin 1 ts1 d1).bind fun e ts2 d2 h2=>(takeT_cn _ ts2 d2).bind fun _ ts3 d3 h3=>CN.ok (by omega)
structure HS (f:Nat):Prop where
 block:∀ ts d,CN cntSs ts.length (pBlock f ts d)
 stmts:∀ l ts d,CN cntSs (cntSs l+ts.length) (pStmts f l ts d)
 stmt:∀ ts d,CN cntS ts.length (pStmt f ts d)
 ifs:∀ ts d,ts.tail.length+1=ts.length->CN cntS ts.length (pIf f ts d)
 named:∀ ts d,isK ts 1=true->CN cntS ts.length (pNamed f ts d)
theorem hs:∀ f,HS f
 | 0=>⟨fun ts d=>by unfold pBlock;exact CN.err,fun l ts d=>by unfold pStmts;exact CN.err,fun ts d=>by unfold pStmt;exact CN.err,fun ts d _=>by unfold pIf;exact CN.err,fun ts d _=>by rw [pNamed];exact CN.err⟩
 | f+1=>by
   have X:=hs f
   have Y:=hx f
   refine ⟨fun ts d=>?_,fun l ts d=>?_,fun ts d=>?_,fun ts d hk=>?_,fun ts d hk=>?_⟩
   . unfold pBlock
     exact (takeT_cn _ ts d).bind fun _ ts1 d1 h1=>(X.stmts _ ts1 d1).up fun x=>by simp only [cntSs];omega
   . unfold pStmts
     split
     . exact (takeT_cn _ ts d).bind fun _ ts1 d1 h1=>CN.ok (by omega)
     . exact (X.stmt ts d).bind fun s ts1 d1 h1=>(X.stmts _ ts1 d1).up fun x=>by rw [cntSs_append];simp only [cntSs];omega
   . unfold pStmt
     split
     . rename_i hc;exact X.named ts d hc
     split
     . rename_i hc
       have:=isT_ne hc
       refine (takeK_cn 1 (by decide) ts.tail d).bind fun t ts1 d1 h1=>?_
       split
       . exact (takeT_cn _ ts1 d1).bind fun _ ts2 d2 h2=>(Y.bin 1 ts2 d2).bind fun e ts3 d3 h3=>(takeT_cn _ ts3 d3).bind fun _ ts4 d4 h4=>CN.ok (by simp only [cntS,cntEs,cntSs];omega)
       . exact (takeT_cn _ ts1 d1).bind fun _ ts2 d2 h2=>CN.ok (by simp only [cntS,cntEs,cntSs];omega)
     split
     . rename_i hc;exact X.ifs ts d (isT_ne hc)
     split
     . rename_i hc
       have:=isT_ne hc
       exact (pCond_cn f ts.tail d).bind fun e ts1 d1 h1=>(X.block ts1 d1).bind fun b ts2 d2 h2=>CN.ok (by simp only [cntS,cntEs,cntSs];omega)
     split
     . rename_i hc
       have:=isT_ne hc
       split
       . exact (takeT_cn _ ts.tail d).bind fun _ ts2 d2 h2=>CN.ok (by simp only [cntS,cntEs,cntSs];omega)
       . exact (Y.bin 1 ts.tail d).bind fun e ts3 d3 h3=>(takeT_cn _ ts3 d3).bind fun _ ts4 d4 h4=>CN.ok (by simp only [cntS,cntEs,cntSs];omega)
     split
     . rename_i hc
       have:=isT_ne hc
       exact (takeT_cn _ ts.tail d).bind fun _ ts2 d2 h2=>CN.ok (by simp only [cntS,cntEs,cntSs];omega)
     split
     . rename_i hc
       have:=isT_ne hc
       exact (takeT_cn _ ts.tail d).bind fun _ ts2 d2 h2=>CN.ok (by simp only [cntS,cntEs,cntSs];omega)
     . exact CN.err
   . unfold pIf
     refine (pCond_cn f ts.tail d).bind fun e ts1 d1 h1=>(X.block ts1 d1).bind fun b ts2 d2 h2=>?_
     split
     . rename_i hc
       have:=isT_ne hc
       split
       . rename_i hc2
         exact (X.ifs ts2.tail d2 (isT_ne hc2)).bind fun s ts3 d3 h3=>CN.ok (by simp only [cntS,cntEs,cntSs];omega)
       . exact (X.block ts2.tail d2).bind fun c ts3 d3 h3=>CN.ok (by simp only [cntS,cntEs];omega)
     . exact CN.ok (by simp only [cntS,cntEs,cntSs];omega)
   . rw [pNamed]
     have:=isK_ne (by decide) hk
     split
     . exact (takeT_cn _ ts.tail d).bind fun _ ts2 d2 h2=>(Y.bin 1 ts2 d2).bind fun e ts3 d3 h3=>(takeT_cn _ ts3 d3).bind fun _ ts4 d4 h4=>CN.ok (by simp only [cntS,cntEs,cntSs];omega)
     split
     . exact (takeT_cn _ ts.tail d).bind fun _ ts2 d2 h2=>(Y.bin 1 ts2 d2).bind fun i ts3 d3 h3=>(takeT_cn _ ts3 d3).bind fun _ ts4 d4 h4=>(takeT_cn _ ts4 d4).bind fun _ ts5 d5 h5=>
        (Y.bin 1 ts5 d5).bind fun e ts6 d6 h6=>(takeT_cn _ ts6 d6).bind fun _ ts7 d7 h7=>CN.ok (by simp only [cntS,cntEs,cntSs];omega)
     . exact (Y.call _ ts.tail d).bind fun e ts3 d3 h3=>(takeT_cn _ ts3 d3).bind fun _ ts4 d4 h4=>CN.ok (by simp only [cntS,cntEs,cntSs];omega)
def cntF (f:F):Nat:=cntSs f.body+f.params.length
def cntFs:List F->Nat
 | []=>0
 | f::fs=>cntF f+1+cntFs fs
theorem cntFs_append:∀ (l m:List F),cntFs (l++m)=cntFs l+cntFs m
 | [],m=>by simp [cntFs]
 | e::l,m=>by simp [cntFs,cntFs_append l m];omega
theorem cntFs_mem:∀ {l:List F} {e:F},e∈l->cntF e+1<=cntFs l
 | e::l,x,hx=>by
   cases hx with
   | head=>simp [cntFs]
   | tail _ hx=>have:=cntFs_mem hx;simp [cntFs];omega
theorem cntFs_len:∀ (l:List F),l.length<=cntFs l
 | []=>by simp
 | e::l=>by have:=cntFs_len l;simp [cntFs];omega
def cntP (p:Pg):Nat:=p.globals.length+cntFs p.funcs
theorem pGlobal_cn (ts:List Tok) (d:Int):CN (fun _=>1) ts.length (pGlobal ts d):=fun x us e hx=>by
 have:=(pGlobal_fn ts d).2 x us e hx;show 1+us.length<=ts.length;omega
theorem pMoreP_cn:∀ (f:Nat) (l:List Bytes) (ts:List Tok) (d:Int),CN List.length (l.length+ts.length) (pMoreP f l ts d)
 | 0,_,_,_=>CN.err
 | f+1,l,ts,d=>by
   unfold pMoreP
   split
   . exact (takeT_cn _ ts d).bind fun _ ts1 d1 h1=>(takeK_cn 1 (by decide) ts1 d1).bind fun t ts2 d2 h2=>(pMoreP_cn f _ ts2 d2).up fun x=>by simp only [List.length_append,List.length_cons,List.length_nil];omega
   . exact CN.ok (Nat.le_refl _)
theorem pFunc_cn (f:Nat) (ts:List Tok) (d:Int):CN (fun g=>cntF g+1) ts.length (pFunc f ts d):=by
 unfold pFunc
 refine (takeT_cn _ ts d).bind fun _ ts1 d1 h1=>(takeK_cn 1 (by decide) ts1 d1).bind fun t ts2 d2 h2=>(takeT_cn _ ts2 d2).bind fun _ ts3 d3 h3=>?_
 refine CN.bind (c:=List.length) (n:=ts3.length) ?_ fun ps ts4 d4 h4=>(takeT_cn _ ts4 d4).bind fun _ ts5 d5 h5=>((hs f).block ts5 d5).bind fun b ts6 d6 h6=>CN.ok (by simp only [cntF];omega)
 unfold pParams
 split
 . exact CN.ok (by simp)
 . exact (takeK_cn 1 (by decide) ts3 d3).bind fun t ts5 d5 h5=>(pMoreP_cn f _ ts5 d5).up fun x=>by simp only [List.length_cons,List.length_nil];omega
theorem pProg_cn:∀ (f:Nat) (p:Pg) (ts:List Tok) (d:Int),CN cntP (cntP p+ts.length) (pProg f p ts d)
 | 0,_,_,_=>CN.err
 | f+1,p,ts,d=>by
   unfold pProg
   split
   . exact CN.ok (Nat.le_refl _)
   split
   . exact (pGlobal_cn ts d).bind fun g ts1 d1 h1=>(pProg_cn f _ ts1 d1).up fun x=>by simp only [cntP,List.length_append,List.length_cons,List.length_nil];omega
   . exact (pFunc_cn f ts d).bind fun g ts1 d1 h1=>(pProg_cn f _ ts1 d1).up fun x=>by simp only [cntP,cntFs_append,cntFs];omega
end Go.Sx
namespace Go.Proofs.D
open Go Go.Den Go.Sx
set_option maxRecDepth 100000
attribute [local irreducible] IntKind.wrap Tri parseS
theorem At.get {α:Type} {k:Nat} {rel:PHeap->α->List Value->Prop} {h:PHeap} {a:Option Addr} {xs:List α} (hA:At k rel h a xs) {n:Nat} (hn:n < xs.length):∃ b o cs,a=some ⟨b,o,none⟩/\h.row b (o+((n:Int)).toNat * k) cs/\rel h xs[n] cs:=by
 rcases hA with hA | ⟨b,o,ha,hj⟩
 . subst hA;simp at hn
 . obtain ⟨cs,h1,h2⟩:=hj n xs[n] (List.getElem?_eq_getElem hn)
   exact ⟨b,o,cs,ha,by rw [Int.toNat_natCast];exact h1,h2⟩
theorem parseS_cnt {s:Bytes} {p:Pg} (h:parseS s= .ok p):cntP p<=4097:=by
 have hso:=scanS_ok s
 unfold parseS at h
 cases hsc:scanS s with
 | error e=>rw [hsc] at h;cases h
 | ok ts=>
   rw [hsc] at h
   have:=(hso.2 ts hsc).2.1
   simp only at h
   cases hpp:pProg (20 * ts.length+40) ⟨[],[]⟩ ts 0 with
   | error e=>rw [hpp] at h;cases h
   | ok q=>
     obtain ⟨p',ts',d'⟩:=q
     rw [hpp] at h
     cases h
     have:=pProg_cn _ ⟨[],[]⟩ ts 0 _ _ _ hpp
     simp only [cntP,cntFs,List.length_nil] at this ⊢
     omega
theorem parseS_err {s:Bytes} {e:Nat×Nat} (h:parseS s= .error e):e.1≠0:=by
 have hso:=scanS_ok s
 unfold parseS at h
 cases hsc:scanS s with
 | error e'=>rw [hsc] at h;cases h;exact hso.1 _ hsc
 | ok ts=>
   rw [hsc] at h
   simp only at h
   have hfn:=(pProg_fn (20 * ts.length+40) ⟨[],[]⟩ ts 0 (by omega)).1
   cases hpp:pProg (20 * ts.length+40) ⟨[],[]⟩ ts 0 with
   | error e'=>
     rw [hpp] at h
     cases h
     intro h0
     exact hfn e.2 (by rw [hpp,←h0])
   | ok q=>obtain ⟨p',ts',d'⟩:=q;rw [hpp] at h;cases h
def KnownOk:Prop:=∀ h,L.EscTab h->Tri Tryz.prog 16 [] h fun v h'=>v=vB true/\Ext h h'
theorem At.whole {α:Type} {k:Nat} {rel:PHeap->α->List Value->Prop} (hm:Mono rel) {D:Nat->Prop} {h h':PHeap} {a:Option Addr} {xs:List α} (hA:At k rel (only D h) a xs) (x:Ext h h'):At k rel h' a xs:=hA.ext hm (only_sub.trans x)
end Go.Proofs.D
namespace Go.Proofs.D
open Go Go.Den
noncomputable section
set_option maxRecDepth 100000
set_option maxHeartbeats 4000000
abbrev dyk1:List CK:=[qi, .str, .str,qi, .str, .slice,qi,qi]
abbrev dyk2:List CK:=[.str,qi,qi,qi,qi]
abbrev dyk3:List CK:=[.str, .slice, .slice,qi,qi]
abbrev dyk4:List CK:=[qi, .str, .slice, .slice, .slice,qi,qi]
def d16:DCode:=up ⟨[(9, .c (.tup [(true,[.slice, .slice]),(false,[qi]),(false,[qi]),(false,[qi])])),(18, .l [.slice]),(24, .l [.slice]),(27, .l [.slice]),(33, .l [.slice]),(36, .l [.slice]),(39, .l [.slice]),(44, .l [.slice, .slice]),(45, .c (.tup [(false,[qi]),(false,[qi]),(false,[qi])])),(50, .l [.slice]),(53, .l [.slice]),(56, .l [.slice]),(58, .l dyk1),(59, .c (.one false [.str]))],[],[]⟩ (lw nf Tryz.f16)
theorem low16:lw nf Tryz.f16=some (eC d16):=by kernel_rfl
def R16 (h:PHeap) (Q:Value->PHeap->Prop):Prop:=
 tp 14 [vS [102,117,110,99,32,109,97,105,110,40,41,32,123,32,120,32,61,32,97,32,45,32,40,98,32,45,32,99,41,32,42,32,40,50,41,59,32,125]] h fun v_1 h_1=>
 ∃ a1 n1 dyk1 a2 n2 dyk2 i1 i2 i3,v_1=vT [vA [vL a1 n1 dyk1,vL a2 n2 dyk2],vI i1,vI i2,vI i3]/\
 br (i3 != 0)
 (Q (vB false) h_1)
 (br ((n2:Int) != 1)
 (Q (vB false) h_1)
 (slt a2 (0:Int) n2 fun b1 o1=>
 ∃ a3 n3 dyk3,h_1.cell b1 (o1+2)=some (vL a3 n3 dyk3)/\
 br ((n3:Int) != 1)
 (Q (vB false) h_1)
 (slt a2 (0:Int) n2 fun b2 o2=>
 ∃ a4 n4 dyk4,h_1.cell b2 (o2+2)=some (vL a4 n4 dyk4)/\
 slt a4 (0:Int) n4 fun b3 o3=>
 ∃ a5 n5 k5,h_1.cell b3 (o3+2)=some (vL a5 n5 k5)/\
 br ((n5:Int) != 1)
 (Q (vB false) h_1)
 (tp 19 [vA [vL a1 n1 dyk1,vL a2 n2 dyk2]] h_1 fun v_2 h_2=>
 ∃ i4 i5 i6,v_2=vT [vI i4,vI i5,vI i6]/\
 slt a2 (0:Int) n2 fun b4 o4=>
 ∃ a6 n6 k6,h_2.cell b4 (o4+2)=some (vL a6 n6 k6)/\
 slt a6 (0:Int) n6 fun b5 o5=>
 ∃ a7 n7 k7,h_2.cell b5 (o5+2)=some (vL a7 n7 k7)/\
 slt a7 (0:Int) n7 fun b6 o6=>
 ∃ i7 l1 l2 i8 l3 a8 n8 k8 i9 i10,h_2.row b6 o6 [vI i7,vS l1,vS l2,vI i8,vS l3,vL a8 n8 k8,vI i9,vI i10]/\
 tp 22 [vA [vI i7,vS l1,vS l2,vI i8,vS l3,vL a8 n8 k8,vI i9,vI i10]] h_2 fun v_3 h_3=>
 ∃ l4,v_3=vS l4/\
 br (l4 == [97,32,45,32,40,98,32,45,32,99,41,32,42,32,50])
 (Q (vB (i6 == 37)) h_3)
 (Q (vB false) h_3)))))
theorem T16 {h Q} (hR:R16  h Q):Tri Tryz.prog 16 [] h Q:=
 tri_of_dn mixed Tryz.func16 rfl (by kernel_rfl) low16 (rs:=[.tmp 0]) (by kernel_rfl) rfl (Eq.mpr (by kernel_rfl) hR)
abbrev o19_1:Op:= .makeMap 111 none
abbrev o19_2:Op:= .makeMap 112 none
abbrev o19_7:Op:= .lookup 112 (.tmp 51) (.const (vS [109,97,105,110])) true
def d19:DCode:=up ⟨[(14, .l [.slice, .slice]),(15, .c (.one false [.bool])),(17, .c (.one false [.map])),(18, .c (.one false [.map])),(22, .l [.slice]),(28, .l dyk2),(31, .l dyk2),(32, .c (.tup [])),(35, .l [.slice]),(41, .l dyk3),(44, .l dyk3),(45, .c (.tup [])),(51, .l [.map]),(52, .c (.tup [(false,[qi]),(false,[.bool])])),(62, .c (.tup [])),(64, .l [.slice]),(69, .l dyk3),(72, .l [.slice]),(73, .c (.one false [.slice])),(78, .l [.slice]),(84, .l [.slice]),(85, .c (.tup [])),(90, .l [qi]),(94, .l [qi]),(98, .l [qi])],[75,81],[(25,12,[(24,qi)],[]),(38,12,[(37,qi)],[]),(67,22,[(66,qi)],[])]⟩ (lw (fun d=>Nat.beq d 20) Tryz.f19)
theorem low19:lw (fun d=>Nat.beq d 20) Tryz.f19=some (eC d19):=by kernel_rfl
def R19 (a1:OA) (n1 dyk1:Nat) (a2:OA) (n2 dyk2:Nat) (h:PHeap) (Q:Value->PHeap->Prop):Prop:=
 tp 56 [vA [vL a1 n1 dyk1,vL a2 n2 dyk2]] h fun v_1 h_1=>
 ∃ c1,v_1=vB c1/\
 br (!c1)
 (Q (vT [vI 0,vI 0,vI 30]) h_1)
 (rq [] o19_1 111 h_1 fun v_2 h_2=>
 ∃ m1,v_2=vM m1/\
 rq [] o19_2 112 h_2 fun v_3 h_3=>
 ∃ m2,v_3=vM m2/\
 alc h_3 [vM m1,vM m2,vL none 0 0,vI 0,vI 0,vI 0,vI 0] 114 fun b1 h_4=>
 ∃ (I_1:Nat->Int->PHeap->Prop),(∃ m4,I_1 m4 0 h_4)/\
 ∀ m3 i1 h_5,I_1 m3 i1 h_5->
 br (decide (i1 < (n1:Int)))
 (slt a1 i1 n1 fun b2 o1=>
 ∃ l1 i2 i3 i4 i5,h_5.row b2 (o1+(i1).toNat * 5) [vS l1,vI i2,vI i3,vI i4,vI i5]/\
 tp 57 [vP b1 0,vI i1,vA [vS l1,vI i2,vI i3,vI i4,vI i5]] h_5 fun v_4 h_6=>
 v_4=vT []/\
 ∃ m5,m5 < m3/\I_1 m5 (IntKind.i64.wrap (i1+1)) h_6/\
 tv [vL a1 n1 dyk1,vL a2 n2 dyk2]/\True)
 (∃ (I_2:Nat->Int->PHeap->Prop),(∃ m7,I_2 m7 0 h_5)/\
 ∀ m6 i6 h_7,I_2 m6 i6 h_7->
 br (decide (i6 < (n2:Int)))
 (slt a2 i6 n2 fun b3 o2=>
 ∃ l2 a3 n3 dyk3 a4 n4 dyk4 i7 i8,h_7.row b3 (o2+(i6).toNat * 5) [vS l2,vL a3 n3 dyk3,vL a4 n4 dyk4,vI i7,vI i8]/\
 tp 58 [vP b1 0,vI i6,vA [vS l2,vL a3 n3 dyk3,vL a4 n4 dyk4,vI i7,vI i8]] h_7 fun v_5 h_8=>
 v_5=vT []/\
 ∃ m8,m8 < m6/\I_2 m8 (IntKind.i64.wrap (i6+1)) h_8/\
 tv [vL a1 n1 dyk1,vL a2 n2 dyk2]/\True)
 (∃ m9,h_7.cell b1 1=some (vM m9)/\
 rq [(51,vM m9)] o19_7 117 h_7 fun v_6 h_9=>
 ∃ i9 c2,v_6=vT [vI i9,vB c2]/\
 br (!c2)
 (tp 59 [vP b1 0,vB true,vI 1,vI 1,vI 8] h_9 fun v_7 h_10=>
 v_7=vT []/\
 ∃ (I_3:Nat->Int->PHeap->Prop),(∃ m11,I_3 m11 0 h_10)/\
 ∀ m10 i10 h_11,I_3 m10 i10 h_11->
 br (decide (i10 < (n2:Int)))
 (slt a2 i10 n2 fun b4 o3=>
 ∃ l3 a5 n5 k5 a6 n6 k6 i11 i12,h_11.row b4 (o3+(i10).toNat * 5) [vS l3,vL a5 n5 k5,vL a6 n6 k6,vI i11,vI i12]/\
 tp 60 [vL a5 n5 k5] h_11 fun v_8 h_12=>
 ∃ a7 n7 k7,v_8=vL a7 n7 k7/\
 sto h_12 b1 2 1 [vL a7 n7 k7] fun h_13=>
 sto h_13 b1 3 1 [vI (n5:Int)] fun h_14=>
 tp 61 [vP b1 0,vL a6 n6 k6,vB false] h_14 fun v_9 h_15=>
 v_9=vT []/\
 ∃ m12,m12 < m10/\I_3 m12 (IntKind.i64.wrap (i10+1)) h_15/\
 tv [vL a1 n1 dyk1,vL a2 n2 dyk2]/\True)
 (∃ i13,h_11.cell b1 4=some (vI i13)/\
 ∃ i14,h_11.cell b1 5=some (vI i14)/\
 ∃ i15,h_11.cell b1 6=some (vI i15)/\
 Q (vT [vI i13,vI i14,vI i15]) h_11))
 (tp 59 [vP b1 0,vB (i9 != 0),vI 1,vI 1,vI 8] h_9 fun v_10 h_16=>
 v_10=vT []/\
 ∃ (I_4:Nat->Int->PHeap->Prop),(∃ m14,I_4 m14 0 h_16)/\
 ∀ m13 i16 h_17,I_4 m13 i16 h_17->
 br (decide (i16 < (n2:Int)))
 (slt a2 i16 n2 fun b5 o4=>
 ∃ l6 a8 n8 k8 a9 n9 k9 i17 i18,h_17.row b5 (o4+(i16).toNat * 5) [vS l6,vL a8 n8 k8,vL a9 n9 k9,vI i17,vI i18]/\
 tp 60 [vL a8 n8 k8] h_17 fun v_11 h_18=>
 ∃ a10 n10 k10,v_11=vL a10 n10 k10/\
 sto h_18 b1 2 1 [vL a10 n10 k10] fun h_19=>
 sto h_19 b1 3 1 [vI (n8:Int)] fun h_20=>
 tp 61 [vP b1 0,vL a9 n9 k9,vB false] h_20 fun v_12 h_21=>
 v_12=vT []/\
 ∃ m15,m15 < m13/\I_4 m15 (IntKind.i64.wrap (i16+1)) h_21/\
 tv [vL a1 n1 dyk1,vL a2 n2 dyk2]/\True)
 (∃ i19,h_17.cell b1 4=some (vI i19)/\
 ∃ i20,h_17.cell b1 5=some (vI i20)/\
 ∃ i21,h_17.cell b1 6=some (vI i21)/\
 Q (vT [vI i19,vI i20,vI i21]) h_17)))))
theorem T19 {a1 n1 dyk1 a2 n2 dyk2 h Q} (hR:R19 a1 n1 dyk1 a2 n2 dyk2 h Q):Tri Tryz.prog 19 [vA [vL a1 n1 dyk1,vL a2 n2 dyk2]] h Q:=
 tri_of_dn mixed Tryz.func19 rfl (by kernel_rfl) low19 (rs:=[.tmp 2, .tmp 3, .tmp 4]) (by kernel_rfl) rfl (Eq.mpr (by kernel_rfl) hR)
def d24:DCode:=up ⟨[],[],[]⟩ (lw nf Tryz.f24)
theorem low24:lw nf Tryz.f24=some (eC d24):=by kernel_rfl
def R24 (l1:Bs) (h:PHeap) (Q:Value->PHeap->Prop):Prop:=
 br (l1 == [112,101,101,107])
 (Q (vT [vI 1,vI 1,vB true]) h)
 (br (l1 == [112,111,107,101])
 (Q (vT [vI 2,vI 2,vB true]) h)
 (br (l1 == [107,101,114,110,101,108])
 (Q (vT [vI 1,vI 5,vB true]) h)
 (Q (vT [vI 0,vI 0,vB false]) h)))
theorem T24 {l1 h Q} (hR:R24 l1 h Q):Tri Tryz.prog 24 [vS l1] h Q:=
 tri_of_dn mixed Tryz.func24 rfl (by kernel_rfl) low24 (rs:=[.tmp 2, .tmp 3, .tmp 4]) (by kernel_rfl) rfl (Eq.mpr (by kernel_rfl) hR)
def d56:DCode:=up ⟨[(7, .l [.slice]),(9, .c (.one false [.bool]))],[3],[]⟩ (lw (fun d=>Nat.beq d 3 || Nat.beq d 5) Tryz.f56)
theorem low56:lw (fun d=>Nat.beq d 3 || Nat.beq d 5) Tryz.f56=some (eC d56):=by kernel_rfl
def R56 (a1:OA) (n1 dyk1:Nat) (a2:OA) (n2 dyk2:Nat) (h:PHeap) (Q:Value->PHeap->Prop):Prop:=
 alc h [vI 4096] 129 fun b1 h_1=>
 alc h_1 [.pointer none] 127 fun b2 h_2=>
 sto h_2 b2 0 1 [vP b1 0] fun h_3=>
 tp 98 [vL a2 n2 dyk2,vF 99 [] [vP b2 0]] h_3 fun v_1 h_4=>
 ∃ c1,v_1=vB c1/\
 Q (vB (!c1)) h_4
theorem T56 {a1 n1 dyk1 a2 n2 dyk2 h Q} (hR:R56 a1 n1 dyk1 a2 n2 dyk2 h Q):Tri Tryz.prog 56 [vA [vL a1 n1 dyk1,vL a2 n2 dyk2]] h Q:=
 tri_of_dn mixed Tryz.func56 rfl (by kernel_rfl) low56 (rs:=[.tmp 2]) (by kernel_rfl) rfl (Eq.mpr (by kernel_rfl) hR)
abbrev o57_0:Op:= .lookup 111 (.tmp 12) (.tmp 14) true
abbrev o57_6:Op:= .mapUpdate 111 (.tmp 55) (.tmp 57) (.tmp 58)
def d57:DCode:=up ⟨[(12, .l [.map]),(14, .l [.str]),(15, .c (.tup [(true,dyk2),(false,[.bool])])),(22, .l [qi]),(24, .l [qi]),(25, .c (.tup [])),(30, .l [.str]),(31, .c (.one false [.bool])),(34, .l [qi]),(36, .l [qi]),(37, .c (.tup [])),(40, .l [qi]),(44, .l [qi]),(48, .l [qi]),(50, .l [qi]),(51, .c (.tup [])),(55, .l [.map]),(57, .l [.str]),(58, .l dyk2)],[],[]⟩ (lw nf Tryz.f57)
theorem low57:lw nf Tryz.f57=some (eC d57):=by kernel_rfl
abbrev K57_2 (i2:Int) (p1 o1:Nat) (i4 i5:Int) (h_3:PHeap) (l1:Bs) (i3:Int) (Q:Value->PHeap->Prop):Prop:=
 br (decide (i2 < 0))
 (tp 59 [vP p1 o1,vB true,vI i4,vI i5,vI 2] h_3 fun v_4 h_4=>
 v_4=vT []/\
 ∃ m2,h_4.cell p1 o1=some (vM m2)/\
 rq [(55,vM m2),(57,vS l1),(58,vA [vS l1,vI i2,vI i3,vI i4,vI i5])] o57_6 0 h_4 fun v_5 h_5=>
 v_5=vT []/\
 Q (vT []) h_5)
 (tp 59 [vP p1 o1,vB (decide (i2 > 256)),vI i4,vI i5,vI 2] h_3 fun v_6 h_6=>
 v_6=vT []/\
 ∃ m3,h_6.cell p1 o1=some (vM m3)/\
 rq [(55,vM m3),(57,vS l1),(58,vA [vS l1,vI i2,vI i3,vI i4,vI i5])] o57_6 0 h_6 fun v_7 h_7=>
 v_7=vT []/\
 Q (vT []) h_7)
abbrev K57_1 (m1:Nat) (l1:Bs) (h:PHeap) (p1 o1:Nat) (i1 i4 i5 i2 i3:Int) (Q:Value->PHeap->Prop):Prop:=
 rq [(12,vM m1),(14,vS l1)] o57_0 181 h fun v_1 h_1=>
 ∃ l2 i6 i7 i8 i9 c1,v_1=vT [vA [vS l2,vI i6,vI i7,vI i8,vI i9],vB c1]/\
 tp 59 [vP p1 o1,vB (decide (i1≥64)),vI i4,vI i5,vI 9] h_1 fun v_2 h_2=>
 v_2=vT []/\
 br c1
 ((tv [vI i5])/\
 (tv [vI i4])/\
 tp 59 [vP p1 o1,vB true,vI i4,vI i5,vI 7] h_2 fun v_3 h_3=>
 v_3=vT []/\
 K57_2 i2 p1 o1 i4 i5 h_3 l1 i3 Q)
 (tp 101 [vS l1] h_2 fun v_8 h_8=>
 ∃ c2,v_8=vB c2/\
 (tv [vI i5])/\
 (tv [vI i4])/\
 tp 59 [vP p1 o1,vB c2,vI i4,vI i5,vI 7] h_8 fun v_9 h_9=>
 v_9=vT []/\
 K57_2 i2 p1 o1 i4 i5 h_9 l1 i3 Q)
def R57 (p1 o1:Nat) (i1:Int) (l1:Bs) (i2 i3 i4 i5:Int) (h:PHeap) (Q:Value->PHeap->Prop):Prop:=
 ∃ m1,h.cell p1 o1=some (vM m1)/\
 (K57_1 m1 l1 h p1 o1 i1 i4 i5 i2 i3 Q)/\
 ((tv [vS l1])/\
 (h.cell p1 o1=some (vM m1))/\
 K57_1 m1 l1 h p1 o1 i1 i4 i5 i2 i3 Q)
theorem T57 {p1 o1 i1 l1 i2 i3 i4 i5 h Q} (hR:R57 p1 o1 i1 l1 i2 i3 i4 i5 h Q):Tri Tryz.prog 57 [vP p1 o1,vI i1,vA [vS l1,vI i2,vI i3,vI i4,vI i5]] h Q:=
 tri_of_dn mixed Tryz.func57 rfl (by kernel_rfl) low57 (rs:=[]) (by kernel_rfl) rfl (Eq.mpr (by kernel_rfl) hR)
abbrev o58_0:Op:= .lookup 111 (.tmp 16) (.tmp 18) true
abbrev o58_3:Op:= .lookup 112 (.tmp 26) (.tmp 28) true
abbrev o58_10:Op:= .mapUpdate 112 (.tmp 89) (.tmp 91) (.tmp 94)
def d58:DCode:=up ⟨[(16, .l [.map]),(18, .l [.str]),(19, .c (.tup [(true,dyk2),(false,[.bool])])),(26, .l [.map]),(28, .l [.str]),(29, .c (.tup [(false,[qi]),(false,[.bool])])),(36, .l [qi]),(38, .l [qi]),(39, .c (.tup [])),(47, .l [.str]),(48, .c (.one false [.bool])),(51, .l [qi]),(53, .l [qi]),(54, .c (.tup [])),(57, .l [.slice]),(61, .l [qi]),(63, .l [qi]),(64, .c (.tup [])),(66, .l [.slice]),(72, .l [.str]),(75, .l [.slice]),(79, .c (.one false [.bool])),(81, .l [qi]),(83, .l [qi]),(84, .c (.tup [])),(89, .l [.map]),(91, .l [.str]),(93, .l [.slice])],[],[(69,20,[(68,qi)],[])]⟩ (lw nf Tryz.f58)
theorem low58:lw nf Tryz.f58=some (eC d58):=by kernel_rfl
abbrev K58_1 (v_4:Value) (p1 o1 n1:Nat) (i2 i3:Int) (h_4:PHeap) (a1:OA) (dyk1:Nat) (l2:Bs) (i4 i5 i6 i7:Int) (l1:Bs) (a2:OA) (n2 dyk2:Nat) (Q:Value->PHeap->Prop):Prop:=
 v_4=vT []/\
 tp 59 [vP p1 o1,vB (decide ((n1:Int) > 6)),vI i2,vI i3,vI 9] h_4 fun v_5 h_5=>
 v_5=vT []/\
 ∃ (I_1:Nat->Int->PHeap->Prop),(∃ m4,I_1 m4 0 h_5)/\
 ∀ m3 i9 h_6,I_1 m3 i9 h_6->
 br (decide (i9 < (n1:Int)))
 (slt a1 i9 n1 fun b1 o2=>
 ∃ l3,h_6.cell b1 (o2+(i9).toNat * 1)=some (vS l3)/\
 (okA a1 n1 dyk1/\0<=(0:Int)/\(0:Int)<=i9/\i9<=dyk1)/\∀ a3,SlA a1 a3 0 dyk1 1->
 tp 102 [vL a3 ((i9).toNat - 0) (dyk1 - 0),vS l3] h_6 fun v_6 h_7=>
 ∃ c3,v_6=vB c3/\
 (tv [vI i3])/\
 (tv [vI i2])/\
 (tv [vL a1 n1 dyk1])/\
 tp 59 [vP p1 o1,vB c3,vI i2,vI i3,vI 7] h_7 fun v_7 h_8=>
 v_7=vT []/\
 (tv [vL a1 n1 dyk1])/\
 ∃ m5,m5 < m3/\I_1 m5 (IntKind.i64.wrap (i9+1)) h_8/\
 tv [vS l2,vI i4,vI i5,vI i6,vI i7]/\tv [vS l1,vL a1 n1 dyk1,vL a2 n2 dyk2,vI i2,vI i3]/\True)
 (∃ m6,h_6.cell p1 (o1+1)=some (vM m6)/\
 rq [(89,vM m6),(91,vS l1),(94,vI (n1:Int))] o58_10 0 h_6 fun v_8 h_9=>
 v_8=vT []/\
 Q (vT []) h_9)
abbrev K58_2 (m1:Nat) (l1:Bs) (h:PHeap) (p1 o1:Nat) (i1 i2 i3:Int) (n1:Nat) (a1:OA) (dyk1:Nat) (a2:OA) (n2 dyk2:Nat) (Q:Value->PHeap->Prop):Prop:=
 rq [(16,vM m1),(18,vS l1)] o58_0 181 h fun v_1 h_1=>
 ∃ l2 i4 i5 i6 i7 c1,v_1=vT [vA [vS l2,vI i4,vI i5,vI i6,vI i7],vB c1]/\
 ∃ m2,h_1.cell p1 (o1+1)=some (vM m2)/\
 rq [(26,vM m2),(28,vS l1)] o58_3 117 h_1 fun v_2 h_2=>
 ∃ i8 c2,v_2=vT [vI i8,vB c2]/\
 tp 59 [vP p1 o1,vB (decide (i1≥64)),vI i2,vI i3,vI 9] h_2 fun v_3 h_3=>
 v_3=vT []/\
 br c1
 ((tv [vI i3])/\
 (tv [vI i2])/\
 tp 59 [vP p1 o1,vB true,vI i2,vI i3,vI 7] h_3 fun v_4 h_4=>
 K58_1 v_4 p1 o1 n1 i2 i3 h_4 a1 dyk1 l2 i4 i5 i6 i7 l1 a2 n2 dyk2 Q)
 (br c2
 ((tv [vI i3])/\
 (tv [vI i2])/\
 tp 59 [vP p1 o1,vB true,vI i2,vI i3,vI 7] h_3 fun v_9 h_10=>
 K58_1 v_9 p1 o1 n1 i2 i3 h_10 a1 dyk1 l2 i4 i5 i6 i7 l1 a2 n2 dyk2 Q)
 (tp 101 [vS l1] h_3 fun v_14 h_16=>
 ∃ c5,v_14=vB c5/\
 (tv [vI i3])/\
 (tv [vI i2])/\
 tp 59 [vP p1 o1,vB c5,vI i2,vI i3,vI 7] h_16 fun v_15 h_17=>
 K58_1 v_15 p1 o1 n1 i2 i3 h_17 a1 dyk1 l2 i4 i5 i6 i7 l1 a2 n2 dyk2 Q))
def R58 (p1 o1:Nat) (i1:Int) (l1:Bs) (a1:OA) (n1 dyk1:Nat) (a2:OA) (n2 dyk2:Nat) (i2 i3:Int) (h:PHeap) (Q:Value->PHeap->Prop):Prop:=
 ∃ m1,h.cell p1 o1=some (vM m1)/\
 (K58_2 m1 l1 h p1 o1 i1 i2 i3 n1 a1 dyk1 a2 n2 dyk2 Q)/\
 ((tv [vS l1])/\
 (h.cell p1 o1=some (vM m1))/\
 K58_2 m1 l1 h p1 o1 i1 i2 i3 n1 a1 dyk1 a2 n2 dyk2 Q)
theorem T58 {p1 o1 i1 l1 a1 n1 dyk1 a2 n2 dyk2 i2 i3 h Q} (hR:R58 p1 o1 i1 l1 a1 n1 dyk1 a2 n2 dyk2 i2 i3 h Q):Tri Tryz.prog 58 [vP p1 o1,vI i1,vA [vS l1,vL a1 n1 dyk1,vL a2 n2 dyk2,vI i2,vI i3]] h Q:=
 tri_of_dn mixed Tryz.func58 rfl (by kernel_rfl) low58 (rs:=[]) (by kernel_rfl) rfl (Eq.mpr (by kernel_rfl) hR)
def d59:DCode:=up ⟨[(15, .l [qi])],[25,27,29],[]⟩ (lw nf Tryz.f59)
theorem low59:lw nf Tryz.f59=some (eC d59):=by kernel_rfl
def R59 (p1 o1:Nat) (c1:Bool) (i1 i2 i3:Int) (h:PHeap) (Q:Value->PHeap->Prop):Prop:=
 br c1
 (∃ i4,h.cell p1 (o1+6)=some (vI i4)/\
 br (i4 == 0)
 (sto h p1 (o1+4) 1 [vI i1] fun h_1=>
 sto h_1 p1 (o1+5) 1 [vI i2] fun h_2=>
 sto h_2 p1 (o1+6) 1 [vI i3] fun h_3=>
 Q (vT []) h_3)
 (Q (vT []) h))
 (Q (vT []) h)
theorem T59 {p1 o1 c1 i1 i2 i3 h Q} (hR:R59 p1 o1 c1 i1 i2 i3 h Q):Tri Tryz.prog 59 [vP p1 o1,vB c1,vI i1,vI i2,vI i3] h Q:=
 tri_of_dn mixed Tryz.func59 rfl (by kernel_rfl) low59 (rs:=[]) (by kernel_rfl) rfl (Eq.mpr (by kernel_rfl) hR)
def d60:DCode:=up ⟨[(7, .c (.one false [.slice]))],[],[]⟩ (lw nf Tryz.f60)
theorem low60:lw nf Tryz.f60=some (eC d60):=by kernel_rfl
def R60n (h:PHeap) (Q:Value->PHeap->Prop):Prop:=
 Q (vL none 0 0) h
theorem T60n {h Q} (hR:R60n  h Q):Tri Tryz.prog 60 [vL none 0 0] h Q:=
 tri_of_dn mixed Tryz.func60 rfl (by kernel_rfl) low60 (rs:=[.tmp 2]) (by kernel_rfl) rfl (Eq.mpr (by kernel_rfl) hR)
abbrev o60_1:Op:= .call { callee:=(.builtin .append),args:=#[(.tmp 5),(.tmp 6)],argTypes:=#[51,51] }
def R60p (b1 o1 n1 dyk1:Nat) (h:PHeap) (Q:Value->PHeap->Prop):Prop:=
 alc h [] 9 fun b2 h_1=>
 rq [(5,vL (ad b2 0) 0 0),(6,vL (ad b1 o1) n1 dyk1)] o60_1 51 h_1 fun v_1 h_2=>
 ∃ a1 n2 dyk2,v_1=vL a1 n2 dyk2/\
 Q (vL a1 n2 dyk2) h_2
theorem T60p {b1 o1 n1 dyk1 h Q} (hR:R60p b1 o1 n1 dyk1 h Q):Tri Tryz.prog 60 [vL (ad b1 o1) n1 dyk1] h Q:=
 tri_of_dn mixed Tryz.func60 rfl (by kernel_rfl) low60 (rs:=[.tmp 2]) (by kernel_rfl) rfl (Eq.mpr (by kernel_rfl) hR)
def d61:DCode:=up ⟨[(12, .l [.slice]),(19, .l dyk4),(21, .l dyk4),(23, .c (.tup [])),(29, .l [.slice])],[33],[(17,10,[(16,qi)],[])]⟩ (lw nf Tryz.f61)
theorem low61:lw nf Tryz.f61=some (eC d61):=by kernel_rfl
def R61 (p1 o1:Nat) (a1:OA) (n1 dyk1:Nat) (c1:Bool) (h:PHeap) (Q:Value->PHeap->Prop):Prop:=
 ∃ a2 n2 dyk2,h.cell p1 (o1+2)=some (vL a2 n2 dyk2)/\
 ∃ (I_1:Nat->Int->PHeap->Prop),(∃ m2,I_1 m2 0 h)/\
 ∀ m1 i1 h_1,I_1 m1 i1 h_1->
 br (decide (i1 < (n1:Int)))
 (slt a1 i1 n1 fun b1 o2=>
 ∃ i2 l1 a3 n3 dyk3 a4 n4 dyk4 a5 n5 k5 i3 i4,h_1.row b1 (o2+(i1).toNat * 7) [vI i2,vS l1,vL a3 n3 dyk3,vL a4 n4 dyk4,vL a5 n5 k5,vI i3,vI i4]/\
 tp 103 [vP p1 o1,vA [vI i2,vS l1,vL a3 n3 dyk3,vL a4 n4 dyk4,vL a5 n5 k5,vI i3,vI i4],vB c1] h_1 fun v_1 h_2=>
 v_1=vT []/\
 ∃ m3,m3 < m1/\I_1 m3 (IntKind.i64.wrap (i1+1)) h_2/\
 True)
 (∃ a6 n6 k6,h_1.cell p1 (o1+2)=some (vL a6 n6 k6)/\
 (okA a6 n6 k6/\0<=(0:Int)/\(0:Int)<=(n2:Int)/\(n2:Int)<=k6)/\∀ a7,SlA a6 a7 0 k6 1->
 sto h_1 p1 (o1+2) 1 [vL a7 ((n2:Int).toNat - 0) (k6 - 0)] fun h_3=>
 Q (vT []) h_3)
theorem T61 {p1 o1 a1 n1 dyk1 c1 h Q} (hR:R61 p1 o1 a1 n1 dyk1 c1 h Q):Tri Tryz.prog 61 [vP p1 o1,vL a1 n1 dyk1,vB c1] h Q:=
 tri_of_dn mixed Tryz.func61 rfl (by kernel_rfl) low61 (rs:=[]) (by kernel_rfl) rfl (Eq.mpr (by kernel_rfl) hR)
def d66:DCode:=up ⟨[(6, .l [.ptr]),(7, .c (.one false [.bool])),(10, .l [.slice]),(13, .l [qi]),(26, .l [.ptr]),(28, .l [.slice]),(30, .l dyk1),(31, .c (.one false [.bool])),(38, .l [.ptr]),(40, .l [.slice]),(42, .l dyk1),(43, .c (.one false [.bool])),(46, .l [.ptr]),(48, .l [.slice]),(50, .l dyk1),(51, .c (.one false [.bool])),(56, .l [.slice]),(58, .c (.one false [.bool]))],[],[]⟩ (lw (fun d=>Nat.beq d 2) Tryz.f66)
theorem low66:lw (fun d=>Nat.beq d 2) Tryz.f66=some (eC d66):=by kernel_rfl
def R66 (p1 o1:Nat) (i1:Int) (l1 l2:Bs) (i2:Int) (l3:Bs) (a1:OA) (n1 dyk1:Nat) (i3 i4:Int) (h:PHeap) (Q:Value->PHeap->Prop):Prop:=
 alc h [vP p1 o1] 127 fun b1 h_1=>
 ∃ p2 o2,h_1.cell b1 0=some (vP p2 o2)/\
 tp 106 [vP p2 o2] h_1 fun v_1 h_2=>
 ∃ c1,v_1=vB c1/\
 br (!c1)
 (Q (vB false) h_2)
 (br (i1 == 1)
 (Q (vB ((n1:Int) == 0)) h_2)
 (br (i1 == 2)
 (Q (vB ((n1:Int) == 0)) h_2)
 (br (i1 == 3)
 (Q (vB ((n1:Int) == 0)) h_2)
 (br (i1 == 4)
 (br ((n1:Int) == 1)
 (∃ p3 o3,h_2.cell b1 0=some (vP p3 o3)/\
 slt a1 (0:Int) n1 fun b2 o4=>
 ∃ i5 l4 l5 i6 l6 a2 n2 dyk2 i7 i8,h_2.row b2 o4 [vI i5,vS l4,vS l5,vI i6,vS l6,vL a2 n2 dyk2,vI i7,vI i8]/\
 tp 66 [vP p3 o3,vA [vI i5,vS l4,vS l5,vI i6,vS l6,vL a2 n2 dyk2,vI i7,vI i8]] h_2 fun v_2 h_3=>
 ∃ c2,v_2=vB c2/\
 (tv [vL a1 n1 dyk1])/\
 Q (vB c2) h_3)
 (Q (vB false) h_2))
 (br (i1 == 6)
 (br ((n1:Int) == 1)
 (∃ p4 o5,h_2.cell b1 0=some (vP p4 o5)/\
 slt a1 (0:Int) n1 fun b3 o6=>
 ∃ i9 l7 l8 i10 l9 a3 n3 dyk3 i11 i12,h_2.row b3 o6 [vI i9,vS l7,vS l8,vI i10,vS l9,vL a3 n3 dyk3,vI i11,vI i12]/\
 tp 66 [vP p4 o5,vA [vI i9,vS l7,vS l8,vI i10,vS l9,vL a3 n3 dyk3,vI i11,vI i12]] h_2 fun v_3 h_4=>
 ∃ c3,v_3=vB c3/\
 (tv [vL a1 n1 dyk1])/\
 Q (vB c3) h_4)
 (Q (vB false) h_2))
 (br (i1 == 7)
 (br ((n1:Int) == 2)
 (∃ p5 o7,h_2.cell b1 0=some (vP p5 o7)/\
 slt a1 (0:Int) n1 fun b4 o8=>
 ∃ i13 l10 l11 i14 l12 a4 n4 dyk4 i15 i16,h_2.row b4 o8 [vI i13,vS l10,vS l11,vI i14,vS l12,vL a4 n4 dyk4,vI i15,vI i16]/\
 tp 66 [vP p5 o7,vA [vI i13,vS l10,vS l11,vI i14,vS l12,vL a4 n4 dyk4,vI i15,vI i16]] h_2 fun v_4 h_5=>
 ∃ c4,v_4=vB c4/\
 (tv [vL a1 n1 dyk1])/\
 br c4
 (∃ p6 o9,h_5.cell b1 0=some (vP p6 o9)/\
 slt a1 (1:Int) n1 fun b5 o10=>
 ∃ i17 l13 l14 i18 l15 a5 n5 k5 i19 i20,h_5.row b5 (o10+8) [vI i17,vS l13,vS l14,vI i18,vS l15,vL a5 n5 k5,vI i19,vI i20]/\
 tp 66 [vP p6 o9,vA [vI i17,vS l13,vS l14,vI i18,vS l15,vL a5 n5 k5,vI i19,vI i20]] h_5 fun v_5 h_6=>
 ∃ c5,v_5=vB c5/\
 (tv [vL a1 n1 dyk1])/\
 (tv [vL a1 n1 dyk1])/\
 Q (vB c5) h_6)
 ((tv [vL a1 n1 dyk1])/\
 Q (vB false) h_5))
 (Q (vB false) h_2))
 (br (i1 == 5)
 (tp 107 [vL a1 n1 dyk1,vF 108 [] [vP b1 0]] h_2 fun v_6 h_7=>
 ∃ c6,v_6=vB c6/\
 Q (vB (!c6)) h_7)
 (Q (vB false) h_2))))))))
theorem T66 {p1 o1 i1 l1 l2 i2 l3 a1 n1 dyk1 i3 i4 h Q} (hR:R66 p1 o1 i1 l1 l2 i2 l3 a1 n1 dyk1 i3 i4 h Q):Tri Tryz.prog 66 [vP p1 o1,vA [vI i1,vS l1,vS l2,vI i2,vS l3,vL a1 n1 dyk1,vI i3,vI i4]] h Q:=
 tri_of_dn mixed Tryz.func66 rfl (by kernel_rfl) low66 (rs:=[.tmp 4]) (by kernel_rfl) rfl (Eq.mpr (by kernel_rfl) hR)
def d98:DCode:=up ⟨[(7, .c (.one false [qi]))],[],[]⟩ (lw nf Tryz.f98)
theorem low98:lw nf Tryz.f98=some (eC d98):=by kernel_rfl
def R98 (a1:OA) (n1 dyk1 f1:Nat) (x1 y1:List Value) (h:PHeap) (Q:Value->PHeap->Prop):Prop:=
 tp 145 [vL a1 n1 dyk1,vF f1 x1 y1] h fun v_1 h_1=>
 ∃ i1,v_1=vI i1/\
 Q (vB (decide (i1≥0))) h_1
theorem T98 {a1 n1 dyk1 f1 x1 y1 h Q} (hR:R98 a1 n1 dyk1 f1 x1 y1 h Q):Tri Tryz.prog 98 [vL a1 n1 dyk1,vF f1 x1 y1] h Q:=
 tri_of_dn mixed Tryz.func98 rfl (by kernel_rfl) low98 (rs:=[.tmp 4]) (by kernel_rfl) rfl (Eq.mpr (by kernel_rfl) hR)
def d99:DCode:=up ⟨[(4, .l [.ptr]),(6, .l [.slice]),(7, .c (.one false [.bool]))],[],[]⟩ (lw nf Tryz.f99)
theorem low99:lw nf Tryz.f99=some (eC d99):=by kernel_rfl
def R99 (l1:Bs) (a1:OA) (n1 dyk1:Nat) (a2:OA) (n2 dyk2:Nat) (i1 i2:Int) (p1 o1:Nat) (h:PHeap) (Q:Value->PHeap->Prop):Prop:=
 ∃ p2 o2,h.cell p1 o1=some (vP p2 o2)/\
 tp 100 [vP p2 o2,vL a2 n2 dyk2] h fun v_1 h_1=>
 ∃ c1,v_1=vB c1/\
 Q (vB (!c1)) h_1
theorem T99 {l1 a1 n1 dyk1 a2 n2 dyk2 i1 i2 p1 o1 h Q} (hR:R99 l1 a1 n1 dyk1 a2 n2 dyk2 i1 i2 p1 o1 h Q):Tri Tryz.prog 99 [vA [vS l1,vL a1 n1 dyk1,vL a2 n2 dyk2,vI i1,vI i2],vP p1 o1] h Q:=
 tri_of_dn mixed Tryz.func99 rfl (by kernel_rfl) low99 (rs:=[.tmp 3]) (by kernel_rfl) rfl (Eq.mpr (by kernel_rfl) hR)
def d100:DCode:=up ⟨[(7, .c (.one false [.bool]))],[],[]⟩ (lw (fun d=>Nat.beq d 2) Tryz.f100)
theorem low100:lw (fun d=>Nat.beq d 2) Tryz.f100=some (eC d100):=by kernel_rfl
def R100 (p1 o1:Nat) (a1:OA) (n1 dyk1:Nat) (h:PHeap) (Q:Value->PHeap->Prop):Prop:=
 alc h [vP p1 o1] 127 fun b1 h_1=>
 tp 146 [vL a1 n1 dyk1,vF 147 [] [vP b1 0]] h_1 fun v_1 h_2=>
 ∃ c1,v_1=vB c1/\
 Q (vB (!c1)) h_2
theorem T100 {p1 o1 a1 n1 dyk1 h Q} (hR:R100 p1 o1 a1 n1 dyk1 h Q):Tri Tryz.prog 100 [vP p1 o1,vL a1 n1 dyk1] h Q:=
 tri_of_dn mixed Tryz.func100 rfl (by kernel_rfl) low100 (rs:=[.tmp 4]) (by kernel_rfl) rfl (Eq.mpr (by kernel_rfl) hR)
def d101:DCode:=up ⟨[(8, .c (.tup [(false,[qi]),(false,[qi]),(false,[.bool])]))],[],[]⟩ (lw nf Tryz.f101)
theorem low101:lw nf Tryz.f101=some (eC d101):=by kernel_rfl
def R101 (l1:Bs) (h:PHeap) (Q:Value->PHeap->Prop):Prop:=
 tp 24 [vS l1] h fun v_1 h_1=>
 ∃ i1 i2 c1,v_1=vT [vI i1,vI i2,vB c1]/\
 Q (vB c1) h_1
theorem T101 {l1 h Q} (hR:R101 l1 h Q):Tri Tryz.prog 101 [vS l1] h Q:=
 tri_of_dn mixed Tryz.func101 rfl (by kernel_rfl) low101 (rs:=[.tmp 2]) (by kernel_rfl) rfl (Eq.mpr (by kernel_rfl) hR)
abbrev o103_10:Op:= .call { callee:=(.builtin .append),args:=#[(.tmp 78),(.tmp 81)],argTypes:=#[51,51] }
def d103:DCode:=up ⟨[(9, .l [qi]),(15, .l [.str]),(17, .l [qi]),(20, .l [qi]),(22, .l [qi]),(23, .c (.tup [])),(31, .l [qi]),(33, .l [qi]),(34, .c (.tup [])),(36, .l [.slice]),(41, .l dyk1),(43, .l dyk1),(44, .c (.tup [])),(47, .l [qi]),(54, .l [.slice]),(56, .l [.str]),(57, .c (.one false [.bool])),(59, .l [qi]),(61, .l [qi]),(62, .c (.tup [])),(67, .l [qi]),(70, .l [qi]),(72, .l [qi]),(73, .c (.tup [])),(78, .l [.slice]),(80, .l [.str]),(82, .c (.one false [.slice])),(88, .l [qi]),(96, .l [.slice]),(98, .c (.tup [])),(101, .l [.slice]),(103, .c (.tup [])),(108, .l [.slice]),(109, .c (.tup []))],[84,91],[(39,9,[(38,qi)],[])]⟩ (lw nf Tryz.f103)
theorem low103:lw nf Tryz.f103=some (eC d103):=by kernel_rfl
abbrev K103_1 (h_1:PHeap) (n1:Nat) (a1:OA) (p1 o1:Nat) (i1:Int) (l1:Bs) (dyk1:Nat) (a2:OA) (n2 dyk2:Nat) (a3:OA) (n3 dyk3:Nat) (i2 i3:Int) (Q:Value->PHeap->Prop) (c1:Bool):Prop:=
 ∃ (I_1:Nat->Int->PHeap->Prop),(∃ m2,I_1 m2 0 h_1)/\
 ∀ m1 i4 h_2,I_1 m1 i4 h_2->
 br (decide (i4 < (n1:Int)))
 (slt a1 i4 n1 fun b1 o2=>
 ∃ i5 l2 l3 i6 l4 a4 n4 dyk4 i7 i8,h_2.row b1 (o2+(i4).toNat * 8) [vI i5,vS l2,vS l3,vI i6,vS l4,vL a4 n4 dyk4,vI i7,vI i8]/\
 tp 151 [vP p1 o1,vA [vI i5,vS l2,vS l3,vI i6,vS l4,vL a4 n4 dyk4,vI i7,vI i8]] h_2 fun v_2 h_3=>
 v_2=vT []/\
 ∃ m3,m3 < m1/\I_1 m3 (IntKind.i64.wrap (i4+1)) h_3/\
 tv [vI i1,vS l1,vL a1 n1 dyk1,vL a2 n2 dyk2,vL a3 n3 dyk3,vI i2,vI i3]/\True)
 (br (i1 == 1)
 (∃ a5 n5 k5,h_2.cell p1 (o1+2)=some (vL a5 n5 k5)/\
 tp 102 [vL a5 n5 k5,vS l1] h_2 fun v_3 h_4=>
 ∃ c2,v_3=vB c2/\
 (tv [vI i3])/\
 (tv [vI i2])/\
 tp 59 [vP p1 o1,vB c2,vI i2,vI i3,vI 7] h_4 fun v_4 h_5=>
 v_4=vT []/\
 ∃ i9,h_5.cell p1 (o1+3)=some (vI i9)/\
 tp 59 [vP p1 o1,vB (decide (i9≥32)),vI i2,vI i3,vI 9] h_5 fun v_5 h_6=>
 v_5=vT []/\
 (h_6.cell p1 (o1+3)=some (vI i9))/\
 ∃ a6 n6 k6,h_6.cell p1 (o1+2)=some (vL a6 n6 k6)/\
 alc h_6 [vS l1] 9 fun b2 h_7=>
 (h_7.cell p1 (o1+2)=some (vL a6 n6 k6))/\
 rq [(78,vL a6 n6 k6),(81,vL (ad b2 0) 1 1)] o103_10 51 h_7 fun v_6 h_8=>
 ∃ a7 n7 k7,v_6=vL a7 n7 k7/\
 sto h_8 p1 (o1+2) 1 [vL a7 n7 k7] fun h_9=>
 ∃ i10,h_9.cell p1 (o1+3)=some (vI i10)/\
 sto h_9 p1 (o1+3) 1 [vI (IntKind.i64.wrap (i10+1))] fun h_10=>
 Q (vT []) h_10)
 (br (i1 == 5)
 (tp 61 [vP p1 o1,vL a2 n2 dyk2,vB c1] h_2 fun v_7 h_11=>
 v_7=vT []/\
 tp 61 [vP p1 o1,vL a3 n3 dyk3,vB c1] h_11 fun v_8 h_12=>
 v_8=vT []/\
 Q (vT []) h_12)
 (br (i1 == 6)
 (tp 61 [vP p1 o1,vL a2 n2 dyk2,vB true] h_2 fun v_9 h_13=>
 v_9=vT []/\
 Q (vT []) h_13)
 (Q (vT []) h_2))))
def R103 (p1 o1:Nat) (i1:Int) (l1:Bs) (a1:OA) (n1 dyk1:Nat) (a2:OA) (n2 dyk2:Nat) (a3:OA) (n3 dyk3:Nat) (i2 i3:Int) (c1:Bool) (h:PHeap) (Q:Value->PHeap->Prop):Prop:=
 br (i1 == 2)
 (tp 150 [vP p1 o1,vS l1,vB (i1 == 3),vI i2,vI i3] h fun v_1 h_1=>
 v_1=vT []/\
 K103_1 h_1 n1 a1 p1 o1 i1 l1 dyk1 a2 n2 dyk2 a3 n3 dyk3 i2 i3 Q c1)
 (br (i1 == 3)
 (tp 150 [vP p1 o1,vS l1,vB (i1 == 3),vI i2,vI i3] h fun v_10 h_14=>
 v_10=vT []/\
 K103_1 h_14 n1 a1 p1 o1 i1 l1 dyk1 a2 n2 dyk2 a3 n3 dyk3 i2 i3 Q c1)
 (br (i1 == 8)
 (tp 59 [vP p1 o1,vB (!c1),vI i2,vI i3,vI 10] h fun v_19 h_27=>
 v_19=vT []/\
 K103_1 h_27 n1 a1 p1 o1 i1 l1 dyk1 a2 n2 dyk2 a3 n3 dyk3 i2 i3 Q c1)
 (br (i1 == 9)
 (tp 59 [vP p1 o1,vB (!c1),vI i2,vI i3,vI 10] h fun v_28 h_40=>
 v_28=vT []/\
 K103_1 h_40 n1 a1 p1 o1 i1 l1 dyk1 a2 n2 dyk2 a3 n3 dyk3 i2 i3 Q c1)
 (K103_1 h n1 a1 p1 o1 i1 l1 dyk1 a2 n2 dyk2 a3 n3 dyk3 i2 i3 Q c1))))
theorem T103 {p1 o1 i1 l1 a1 n1 dyk1 a2 n2 dyk2 a3 n3 dyk3 i2 i3 c1 h Q} (hR:R103 p1 o1 i1 l1 a1 n1 dyk1 a2 n2 dyk2 a3 n3 dyk3 i2 i3 c1 h Q):Tri Tryz.prog 103 [vP p1 o1,vA [vI i1,vS l1,vL a1 n1 dyk1,vL a2 n2 dyk2,vL a3 n3 dyk3,vI i2,vI i3],vB c1] h Q:=
 tri_of_dn mixed Tryz.func103 rfl (by kernel_rfl) low103 (rs:=[]) (by kernel_rfl) rfl (Eq.mpr (by kernel_rfl) hR)
def d106:DCode:=up ⟨[(6, .l [qi]),(13, .l [qi])],[9],[]⟩ (lw nf Tryz.f106)
theorem low106:lw nf Tryz.f106=some (eC d106):=by kernel_rfl
def R106 (p1 o1:Nat) (h:PHeap) (Q:Value->PHeap->Prop):Prop:=
 ∃ i1,h.cell p1 o1=some (vI i1)/\
 ∃ l1 t1 z1,h p1=some (.cells ⟨l1⟩ t1 z1)/\(o1+1<=l1.length/\z1.2<=o1)/\
 ∀ h_1,h_1=h.put p1 (.cells ⟨splice l1 o1 [vI (IntKind.i64.wrap (i1 - 1))]⟩ t1 z1)->
 ∃ i2,h_1.cell p1 o1=some (vI i2)/\
 Q (vB (decide (i2≥0))) h_1
theorem T106 {p1 o1 h Q} (hR:R106 p1 o1 h Q):Tri Tryz.prog 106 [vP p1 o1] h Q:=
 tri_of_dn mixed Tryz.func106 rfl (by kernel_rfl) low106 (rs:=[.tmp 2]) (by kernel_rfl) rfl (Eq.mpr (by kernel_rfl) hR)
def d107:DCode:=up ⟨[(7, .c (.one false [qi]))],[],[]⟩ (lw nf Tryz.f107)
theorem low107:lw nf Tryz.f107=some (eC d107):=by kernel_rfl
def R107 (a1:OA) (n1 dyk1 f1:Nat) (x1 y1:List Value) (h:PHeap) (Q:Value->PHeap->Prop):Prop:=
 tp 153 [vL a1 n1 dyk1,vF f1 x1 y1] h fun v_1 h_1=>
 ∃ i1,v_1=vI i1/\
 Q (vB (decide (i1≥0))) h_1
theorem T107 {a1 n1 dyk1 f1 x1 y1 h Q} (hR:R107 a1 n1 dyk1 f1 x1 y1 h Q):Tri Tryz.prog 107 [vL a1 n1 dyk1,vF f1 x1 y1] h Q:=
 tri_of_dn mixed Tryz.func107 rfl (by kernel_rfl) low107 (rs:=[.tmp 4]) (by kernel_rfl) rfl (Eq.mpr (by kernel_rfl) hR)
def d108:DCode:=up ⟨[(4, .l [.ptr]),(5, .l dyk1),(6, .c (.one false [.bool]))],[],[]⟩ (lw nf Tryz.f108)
theorem low108:lw nf Tryz.f108=some (eC d108):=by kernel_rfl
def R108 (i1:Int) (l1 l2:Bs) (i2:Int) (l3:Bs) (a1:OA) (n1 dyk1:Nat) (i3 i4:Int) (p1 o1:Nat) (h:PHeap) (Q:Value->PHeap->Prop):Prop:=
 ∃ p2 o2,h.cell p1 o1=some (vP p2 o2)/\
 tp 66 [vP p2 o2,vA [vI i1,vS l1,vS l2,vI i2,vS l3,vL a1 n1 dyk1,vI i3,vI i4]] h fun v_1 h_1=>
 ∃ c1,v_1=vB c1/\
 Q (vB (!c1)) h_1
theorem T108 {i1 l1 l2 i2 l3 a1 n1 dyk1 i3 i4 p1 o1 h Q} (hR:R108 i1 l1 l2 i2 l3 a1 n1 dyk1 i3 i4 p1 o1 h Q):Tri Tryz.prog 108 [vA [vI i1,vS l1,vS l2,vI i2,vS l3,vL a1 n1 dyk1,vI i3,vI i4],vP p1 o1] h Q:=
 tri_of_dn mixed Tryz.func108 rfl (by kernel_rfl) low108 (rs:=[.tmp 3]) (by kernel_rfl) rfl (Eq.mpr (by kernel_rfl) hR)
def d145:DCode:=up ⟨[(15, .l dyk3),(16, .c (.one false [.bool]))],[],[(9,13,[(8,qi)],[])]⟩ (lw nf Tryz.f145)
theorem low145:lw nf Tryz.f145=some (eC d145):=by kernel_rfl
def R145 (a1:OA) (n1 dyk1 f1:Nat) (x1 y1:List Value) (h:PHeap) (Q:Value->PHeap->Prop):Prop:=
 ∃ (I_1:Nat->Int->PHeap->Prop),(∃ m2,I_1 m2 0 h)/\
 ∀ m1 i1 h_1,I_1 m1 i1 h_1->
 br (decide (i1 < (n1:Int)))
 (slt a1 i1 n1 fun b1 o1=>
 ∃ l1 a2 n2 dyk2 a3 n3 dyk3 i2 i3,h_1.row b1 (o1+(i1).toNat * 5) [vS l1,vL a2 n2 dyk2,vL a3 n3 dyk3,vI i2,vI i3]/\
 tp f1 (x1++[vA [vS l1,vL a2 n2 dyk2,vL a3 n3 dyk3,vI i2,vI i3]]++y1) h_1 fun v_1 h_2=>
 ∃ c1,v_1=vB c1/\
 br c1
 (Q (vI i1) h_2)
 (∃ m3,m3 < m1/\I_1 m3 (IntKind.i64.wrap (i1+1)) h_2/\
 True))
 (Q (vI (-1)) h_1)
theorem T145 {a1 n1 dyk1 f1 x1 y1 h Q} (hR:R145 a1 n1 dyk1 f1 x1 y1 h Q):Tri Tryz.prog 145 [vL a1 n1 dyk1,vF f1 x1 y1] h Q:=
 tri_of_dn mixed Tryz.func145 rfl (by kernel_rfl) low145 (rs:=[.tmp 4]) (by kernel_rfl) rfl (Eq.mpr (by kernel_rfl) hR)
def d146:DCode:=up ⟨[(7, .c (.one false [qi]))],[],[]⟩ (lw nf Tryz.f146)
theorem low146:lw nf Tryz.f146=some (eC d146):=by kernel_rfl
def R146 (a1:OA) (n1 dyk1 f1:Nat) (x1 y1:List Value) (h:PHeap) (Q:Value->PHeap->Prop):Prop:=
 tp 175 [vL a1 n1 dyk1,vF f1 x1 y1] h fun v_1 h_1=>
 ∃ i1,v_1=vI i1/\
 Q (vB (decide (i1≥0))) h_1
theorem T146 {a1 n1 dyk1 f1 x1 y1 h Q} (hR:R146 a1 n1 dyk1 f1 x1 y1 h Q):Tri Tryz.prog 146 [vL a1 n1 dyk1,vF f1 x1 y1] h Q:=
 tri_of_dn mixed Tryz.func146 rfl (by kernel_rfl) low146 (rs:=[.tmp 4]) (by kernel_rfl) rfl (Eq.mpr (by kernel_rfl) hR)
def d147:DCode:=up ⟨[(4, .l [.ptr]),(5, .l dyk4),(6, .c (.one false [.bool]))],[],[]⟩ (lw nf Tryz.f147)
theorem low147:lw nf Tryz.f147=some (eC d147):=by kernel_rfl
def R147 (i1:Int) (l1:Bs) (a1:OA) (n1 dyk1:Nat) (a2:OA) (n2 dyk2:Nat) (a3:OA) (n3 dyk3:Nat) (i2 i3:Int) (p1 o1:Nat) (h:PHeap) (Q:Value->PHeap->Prop):Prop:=
 ∃ p2 o2,h.cell p1 o1=some (vP p2 o2)/\
 tp 148 [vP p2 o2,vA [vI i1,vS l1,vL a1 n1 dyk1,vL a2 n2 dyk2,vL a3 n3 dyk3,vI i2,vI i3]] h fun v_1 h_1=>
 ∃ c1,v_1=vB c1/\
 Q (vB (!c1)) h_1
theorem T147 {i1 l1 a1 n1 dyk1 a2 n2 dyk2 a3 n3 dyk3 i2 i3 p1 o1 h Q} (hR:R147 i1 l1 a1 n1 dyk1 a2 n2 dyk2 a3 n3 dyk3 i2 i3 p1 o1 h Q):Tri Tryz.prog 147 [vA [vI i1,vS l1,vL a1 n1 dyk1,vL a2 n2 dyk2,vL a3 n3 dyk3,vI i2,vI i3],vP p1 o1] h Q:=
 tri_of_dn mixed Tryz.func147 rfl (by kernel_rfl) low147 (rs:=[.tmp 3]) (by kernel_rfl) rfl (Eq.mpr (by kernel_rfl) hR)
abbrev o150_1:Op:= .lookup 111 (.tmp 24) (.tmp 25) true
def d150:DCode:=up ⟨[(16, .l [.slice]),(18, .c (.one false [.bool])),(24, .l [.map]),(26, .c (.tup [(true,dyk2),(false,[.bool])])),(34, .c (.tup [])),(36, .l [qi]),(44, .c (.tup []))],[],[]⟩ (lw nf Tryz.f150)
theorem low150:lw nf Tryz.f150=some (eC d150):=by kernel_rfl
def R150 (p1 o1:Nat) (l1:Bs) (c1:Bool) (i1 i2:Int) (h:PHeap) (Q:Value->PHeap->Prop):Prop:=
 ∃ a1 n1 dyk1,h.cell p1 (o1+2)=some (vL a1 n1 dyk1)/\
 tp 102 [vL a1 n1 dyk1,vS l1] h fun v_1 h_1=>
 ∃ c2,v_1=vB c2/\
 br (!c2)
 (∃ m1,h_1.cell p1 o1=some (vM m1)/\
 rq [(24,vM m1),(25,vS l1)] o150_1 181 h_1 fun v_2 h_2=>
 ∃ l2 i3 i4 i5 i6 c3,v_2=vT [vA [vS l2,vI i3,vI i4,vI i5,vI i6],vB c3]/\
 tp 59 [vP p1 o1,vB (!c3),vI i1,vI i2,vI 37] h_2 fun v_3 h_3=>
 v_3=vT []/\
 tp 59 [vP p1 o1,vB (!(c1 == (i3 != 0))),vI i1,vI i2,vI 31] h_3 fun v_4 h_4=>
 v_4=vT []/\
 Q (vT []) h_4)
 (tp 59 [vP p1 o1,vB (!(c1 == false)),vI i1,vI i2,vI 31] h_1 fun v_5 h_5=>
 v_5=vT []/\
 Q (vT []) h_5)
theorem T150 {p1 o1 l1 c1 i1 i2 h Q} (hR:R150 p1 o1 l1 c1 i1 i2 h Q):Tri Tryz.prog 150 [vP p1 o1,vS l1,vB c1,vI i1,vI i2] h Q:=
 tri_of_dn mixed Tryz.func150 rfl (by kernel_rfl) low150 (rs:=[]) (by kernel_rfl) rfl (Eq.mpr (by kernel_rfl) hR)
abbrev o151_8:Op:= .lookup 112 (.tmp 40) (.tmp 42) true
def d151:DCode:=up ⟨[(10, .l [qi]),(16, .l [.str]),(18, .l [qi]),(21, .l [qi]),(23, .l [qi]),(24, .c (.tup [])),(29, .l [.str]),(30, .c (.tup [(false,[qi]),(false,[qi]),(false,[.bool])])),(40, .l [.map]),(42, .l [.str]),(43, .c (.tup [(false,[qi]),(false,[.bool])])),(51, .l [qi]),(53, .l [qi]),(54, .c (.tup [])),(57, .l [.slice]),(63, .l [.slice]),(69, .l [qi]),(71, .l [qi]),(72, .c (.tup [])),(74, .l [.slice]),(79, .l dyk1),(81, .l dyk1),(82, .c (.tup []))],[],[(77,9,[(76,qi)],[])]⟩ (lw nf Tryz.f151)
theorem low151:lw nf Tryz.f151=some (eC d151):=by kernel_rfl
abbrev K151_1 (h_1:PHeap) (n1:Nat) (a1:OA) (p1 o1:Nat) (i1:Int) (l1 l2:Bs) (i2:Int) (l3:Bs) (dyk1:Nat) (i3 i4:Int) (Q:Value->PHeap->Prop):Prop:=
 ∃ (I_1:Nat->Int->PHeap->Prop),(∃ m2,I_1 m2 0 h_1)/\
 ∀ m1 i5 h_2,I_1 m1 i5 h_2->
 br (decide (i5 < (n1:Int)))
 (slt a1 i5 n1 fun b1 o2=>
 ∃ i6 l4 l5 i7 l6 a2 n2 dyk2 i8 i9,h_2.row b1 (o2+(i5).toNat * 8) [vI i6,vS l4,vS l5,vI i7,vS l6,vL a2 n2 dyk2,vI i8,vI i9]/\
 tp 151 [vP p1 o1,vA [vI i6,vS l4,vS l5,vI i7,vS l6,vL a2 n2 dyk2,vI i8,vI i9]] h_2 fun v_2 h_3=>
 v_2=vT []/\
 ∃ m3,m3 < m1/\I_1 m3 (IntKind.i64.wrap (i5+1)) h_3/\
 tv [vI i1,vS l1,vS l2,vI i2,vS l3,vL a1 n1 dyk1,vI i3,vI i4]/\True)
 (Q (vT []) h_2)
def R151 (p1 o1:Nat) (i1:Int) (l1 l2:Bs) (i2:Int) (l3:Bs) (a1:OA) (n1 dyk1:Nat) (i3 i4:Int) (h:PHeap) (Q:Value->PHeap->Prop):Prop:=
 br (i1 == 3)
 (tp 150 [vP p1 o1,vS l2,vB (i1 == 4),vI i3,vI i4] h fun v_1 h_1=>
 v_1=vT []/\
 K151_1 h_1 n1 a1 p1 o1 i1 l1 l2 i2 l3 dyk1 i3 i4 Q)
 (br (i1 == 4)
 (tp 150 [vP p1 o1,vS l2,vB (i1 == 4),vI i3,vI i4] h fun v_3 h_4=>
 v_3=vT []/\
 K151_1 h_4 n1 a1 p1 o1 i1 l1 l2 i2 l3 dyk1 i3 i4 Q)
 (br (i1 == 5)
 (tp 24 [vS l2] h fun v_5 h_7=>
 ∃ i15 i16 c1,v_5=vT [vI i15,vI i16,vB c1]/\
 br (!c1)
 (∃ m7,h_7.cell p1 (o1+1)=some (vM m7)/\
 rq [(40,vM m7),(42,vS l2)] o151_8 117 h_7 fun v_6 h_8=>
 ∃ i17 c2,v_6=vT [vI i17,vB c2]/\
 tp 59 [vP p1 o1,vB (!c2),vI i3,vI i4,vI 37] h_8 fun v_7 h_9=>
 v_7=vT []/\
 br (decide ((n1:Int) < i17))
 (tp 59 [vP p1 o1,vB true,vI i3,vI i4,vI 31] h_9 fun v_8 h_10=>
 v_8=vT []/\
 K151_1 h_10 n1 a1 p1 o1 i1 l1 l2 i2 l3 dyk1 i3 i4 Q)
 (tp 59 [vP p1 o1,vB (decide ((n1:Int) > i17)),vI i3,vI i4,vI 31] h_9 fun v_10 h_13=>
 v_10=vT []/\
 K151_1 h_13 n1 a1 p1 o1 i1 l1 l2 i2 l3 dyk1 i3 i4 Q))
 (tp 59 [vP p1 o1,vB (!c1),vI i3,vI i4,vI 37] h_7 fun v_12 h_16=>
 v_12=vT []/\
 br (decide ((n1:Int) < i15))
 (tp 59 [vP p1 o1,vB true,vI i3,vI i4,vI 31] h_16 fun v_13 h_17=>
 v_13=vT []/\
 K151_1 h_17 n1 a1 p1 o1 i1 l1 l2 i2 l3 dyk1 i3 i4 Q)
 (tp 59 [vP p1 o1,vB (decide ((n1:Int) > i16)),vI i3,vI i4,vI 31] h_16 fun v_15 h_20=>
 v_15=vT []/\
 K151_1 h_20 n1 a1 p1 o1 i1 l1 l2 i2 l3 dyk1 i3 i4 Q)))
 (K151_1 h n1 a1 p1 o1 i1 l1 l2 i2 l3 dyk1 i3 i4 Q)))
theorem T151 {p1 o1 i1 l1 l2 i2 l3 a1 n1 dyk1 i3 i4 h Q} (hR:R151 p1 o1 i1 l1 l2 i2 l3 a1 n1 dyk1 i3 i4 h Q):Tri Tryz.prog 151 [vP p1 o1,vA [vI i1,vS l1,vS l2,vI i2,vS l3,vL a1 n1 dyk1,vI i3,vI i4]] h Q:=
 tri_of_dn mixed Tryz.func151 rfl (by kernel_rfl) low151 (rs:=[]) (by kernel_rfl) rfl (Eq.mpr (by kernel_rfl) hR)
def d153:DCode:=up ⟨[(15, .l dyk1),(16, .c (.one false [.bool]))],[],[(9,13,[(8,qi)],[])]⟩ (lw nf Tryz.f153)
theorem low153:lw nf Tryz.f153=some (eC d153):=by kernel_rfl
def R153 (a1:OA) (n1 dyk1 f1:Nat) (x1 y1:List Value) (h:PHeap) (Q:Value->PHeap->Prop):Prop:=
 ∃ (I_1:Nat->Int->PHeap->Prop),(∃ m2,I_1 m2 0 h)/\
 ∀ m1 i1 h_1,I_1 m1 i1 h_1->
 br (decide (i1 < (n1:Int)))
 (slt a1 i1 n1 fun b1 o1=>
 ∃ i2 l1 l2 i3 l3 a2 n2 dyk2 i4 i5,h_1.row b1 (o1+(i1).toNat * 8) [vI i2,vS l1,vS l2,vI i3,vS l3,vL a2 n2 dyk2,vI i4,vI i5]/\
 tp f1 (x1++[vA [vI i2,vS l1,vS l2,vI i3,vS l3,vL a2 n2 dyk2,vI i4,vI i5]]++y1) h_1 fun v_1 h_2=>
 ∃ c1,v_1=vB c1/\
 br c1
 (Q (vI i1) h_2)
 (∃ m3,m3 < m1/\I_1 m3 (IntKind.i64.wrap (i1+1)) h_2/\
 True))
 (Q (vI (-1)) h_1)
theorem T153 {a1 n1 dyk1 f1 x1 y1 h Q} (hR:R153 a1 n1 dyk1 f1 x1 y1 h Q):Tri Tryz.prog 153 [vL a1 n1 dyk1,vF f1 x1 y1] h Q:=
 tri_of_dn mixed Tryz.func153 rfl (by kernel_rfl) low153 (rs:=[.tmp 4]) (by kernel_rfl) rfl (Eq.mpr (by kernel_rfl) hR)
def d175:DCode:=up ⟨[(15, .l dyk4),(16, .c (.one false [.bool]))],[],[(9,13,[(8,qi)],[])]⟩ (lw nf Tryz.f175)
theorem low175:lw nf Tryz.f175=some (eC d175):=by kernel_rfl
def R175 (a1:OA) (n1 dyk1 f1:Nat) (x1 y1:List Value) (h:PHeap) (Q:Value->PHeap->Prop):Prop:=
 ∃ (I_1:Nat->Int->PHeap->Prop),(∃ m2,I_1 m2 0 h)/\
 ∀ m1 i1 h_1,I_1 m1 i1 h_1->
 br (decide (i1 < (n1:Int)))
 (slt a1 i1 n1 fun b1 o1=>
 ∃ i2 l1 a2 n2 dyk2 a3 n3 dyk3 a4 n4 dyk4 i3 i4,h_1.row b1 (o1+(i1).toNat * 7) [vI i2,vS l1,vL a2 n2 dyk2,vL a3 n3 dyk3,vL a4 n4 dyk4,vI i3,vI i4]/\
 tp f1 (x1++[vA [vI i2,vS l1,vL a2 n2 dyk2,vL a3 n3 dyk3,vL a4 n4 dyk4,vI i3,vI i4]]++y1) h_1 fun v_1 h_2=>
 ∃ c1,v_1=vB c1/\
 br c1
 (Q (vI i1) h_2)
 (∃ m3,m3 < m1/\I_1 m3 (IntKind.i64.wrap (i1+1)) h_2/\
 True))
 (Q (vI (-1)) h_1)
theorem T175 {a1 n1 dyk1 f1 x1 y1 h Q} (hR:R175 a1 n1 dyk1 f1 x1 y1 h Q):Tri Tryz.prog 175 [vL a1 n1 dyk1,vF f1 x1 y1] h Q:=
 tri_of_dn mixed Tryz.func175 rfl (by kernel_rfl) low175 (rs:=[.tmp 4]) (by kernel_rfl) rfl (Eq.mpr (by kernel_rfl) hR)
def d176:DCode:=up ⟨[(4, .l [.ptr]),(5, .l dyk1),(6, .c (.one false [.bool]))],[],[]⟩ (lw nf Tryz.f176)
theorem low176:lw nf Tryz.f176=some (eC d176):=by kernel_rfl
def R176 (i1:Int) (l1 l2:Bs) (i2:Int) (l3:Bs) (a1:OA) (n1 dyk1:Nat) (i3 i4:Int) (p1 o1:Nat) (h:PHeap) (Q:Value->PHeap->Prop):Prop:=
 ∃ p2 o2,h.cell p1 o1=some (vP p2 o2)/\
 tp 66 [vP p2 o2,vA [vI i1,vS l1,vS l2,vI i2,vS l3,vL a1 n1 dyk1,vI i3,vI i4]] h fun v_1 h_1=>
 ∃ c1,v_1=vB c1/\
 Q (vB (!c1)) h_1
theorem T176 {i1 l1 l2 i2 l3 a1 n1 dyk1 i3 i4 p1 o1 h Q} (hR:R176 i1 l1 l2 i2 l3 a1 n1 dyk1 i3 i4 p1 o1 h Q):Tri Tryz.prog 176 [vA [vI i1,vS l1,vS l2,vI i2,vS l3,vL a1 n1 dyk1,vI i3,vI i4],vP p1 o1] h Q:=
 tri_of_dn mixed Tryz.func176 rfl (by kernel_rfl) low176 (rs:=[.tmp 3]) (by kernel_rfl) rfl (Eq.mpr (by kernel_rfl) hR)
end
end Go.Proofs.D
namespace Go.Proofs.D
open Go Go.Den
noncomputable section
set_option maxRecDepth 100000
set_option maxHeartbeats 4000000
def d148:DCode:=up ⟨[(7, .l [.ptr]),(8, .c (.one false [.bool])),(11, .l [qi]),(26, .l [.slice]),(32, .l [.slice]),(38, .l [.slice]),(43, .l [qi]),(48, .l [qi]),(53, .l [.slice]),(58, .l [qi]),(63, .l [.slice]),(65, .c (.one false [.bool])),(68, .l [.ptr]),(70, .l [.slice]),(71, .c (.one false [.bool])),(74, .l [.ptr]),(76, .l [.slice]),(77, .c (.one false [.bool]))],[],[]⟩ (lw (fun d=>Nat.beq d 2) Tryz.f148)
theorem low148:lw (fun d=>Nat.beq d 2) Tryz.f148=some (eC d148):=by kernel_rfl
abbrev K148_2 (a1:OA) (n1 k1 b1:Nat) (h_2:PHeap) (a2:OA) (n2 k2:Nat) (a3:OA) (n3 k3:Nat) (Q:Value->PHeap->Prop):Prop:=
 tp 107 [vL a1 n1 k1,vF 176 [] [vP b1 0]] h_2 fun v_2 h_3=>
 ∃ c2,v_2=vB c2/\
 br (!c2)
 (∃ p3 o3,h_3.cell b1 0=some (vP p3 o3)/\
 tp 100 [vP p3 o3,vL a2 n2 k2] h_3 fun v_3 h_4=>
 ∃ c3,v_3=vB c3/\
 br c3
 (∃ p4 o4,h_4.cell b1 0=some (vP p4 o4)/\
 tp 100 [vP p4 o4,vL a3 n3 k3] h_4 fun v_4 h_5=>
 ∃ c4,v_4=vB c4/\
 Q (vB c4) h_5)
 (Q (vB false) h_4))
 (Q (vB false) h_3)
abbrev K148_1 (n2:Nat) (i1:Int) (Q:Value->PHeap->Prop) (h_2:PHeap) (n3:Nat) (a1:OA) (n1:Nat) (k1:Nat) (b1:Nat) (a2:OA) (k2:Nat) (a3:OA) (k3:Nat):Prop:=
 br (decide ((n2:Int) > 0))
 (br (i1 != 5)
 (br (i1 != 6)
 (Q (vB false) h_2)
 (br (decide ((n3:Int) > 0))
 (br (i1 != 5)
 (Q (vB false) h_2)
 (K148_2 a1 n1 k1 b1 h_2 a2 n2 k2 a3 n3 k3 Q))
 (K148_2 a1 n1 k1 b1 h_2 a2 n2 k2 a3 n3 k3 Q)))
 (br (decide ((n3:Int) > 0))
 (br (i1 != 5)
 (Q (vB false) h_2)
 (K148_2 a1 n1 k1 b1 h_2 a2 n2 k2 a3 n3 k3 Q))
 (K148_2 a1 n1 k1 b1 h_2 a2 n2 k2 a3 n3 k3 Q)))
 (br (decide ((n3:Int) > 0))
 (br (i1 != 5)
 (Q (vB false) h_2)
 (K148_2 a1 n1 k1 b1 h_2 a2 n2 k2 a3 n3 k3 Q))
 (K148_2 a1 n1 k1 b1 h_2 a2 n2 k2 a3 n3 k3 Q))
def R148 (p1 o1:Nat) (i1:Int) (l1:Bs) (a1:OA) (n1 k1:Nat) (a2:OA) (n2 k2:Nat) (a3:OA) (n3 k3:Nat) (i2 i3:Int) (h:PHeap) (Q:Value->PHeap->Prop):Prop:=
 alc h [vP p1 o1] 127 fun b1 h_1=>
 ∃ p2 o2,h_1.cell b1 0=some (vP p2 o2)/\
 tp 106 [vP p2 o2] h_1 fun v_1 h_2=>
 ∃ c1,v_1=vB c1/\
 br (!c1)
 (Q (vB false) h_2)
 (br (i1 == 1)
 (br (decide ((n1:Int) < 0))
 (Q (vB false) h_2)
 (br (decide ((n1:Int) > 1))
 (Q (vB false) h_2)
 (K148_1 n2 i1 Q h_2 n3 a1 n1 k1 b1 a2 k2 a3 k3)))
 (br (i1 == 7)
 (br (decide ((n1:Int) < 0))
 (Q (vB false) h_2)
 (br (decide ((n1:Int) > 1))
 (Q (vB false) h_2)
 (K148_1 n2 i1 Q h_2 n3 a1 n1 k1 b1 a2 k2 a3 k3)))
 (br (i1 == 2)
 (br (decide ((n1:Int) < 1))
 (Q (vB false) h_2)
 (br (decide ((n1:Int) > 1))
 (Q (vB false) h_2)
 (K148_1 n2 i1 Q h_2 n3 a1 n1 k1 b1 a2 k2 a3 k3)))
 (br (i1 == 4)
 (br (decide ((n1:Int) < 1))
 (Q (vB false) h_2)
 (br (decide ((n1:Int) > 1))
 (Q (vB false) h_2)
 (K148_1 n2 i1 Q h_2 n3 a1 n1 k1 b1 a2 k2 a3 k3)))
 (br (i1 == 5)
 (br (decide ((n1:Int) < 1))
 (Q (vB false) h_2)
 (br (decide ((n1:Int) > 1))
 (Q (vB false) h_2)
 (K148_1 n2 i1 Q h_2 n3 a1 n1 k1 b1 a2 k2 a3 k3)))
 (br (i1 == 6)
 (br (decide ((n1:Int) < 1))
 (Q (vB false) h_2)
 (br (decide ((n1:Int) > 1))
 (Q (vB false) h_2)
 (K148_1 n2 i1 Q h_2 n3 a1 n1 k1 b1 a2 k2 a3 k3)))
 (br (i1 == 3)
 (br (decide ((n1:Int) < 2))
 (Q (vB false) h_2)
 (br (decide ((n1:Int) > 2))
 (Q (vB false) h_2)
 (K148_1 n2 i1 Q h_2 n3 a1 n1 k1 b1 a2 k2 a3 k3)))
 (br (i1 == 8)
 (br (decide ((n1:Int) < 0))
 (Q (vB false) h_2)
 (br (decide ((n1:Int) > 0))
 (Q (vB false) h_2)
 (K148_1 n2 i1 Q h_2 n3 a1 n1 k1 b1 a2 k2 a3 k3)))
 (br (i1 == 9)
 (br (decide ((n1:Int) < 0))
 (Q (vB false) h_2)
 (br (decide ((n1:Int) > 0))
 (Q (vB false) h_2)
 (K148_1 n2 i1 Q h_2 n3 a1 n1 k1 b1 a2 k2 a3 k3)))
 (Q (vB false) h_2))))))))))
theorem T148 {p1 o1 i1 l1 a1 n1 k1 a2 n2 k2 a3 n3 k3 i2 i3 h Q} (hR:R148 p1 o1 i1 l1 a1 n1 k1 a2 n2 k2 a3 n3 k3 i2 i3 h Q):Tri Tryz.prog 148 [vP p1 o1,vA [vI i1,vS l1,vL a1 n1 k1,vL a2 n2 k2,vL a3 n3 k3,vI i2,vI i3]] h Q:=
 tri_of_dn mixed Tryz.func148 rfl (by kernel_rfl) low148 (rs:=[.tmp 4]) (by kernel_rfl) rfl (Eq.mpr (by kernel_rfl) hR)
end
end Go.Proofs.D
namespace Go.Sx
def shapeE (k n:Nat):Prop:=(k=1∨k=2∨k=3)/\n=0∨(k=4∨k=6)/\n=1∨k=7/\n=2∨k=5
def shapeS (k a b c:Nat):Prop:=(k=1∨k=7)/\a<=1/\b=0/\c=0∨(k=2∨k=4)/\a=1/\b=0/\c=0∨k=3/\a=2/\b=0/\c=0∨(k=8∨k=9)/\a=0/\b=0/\c=0∨k=6/\a=1/\c=0∨k=5/\a=1
mutual
def wfE:E->Prop
 | .mk k _ _ _ _ args _=>shapeE k args.length/\wfEs args
def wfEs:List E->Prop
 | []=>True
 | e::es=>wfE e/\wfEs es
end
mutual
def wfS:S->Prop
 | .mk k _ args body els _=>shapeS k args.length body.length els.length/\wfEs args/\wfSs body/\wfSs els
def wfSs:List S->Prop
 | []=>True
 | s::ss=>wfS s/\wfSs ss
end
theorem wfEs_iff:∀ {l:List E},wfEs l↔∀ e∈l,wfE e
 | []=>by simp [wfEs]
 | e::l=>by simp [wfEs,wfEs_iff (l:=l)]
theorem wfSs_iff:∀ {l:List S},wfSs l↔∀ e∈l,wfS e
 | []=>by simp [wfSs]
 | e::l=>by simp [wfSs,wfSs_iff (l:=l)]
theorem wfClE:ClE (fun _=>True) (fun _=>True) wfE where
 z:=trivial
 t _ _:=trivial
 c1 t _ _:=by simp [wfE,wfEs,shapeE]
 c2 t _ _:=by simp [wfE,wfEs,shapeE]
 c3 t _ _:=by simp [wfE,wfEs,shapeE]
 c4 t e _ _ h:=by simp [wfE,wfEs,shapeE,h]
 c5 t l _ _ h:=by simp [wfE,shapeE,wfEs_iff];exact h
 c6 t e _ _ h:=by simp [wfE,wfEs,shapeE,h]
 c7 t e e' _ _ _ _ h h':=by simp [wfE,wfEs,shapeE,h,h']
theorem wfClS:ClS (fun _=>True) (fun _=>True) wfE wfS where
 toClE:=wfClE
 s1 t u l _ _ _ h:=by rcases h with rfl | ⟨e,rfl,h⟩ <;> simp [wfS,wfSs,wfEs,shapeS];exact h
 s2 t e _ _ h:=by simp [wfS,wfSs,wfEs,shapeS,h]
 s3 t i e _ _ h h':=by simp [wfS,wfSs,wfEs,shapeS,h,h']
 s4 t l _ _ h:=by simp [wfS,wfSs,wfEs,wfE,shapeS,shapeE,wfEs_iff];exact h
 s5 t e b c _ h hb hc:=by simp [wfS,wfEs,shapeS,wfSs_iff,h];exact ⟨hb,hc⟩
 s6 t e b _ h hb:=by simp [wfS,wfEs,wfSs,shapeS,wfSs_iff,h];exact hb
 s7 t l _ h:=by rcases h with rfl | ⟨e,rfl,h⟩ <;> simp [wfS,wfSs,wfEs,shapeS];exact h
 s8 t _:=by simp [wfS,wfSs,wfEs,shapeS]
 s9 t _:=by simp [wfS,wfSs,wfEs,shapeS]
end Go.Sx
namespace Go.Proofs.D
open Go Go.Den Go.Sx
set_option maxRecDepth 100000
attribute [local irreducible] IntKind.wrap Tri parseS
def CB (cb n:Nat) (h:PHeap):Prop:=n<=4096/\h cb=some (.cells ⟨[vI n]⟩ 129)
def CP (cb n:Nat) (h:PHeap) (v:Value) (h':PHeap):Prop:=v=vB true/\Away cb h h'/\CB cb n h'
theorem one_t {cb n:Nat} {h:PHeap} (hb:CB cb (n+1) h):Tri Tryz.prog 106 [vP cb 0] h (CP cb n h):=by
 obtain ⟨hn,hb⟩:=hb
 refine T106 ?_
 unfold R106
 refine ⟨_,cell_of hb 0,_,_,_,hb,⟨by simp,Nat.zero_le _⟩,?_⟩
 intro h1 hh1
 have hb1:h1 cb=some (.cells ⟨[vI (IntKind.i64.wrap (((n+1:Nat):Int) - 1))]⟩ 129):=Put.at hh1
 rw [wrap64 (by omega) (by omega),show (((n+1:Nat):Int) - 1)=n by omega] at hb1
 refine ⟨_,cell_of hb1 0,?_,(Put.chg hh1).away,by omega,hb1⟩
 simp
theorem ext_away {g:PHeap} {cb:Nat} {h h':PHeap} (hg:g cb=none) (x:Ext g h) (a:Away cb h h'):Ext g h':=fun k o hk=>a k o (fun e=>by subst e;rw [hg] at hk;cases hk) (x k o hk)
theorem cb_put {cb n b:Nat} {o:Obj} {h h1:PHeap} (hc:CB cb n h) (hb:h b=none) (e:h1=h.put b o):CB cb n h1:=⟨hc.1,Put.ext e hb _ _ hc.2⟩
theorem ne_cb {cb n b:Nat} {h:PHeap} (hc:CB cb n h) (hb:h b=none):b≠cb:=fun e=>by subst e;rw [hc.2] at hb;cases hb
theorem cntEs_drop {es:List E} {j:Nat} (hj:j < es.length):cntEs (es.drop j)=cntE es[j]+cntEs (es.drop (j+1)):=by rw [List.drop_eq_getElem_cons hj];rfl
theorem cntSs_drop {es:List S} {j:Nat} (hj:j < es.length):cntSs (es.drop j)=cntS es[j]+cntSs (es.drop (j+1)):=by rw [List.drop_eq_getElem_cons hj];rfl
section
variable {s : Bytes} {g : PHeap} {cb : Nat}
def TE (s:Bytes) (g:PHeap) (cb:Nat) (e:E):Prop:=∀ cs,RE (plP s) 8 g e cs->∀ h n,Ext g h->CB cb (n+cntE e) h->Tri Tryz.prog 66 [vP cb 0,vA cs] h (CP cb n h)
def TS (s:Bytes) (g:PHeap) (cb:Nat) (e:S):Prop:=∀ cs,RS (plP s) 8 7 g e cs->∀ h n,Ext g h->CB cb (n+cntS e) h->Tri Tryz.prog 148 [vP cb 0,vA cs] h (CP cb n h)
theorem texprs (hg:g cb=none) {f b1:Nat} (hf:f=108∨f=176) {es:List E} (ih:∀ e∈es,TE s g cb e) {a:Option Addr} {c:Nat} (hA:At 8 (RE (plP s) 8) g a es) {h:PHeap} {n:Nat} (hx:Ext g h) (hb:b1≠cb) (hb1:h b1=some (.cells ⟨[vP cb 0]⟩ 127)) (hc:CB cb (n+cntEs es) h):
 Tri Tryz.prog 107 [vL a es.length c,vF f [] [vP b1 0]] h fun v h'=>v=vB false/\Away cb h h'/\CB cb n h':=by
 refine T107 ?_
 unfold R107
 have hl:=hc.1
 have hlen:=cntEs_len es
 suffices hs:Tri Tryz.prog 153 [vL a es.length c,vF f [] [vP b1 0]] h fun v h'=>v=vI (-1)/\Away cb h h'/\CB cb n h' by
  refine Tri.mono hs ?_
  rintro _ h1 ⟨rfl,h2,h3⟩
  exact ⟨_,rfl,rfl,h2,h3⟩
 refine T153 ?_
 unfold R153
 refine ⟨fun m i h'=>Away cb h h'/\∃ j:Nat,i=j/\j+m=es.length/\CB cb (n+cntEs (es.drop j)) h',⟨es.length,Away.refl _ _,0,rfl,by omega,hc⟩,?_⟩
 rintro m _ h1 ⟨ha,j,rfl,hjm,hcj⟩
 refine br_split (fun e=>?_) (fun e=>?_)
 . have hj:j < es.length:=by
    have:=of_decide_eq_true e
    omega
   obtain ⟨b,o,cs,rfl,hr,hrel⟩:=hA.get hj
   have ihj:=ih _ (List.getElem_mem hj) _ hrel h1 (n+cntEs (es.drop (j+1))) (ext_away hg hx ha) (by rw [cntEs_drop hj] at hcj;rwa [show n+cntEs (es.drop (j+1))+cntE es[j]=n+(cntE es[j]+cntEs (es.drop (j+1))) by omega])
   have hr:=row_ext (fun ob=>ext_away hg hx ha b ob) hr
   have hb2:=ha _ _ hb hb1
   generalize es[j]=x at *
   match x,hrel with
   | .mk kd op nm vl tx args pos,hrel=>
   obtain ⟨a1,c1,rfl,hA1⟩:=RE_iff.1 hrel
   refine ⟨b,o,rfl,⟨by omega,by omega⟩,_,_,_,_,_,_,_,_,_,_,hr,?_⟩
   rcases hf with rfl | rfl
   . refine T108 ?_
     unfold R108
     refine ⟨_,_,cell_of hb2 0,?_⟩
     refine Tri.mono ihj ?_
     rintro _ h2 ⟨rfl,h3,h4⟩
     refine ⟨_,rfl,_,rfl,br_neg rfl ⟨m - 1,by omega,⟨ha.trans h3,j+1,?_,by omega,h4⟩,trivial⟩⟩
     rw [wrap64 (by omega) (by omega)];rfl
   . refine T176 ?_
     unfold R176
     refine ⟨_,_,cell_of hb2 0,?_⟩
     refine Tri.mono ihj ?_
     rintro _ h2 ⟨rfl,h3,h4⟩
     refine ⟨_,rfl,_,rfl,br_neg rfl ⟨m - 1,by omega,⟨ha.trans h3,j+1,?_,by omega,h4⟩,trivial⟩⟩
     rw [wrap64 (by omega) (by omega)];rfl
 . have:es.length<=j:=by
    have:=of_decide_eq_false e
    omega
   rw [List.drop_eq_nil_of_le this] at hcj
   exact ⟨rfl,ha,hcj⟩
theorem texpr (hg:g cb=none):∀ k e,cntE e<=k->wfE e->TE s g cb e:=by
 intro k
 induction k with
 | zero=>intro e he;have:=cntE_pos e;omega
 | succ k ih=>
   intro e he hw cs hrel h n hx hc
   match e,he,hw,hrel,hc with
   | .mk kd op nm vl tx args pos,he,hw,hrel,hc=>
   obtain ⟨a1,c1,rfl,hA1⟩:=RE_iff.1 hrel
   simp only [cntE] at he hc
   have hih:∀ e∈args,TE s g cb e:=fun e hm=>ih e (by have:=cntEs_mem hm;omega) (wfEs_iff.1 hw.2 e hm)
   refine T66 ?_
   unfold R66
   intro b1 hb1 h1 hh1
   have hn1:=ne_cb hc hb1
   have hx1:=Put.ext hh1 hb1
   refine ⟨_,_,cell_of (Put.at hh1) 0,?_⟩
   refine Tri.mono (one_t (n:=n+cntEs args) (cb_put hc hb1 hh1)) ?_
   rintro _ h2 ⟨rfl,ha2,hc2⟩
   have ha02:Away cb h h2:=hx1.away.trans ha2
   have hb2:=ha2 _ _ hn1 (Put.at hh1)
   have hx2:=ext_away hg hx ha02
   refine ⟨_,rfl,br_neg rfl ?_⟩
   have single:∀ x,args=[x]->∃ (p3 o3:Nat),h2.cell b1 0=some (vP p3 o3)/\∃ (b2 o4:Nat),a1=some ⟨b2,o4,none⟩/\(0<=(0:Int)/\(0:Int) < args.length)/\
    ∃ (i5:Int) (l4 l5:Bs) (i6:Int) (l6:Bs) (a2:OA) (n2 dyk2:Nat) (i7 i8:Int),h2.row b2 o4 [vI i5,vS l4,vS l5,vI i6,vS l6,vL a2 n2 dyk2,vI i7,vI i8]/\
    Tri Tryz.prog 66 [vP p3 o3,vA [vI i5,vS l4,vS l5,vI i6,vS l6,vL a2 n2 dyk2,vI i7,vI i8]] h2 fun v_2 h_3=>∃ (c2:Bool),v_2=vB c2/\(tv [vL a1 args.length c1])/\CP cb n h (vB c2) h_3:=fun x hxs=>by
    subst hxs
    obtain ⟨b,o,cs,rfl,hr,hrel⟩:=hA1.get (n:=0) (by simp)
    have h5:=hih x (by simp) _ hrel h2 n hx2 (by simpa [cntEs] using hc2)
    have hr:=row_ext (fun ob=>hx2 b ob) hr
    simp only [List.getElem_cons_zero] at hrel
    match x,hrel with
    | .mk kd op nm vl tx args pos,hrel=>
    obtain ⟨a3,c3,rfl,hA3⟩:=RE_iff.1 hrel
    refine ⟨_,_,cell_of hb2 0,b,o,rfl,⟨by decide,by simp⟩,_,_,_,_,_,_,_,_,_,_,hr,?_⟩
    refine Tri.mono h5 ?_
    rintro _ h3 ⟨rfl,h6,h7⟩
    exact ⟨_,rfl,rfl,rfl,ha02.trans h6,h7⟩
   rcases hw.1 with ⟨hk,h0⟩ | ⟨hk,h0⟩ | ⟨rfl,h0⟩ | rfl
   . obtain rfl:=List.eq_nil_of_length_eq_zero h0
     have hq:CP cb n h (vB true) h2:=⟨rfl,ha02,hc2⟩
     rcases hk with rfl | rfl | rfl <;> (repeat first | refine br_pos rfl ?_ | refine br_neg rfl ?_) <;> exact hq
   . obtain ⟨x,rfl⟩:=List.length_eq_one_iff.1 h0
     rcases hk with rfl | rfl <;> (repeat first | refine br_pos rfl ?_ | refine br_neg rfl ?_) <;> exact single x rfl
   . obtain ⟨x,y,rfl⟩:∃ x y,args=[x,y]:=match args,h0 with | [x,y],_=>⟨x,y,rfl⟩
     (repeat first | refine br_pos rfl ?_ | refine br_neg rfl ?_)
     obtain ⟨b,o,cs,rfl,hr,hrel⟩:=hA1.get (n:=0) (by simp)
     obtain ⟨b',o',cs',ha',hr',hrel'⟩:=hA1.get (n:=1) (by simp)
     cases ha'
     simp only [List.getElem_cons_zero,List.getElem_cons_succ] at hrel hrel'
     have h5:=hih x (by simp) _ hrel h2 (n+cntE y) hx2 (by simpa [cntEs,Nat.add_assoc,Nat.add_comm,Nat.add_left_comm] using hc2)
     have h5':=fun h4 hx4 hc4=>hih y (by simp) _ hrel' h4 n hx4 hc4
     match x,y,hrel,hrel' with
     | .mk kd op nm vl tx args pos, .mk kd' op' nm' vl' tx' args' pos',hrel,hrel'=>
     obtain ⟨a3,c3,rfl,hA3⟩:=RE_iff.1 hrel
     obtain ⟨a4,c4,rfl,hA4⟩:=RE_iff.1 hrel'
     refine ⟨_,_,cell_of hb2 0,b,o,rfl,⟨by decide,by simp⟩,_,_,_,_,_,_,_,_,_,_,row_ext (fun ob=>hx2 b ob) hr,?_⟩
     refine Tri.mono h5 ?_
     rintro _ h3 ⟨rfl,h6,h7⟩
     have hx3:=ext_away hg hx2 h6
     refine ⟨_,rfl,rfl,br_pos rfl ?_⟩
     refine ⟨_,_,cell_of (h6 _ _ hn1 hb2) 0,b,o,rfl,⟨by decide,by simp⟩,_,_,_,_,_,_,_,_,_,_,row_ext (fun ob=>hx3 b ob) hr',?_⟩
     refine Tri.mono (h5' h3 hx3 h7) ?_
     rintro _ h4 ⟨rfl,h8,h9⟩
     exact ⟨_,rfl,rfl,rfl,rfl,(ha02.trans h6).trans h8,h9⟩
   . (repeat first | refine br_pos rfl ?_ | refine br_neg rfl ?_)
     refine Tri.mono (texprs hg (.inl rfl) hih hA1 hx2 hn1 hb2 hc2) ?_
     rintro _ h3 ⟨rfl,h6,h7⟩
     exact ⟨_,rfl,rfl,ha02.trans h6,h7⟩
theorem tstmts (hg:g cb=none) {es:List S} (ih:∀ e∈es,TS s g cb e) {a:Option Addr} {c:Nat} (hA:At 7 (RS (plP s) 8 7) g a es) {h:PHeap} {n:Nat} (hx:Ext g h) (hc:CB cb (n+cntSs es) h):
 Tri Tryz.prog 100 [vP cb 0,vL a es.length c] h (CP cb n h):=by
 refine T100 ?_
 unfold R100
 intro b1 hb1 h1 hh1
 have hn1:=ne_cb hc hb1
 have hx1:=Put.ext hh1 hb1
 have hx01:=hx.trans hx1
 have hl:=hc.1
 have hlen:=cntSs_len es
 have hc1:=cb_put hc hb1 hh1
 have hb1:=Put.at hh1
 suffices hs:Tri Tryz.prog 175 [vL a es.length c,vF 147 [] [vP b1 0]] h1 fun v h'=>v=vI (-1)/\Away cb h1 h'/\CB cb n h' by
  refine T146 ?_
  unfold R146
  refine Tri.mono hs ?_
  rintro _ h1 ⟨rfl,h2,h3⟩
  exact ⟨_,rfl,_,rfl,rfl,hx1.away.trans h2,h3⟩
 clear hh1 hx1
 refine T175 ?_
 unfold R175
 refine ⟨fun m i h'=>Away cb h1 h'/\∃ j:Nat,i=j/\j+m=es.length/\CB cb (n+cntSs (es.drop j)) h',⟨es.length,Away.refl _ _,0,rfl,by omega,hc1⟩,?_⟩
 rintro m _ h2 ⟨ha,j,rfl,hjm,hcj⟩
 refine br_split (fun e=>?_) (fun e=>?_)
 . have hj:j < es.length:=by
    have:=of_decide_eq_true e
    omega
   obtain ⟨b,o,cs,rfl,hr,hrel⟩:=hA.get hj
   have ihj:=ih _ (List.getElem_mem hj) _ hrel h2 (n+cntSs (es.drop (j+1))) (ext_away hg hx01 ha) (by rw [cntSs_drop hj] at hcj;rwa [show n+cntSs (es.drop (j+1))+cntS es[j]=n+(cntS es[j]+cntSs (es.drop (j+1))) by omega])
   have hr:=row_ext (fun ob=>ext_away hg hx01 ha b ob) hr
   have hb2:=ha _ _ hn1 hb1
   generalize es[j]=x at *
   match x,hrel with
   | .mk kd nm args body els pos,hrel=>
   obtain ⟨a1,c1,a2,c2,a3,c3,rfl,hA1,hA2,hA3⟩:=RS_iff.1 hrel
   refine ⟨b,o,rfl,⟨by omega,by omega⟩,_,_,_,_,_,_,_,_,_,_,_,_,_,hr,?_⟩
   refine T147 ?_
   unfold R147
   refine ⟨_,_,cell_of hb2 0,?_⟩
   refine Tri.mono ihj ?_
   rintro _ h2 ⟨rfl,h3,h4⟩
   refine ⟨_,rfl,_,rfl,br_neg rfl ⟨m - 1,by omega,⟨ha.trans h3,j+1,?_,by omega,h4⟩,trivial⟩⟩
   rw [wrap64 (by omega) (by omega)];rfl
 . have:es.length<=j:=by
    have:=of_decide_eq_false e
    omega
   rw [List.drop_eq_nil_of_le this] at hcj
   exact ⟨rfl,ha,hcj⟩
theorem tstmt (hg:g cb=none):∀ k e,cntS e<=k->wfS e->TS s g cb e:=by
 intro k
 induction k with
 | zero=>intro e he;have:=cntS_pos e;omega
 | succ k ih=>
   intro e he hw cs hrel h n hx hc
   match e,he,hw,hrel,hc with
   | .mk kd nm args body els pos,he,hw,hrel,hc=>
   obtain ⟨a1,c1,a2,c2,a3,c3,rfl,hA1,hA2,hA3⟩:=RS_iff.1 hrel
   simp only [cntS] at he hc
   have hih:∀ e∈args,TE s g cb e:=fun e hm=>texpr hg _ e (Nat.le_refl _) (wfEs_iff.1 hw.2.1 e hm)
   have hih2:∀ e∈body,TS s g cb e:=fun e hm=>ih e (by have:=cntSs_mem hm;omega) (wfSs_iff.1 hw.2.2.1 e hm)
   have hih3:∀ e∈els,TS s g cb e:=fun e hm=>ih e (by have:=cntSs_mem hm;omega) (wfSs_iff.1 hw.2.2.2 e hm)
   refine T148 ?_
   unfold R148
   intro b1 hb1 h1 hh1
   have hn1:=ne_cb hc hb1
   have hx1:=Put.ext hh1 hb1
   refine ⟨_,_,cell_of (Put.at hh1) 0,?_⟩
   refine Tri.mono (one_t (n:=n+cntSs els+cntSs body+cntEs args) (by rw [show n+cntSs els+cntSs body+cntEs args+1=n+(cntEs args+cntSs body+cntSs els+1) by omega];exact cb_put hc hb1 hh1)) ?_
   rintro _ h2 ⟨rfl,ha2,hc2⟩
   have ha02:Away cb h h2:=hx1.away.trans ha2
   have hb2:=ha2 _ _ hn1 (Put.at hh1)
   have hx2:=ext_away hg hx ha02
   refine ⟨_,rfl,br_neg rfl ?_⟩
   have leaf:Tri Tryz.prog 107 [vL a1 args.length c1,vF 176 [] [vP b1 0]] h2 fun v_5 h_6=>∃ (c5:Bool),v_5=vB c5/\br (!c5)
    (∃ (p5 o5:Nat),h_6.cell b1 0=some (vP p5 o5)/\Tri Tryz.prog 100 [vP p5 o5,vL a2 body.length c2] h_6 fun v_6 h_7=>∃ (c6:Bool),v_6=vB c6/\br c6
     (∃ (p6 o6:Nat),h_7.cell b1 0=some (vP p6 o6)/\Tri Tryz.prog 100 [vP p6 o6,vL a3 els.length c3] h_7 fun v_7 h_8=>∃ (c7:Bool),v_7=vB c7/\CP cb n h (vB c7) h_8)
     (CP cb n h (vB false) h_7))
    (CP cb n h (vB false) h_6):=by
    refine Tri.mono (texprs hg (.inr rfl) hih hA1 hx2 hn1 hb2 hc2) ?_
    rintro _ h3 ⟨rfl,h6,h7⟩
    have hb3:=h6 _ _ hn1 hb2
    have hx3:=ext_away hg hx2 h6
    refine ⟨_,rfl,br_pos rfl ⟨_,_,cell_of hb3 0,?_⟩⟩
    refine Tri.mono (tstmts hg hih2 hA2 hx3 h7) ?_
    rintro _ h4 ⟨rfl,h8,h9⟩
    have hb4:=h8 _ _ hn1 hb3
    have hx4:=ext_away hg hx3 h8
    refine ⟨_,rfl,br_pos rfl ⟨_,_,cell_of hb4 0,?_⟩⟩
    refine Tri.mono (tstmts hg hih3 hA3 hx4 h9) ?_
    rintro _ h5 ⟨rfl,h10,h11⟩
    exact ⟨_,rfl,rfl,((ha02.trans h6).trans h8).trans h10,h11⟩
   have hsh:=hw.1
   generalize args.length=na at *
   generalize body.length=nb at *
   generalize els.length=ne at *
   rcases hsh with ⟨hk,h0,rfl,rfl⟩ | ⟨hk,rfl,rfl,rfl⟩ | ⟨rfl,rfl,rfl,rfl⟩ | ⟨hk,rfl,rfl,rfl⟩ | ⟨rfl,rfl,rfl⟩ | ⟨rfl,rfl⟩
   . have:na=0∨na=1:=by omega
     rcases hk with rfl | rfl <;> rcases this with rfl | rfl <;> (repeat first | with_reducible exact leaf | refine br_pos rfl ?_ | refine br_neg rfl ?_)
   . rcases hk with rfl | rfl <;> (repeat first | with_reducible exact leaf | refine br_pos rfl ?_ | refine br_neg rfl ?_)
   . (repeat first | with_reducible exact leaf | refine br_pos rfl ?_ | refine br_neg rfl ?_)
   . rcases hk with rfl | rfl <;> (repeat first | with_reducible exact leaf | refine br_pos rfl ?_ | refine br_neg rfl ?_)
   . (repeat first | with_reducible exact leaf | refine br_pos rfl ?_ | refine br_neg rfl ?_)
     refine br_split (fun _=>?_) (fun _=>?_) <;> (repeat first | with_reducible exact leaf | refine br_pos rfl ?_ | refine br_neg rfl ?_)
   . (repeat first | with_reducible exact leaf | refine br_pos rfl ?_ | refine br_neg rfl ?_)
     refine br_split (fun _=>?_) (fun _=>?_) <;> (repeat first | with_reducible exact leaf | refine br_pos rfl ?_ | refine br_neg rfl ?_) <;> refine br_split (fun _=>?_) (fun _=>?_) <;> (repeat first | with_reducible exact leaf | refine br_pos rfl ?_ | refine br_neg rfl ?_)
end
theorem tree_tri {s:Bytes} {h:PHeap} {p:Pg} (hw:∀ f∈p.funcs,wfSs f.body) (hc:cntP p<=4097) {ga fa:Option Addr} {gn gc fc:Nat} (hF:At 5 (RF (plP s) 8 7) h fa p.funcs):
 Tri Tryz.prog 56 [vA [vL ga gn gc,vL fa p.funcs.length fc]] h fun v h'=>v=vB true/\Ext h h':=by
 refine T56 ?_
 unfold R56
 intro b1 hb1 h1 hh1 b2 hb2 h2 hh2
 have hx1:=Put.ext hh1 hb1
 have hx2:=Put.ext hh2 hb2
 refine ⟨_,_,_,Put.at hh2,⟨by simp,Nat.zero_le _⟩,?_⟩
 intro h3 hh3
 have hne:b2≠b1:=fun e=>by subst e;rw [Put.at hh1] at hb2;cases hb2
 have hb3:h3 b2=some (.cells ⟨[vP b1 0]⟩ 127):=Put.at hh3
 have hx3:Ext h h3:=fun k o hk=>by
  rw [Put.chg hh3 k (fun e=>by subst e;rw [hx1 _ _ hk] at hb2;cases hb2)]
  exact hx2 _ _ (hx1 _ _ hk)
 simp only [cntP] at hc
 have hlen:=cntFs_len p.funcs
 have hcb:CB b1 4096 h3:=⟨Nat.le_refl _,by rw [Put.chg hh3 _ hne.symm];exact hx2 _ _ (Put.at hh1)⟩
 clear hh1 hh2 hh3 hb2 hx1 hx2
 generalize p.funcs=fs at *
 have hfc:cntFs fs<=4096+fs.length:=by
  cases fs with
  | nil=>simp [cntFs]
  | cons f fs=>simp;omega
 refine T98 ?_
 unfold R98
 suffices hs:Tri Tryz.prog 145 [vL fa fs.length fc,vF 99 [] [vP b2 0]] h3 fun v h'=>v=vI (-1)/\Ext h h' by
  refine Tri.mono hs ?_
  rintro _ h1 ⟨rfl,h2⟩
  exact ⟨_,rfl,_,rfl,rfl,h2⟩
 refine T145 ?_
 unfold R145
 refine ⟨fun m i h'=>Away b1 h3 h'/\∃ j n:Nat,i=j/\j+m=fs.length/\CB b1 n h'/\cntFs (fs.drop j)<=n+(fs.drop j).length,⟨fs.length,Away.refl _ _,0,4096,rfl,by omega,hcb,hfc⟩,?_⟩
 rintro m _ h4 ⟨ha,j,n,rfl,hjm,hcj,hn⟩
 have hx4:=ext_away hb1 hx3 ha
 refine br_split (fun e=>?_) (fun e=>⟨rfl,hx4⟩)
 have hj:j < fs.length:=by
  have:=of_decide_eq_true e
  omega
 obtain ⟨b,o,cs,rfl,hr,hrel⟩:=hF.get hj
 have hwj:=hw _ (List.getElem_mem hj)
 rw [List.drop_eq_getElem_cons hj] at hn
 simp only [cntFs,List.length_cons] at hn
 generalize fs[j]=x at *
 obtain ⟨a1,c1,a2,c2,rfl,hP1,hB1,_⟩:=hrel
 simp only [cntF] at hn
 have hb4:=ha _ _ hne hb3
 refine ⟨b,o,rfl,⟨by omega,by omega⟩,_,_,_,_,_,_,_,_,_,row_ext (fun ob=>hx4 b ob) hr,?_⟩
 refine T99 ?_
 unfold R99
 refine ⟨_,_,cell_of hb4 0,?_⟩
 have:=cntFs_len (fs.drop (j+1))
 refine Tri.mono (tstmts hb1 (fun e he=>tstmt hb1 _ e (Nat.le_refl _) (wfSs_iff.1 hwj e he)) hB1 (n:=n - cntSs x.body) hx4 (by rw [show n - cntSs x.body+cntSs x.body=n by omega];exact hcj)) ?_
 rintro _ h5 ⟨rfl,h6,h7⟩
 refine ⟨_,rfl,_,rfl,br_neg rfl ⟨m - 1,by omega,⟨ha.trans h6,j+1,_,?_,by omega,h7,by omega⟩,trivial⟩⟩
 rw [wrap64 (by omega) (by omega)];rfl
end Go.Proofs.D
namespace Go.Sx
theorem parseS_cl {PT:Tok->Prop} {PX:Nat->Prop} {PE:E->Prop} {PS:S->Prop} {PG:G->Prop} {PF:F->Prop} (C:ClP PT PX PE PS PG PF) {s:Bytes} (hT:∀ ts,scanS s= .ok ts->∀ t∈ts,PT t) {p:Pg} (h:parseS s= .ok p):(∀ g∈p.globals,PG g)/\∀ f∈p.funcs,PF f:=by
 unfold parseS at h
 cases hsc:scanS s with
 | error e=>rw [hsc] at h;cases h
 | ok ts=>
   have hp:=pProg_rp C (20 * ts.length+40) ⟨[],[]⟩ ts 0 (fun g hg=>by cases hg) (fun g hg=>by cases hg) (hT _ hsc)
   rw [hsc] at h
   simp only at h
   cases hpp:pProg (20 * ts.length+40) ⟨[],[]⟩ ts 0 with
   | error e=>rw [hpp] at h;cases h
   | ok q=>
     obtain ⟨p',ts',d'⟩:=q
     rw [hpp] at h
     cases h
     exact (hp.1 _ _ _ hpp).1
theorem wfCl:ClP (fun _=>True) (fun _=>True) wfE wfS (fun _=>True) (fun f=>wfSs f.body) where
 toClS:=wfClS
 g0 _ _ _:=trivial
 g1 _ _ _ _ _ _:=trivial
 g2 _ _ _ _ _ _:=trivial
 f1 _ _ b _ _ _ h:=wfSs_iff.2 h
theorem parseS_wf {s:Bytes} {p:Pg} (h:parseS s= .ok p):∀ f∈p.funcs,wfSs f.body:=(parseS_cl wfCl (fun _ _ _ _=>trivial) h).2
end Go.Sx
namespace Go.Sx
def xk:E->Nat | .mk k _ _ _ _ _ _=>k
def xo:E->Bytes | .mk _ op _ _ _ _ _=>op
def dE:E:= .mk 0 [] [] 0 [] [] 0
def low (e:E) (lv:Nat):Bool:=xk e == 7 && decide (levelS (xo e) < lv)
def encB (b:Bool) (t:Bytes):Bytes:=if b then 40::(t++[41]) else t
def moreB:List Bytes->Bytes
 | []=>[]
 | x::l=>44::32::(x++moreB l)
def commaB:List Bytes->Bytes
 | []=>[]
 | x::l=>x++moreB l
mutual
def prE:E->Bytes
 | .mk k op nm v tx args _=>
   if k=1 then digs v else if k=2 then quoteS tx
   else if k=4 then nm++91::((prEs args).getD 0 []++[93])
   else if k=5 then nm++40::(commaB (prEs args)++[41])
   else if k=6 then op++encB (low (args.getD 0 dE) 11) ((prEs args).getD 0 [])
   else if k=7 then encB (low (args.getD 0 dE) (levelS op)) ((prEs args).getD 0 [])++32::(op++32::encB (low (args.getD 1 dE) (levelS op+1)) ((prEs args).getD 1 []))
   else nm
def prEs:List E->List Bytes
 | []=>[]
 | e::l=>prE e::prEs l
end
def prL (lv:Nat) (e:E):Bytes:=encB (low e lv) (prE e)
def sym (t:Bytes):Tok:=⟨5,t,0,[],0⟩
def kwd (t:Bytes):Tok:=⟨4,t,0,[],0⟩
def idt (t:Bytes):Tok:=⟨1,t,0,[],0⟩
def numT (v:Nat):Tok:=⟨2,digs v,v,[],0⟩
def strT (b:Bytes):Tok:=⟨3,quoteS b,0,b,0⟩
def encT (b:Bool) (t:List Tok):List Tok:=if b then sym [40]::(t++[sym [41]]) else t
def moreT:List (List Tok)->List Tok
 | []=>[]
 | x::l=>sym [44]::(x++moreT l)
def commaT:List (List Tok)->List Tok
 | []=>[]
 | x::l=>x++moreT l
mutual
def tkE:E->List Tok
 | .mk k op nm v tx args _=>
   if k=1 then [numT v] else if k=2 then [strT tx]
   else if k=4 then idt nm::sym [91]::((tkEs args).getD 0 []++[sym [93]])
   else if k=5 then idt nm::sym [40]::(commaT (tkEs args)++[sym [41]])
   else if k=6 then sym op::encT (low (args.getD 0 dE) 11) ((tkEs args).getD 0 [])
   else if k=7 then encT (low (args.getD 0 dE) (levelS op)) ((tkEs args).getD 0 [])++sym op::encT (low (args.getD 1 dE) (levelS op+1)) ((tkEs args).getD 1 [])
   else [idt nm]
def tkEs:List E->List (List Tok)
 | []=>[]
 | e::l=>tkE e::tkEs l
end
def tkL (lv:Nat) (e:E):List Tok:=encT (low e lv) (tkE e)
def nameOk (n:Bytes):Prop:=n.length<=32/\(∃ c l,n=c::l/\isLetter c=true)/\n.all isAl=true/\words.contains n=false
inductive OkE:E->Prop where
 | num {v p:Nat}:v < 4294967296->OkE (.mk 1 [] [] v [] [] p)
 | str {b:Bytes} {p:Nat}:b.length<=200->OkE (.mk 2 [] [] 0 b [] p)
 | var {n:Bytes} {p:Nat}:nameOk n->OkE (.mk 3 [] n 0 [] [] p)
 | elem {n:Bytes} {e:E} {p:Nat}:nameOk n->OkE e->OkE (.mk 4 [] n 0 [] [e] p)
 | call {n:Bytes} {es:List E} {p:Nat}:nameOk n->(∀ e∈es,OkE e)->OkE (.mk 5 [] n 0 [] es p)
 | un {op:Bytes} {e:E} {p:Nat}:op=[45]∨op=[33]∨op=[126]->OkE e->OkE (.mk 6 op [] 0 [] [e] p)
 | bin {op:Bytes} {a b:E} {p:Nat}:1<=levelS op->OkE a->OkE b->OkE (.mk 7 op [] 0 [] [a,b] p)
theorem pr_num (v p:Nat):prE (.mk 1 [] [] v [] [] p)=digs v:=by simp [prE]
theorem pr_str (b:Bytes) (p:Nat):prE (.mk 2 [] [] 0 b [] p)=quoteS b:=by simp [prE]
theorem pr_var (n:Bytes) (p:Nat):prE (.mk 3 [] n 0 [] [] p)=n:=by simp [prE]
theorem pr_elem (n:Bytes) (e:E) (p:Nat):prE (.mk 4 [] n 0 [] [e] p)=n++91::(prE e++[93]):=by simp [prE,prEs]
theorem pr_call (n:Bytes) (es:List E) (p:Nat):prE (.mk 5 [] n 0 [] es p)=n++40::(commaB (prEs es)++[41]):=by simp [prE]
theorem pr_un (op:Bytes) (e:E) (p:Nat):prE (.mk 6 op [] 0 [] [e] p)=op++prL 11 e:=by simp [prE,prEs,prL]
theorem pr_bin (op:Bytes) (a b:E) (p:Nat):prE (.mk 7 op [] 0 [] [a,b] p)=prL (levelS op) a++32::(op++32::prL (levelS op+1) b):=by simp [prE,prEs,prL]
theorem tk_num (v p:Nat):tkE (.mk 1 [] [] v [] [] p)=[numT v]:=by simp [tkE]
theorem tk_str (b:Bytes) (p:Nat):tkE (.mk 2 [] [] 0 b [] p)=[strT b]:=by simp [tkE]
theorem tk_var (n:Bytes) (p:Nat):tkE (.mk 3 [] n 0 [] [] p)=[idt n]:=by simp [tkE]
theorem tk_elem (n:Bytes) (e:E) (p:Nat):tkE (.mk 4 [] n 0 [] [e] p)=idt n::sym [91]::(tkE e++[sym [93]]):=by simp [tkE,tkEs]
theorem tk_call (n:Bytes) (es:List E) (p:Nat):tkE (.mk 5 [] n 0 [] es p)=idt n::sym [40]::(commaT (tkEs es)++[sym [41]]):=by simp [tkE]
theorem tk_un (op:Bytes) (e:E) (p:Nat):tkE (.mk 6 op [] 0 [] [e] p)=sym op::tkL 11 e:=by simp [tkE,tkEs,tkL]
theorem tk_bin (op:Bytes) (a b:E) (p:Nat):tkE (.mk 7 op [] 0 [] [a,b] p)=tkL (levelS op) a++sym op::tkL (levelS op+1) b:=by simp [tkE,tkEs,tkL]
theorem binops {op:Bytes} (h:1<=levelS op):op=[124,124]∨op=[38,38]∨op=[124]∨op=[94]∨op=[38]∨op=[61,61]∨op=[33,61]∨op=[60]∨op=[60,61]∨op=[62]∨op=[62,61]∨op=[60,60]∨op=[62,62]∨op=[43]∨op=[45]∨op=[42]∨op=[47]∨op=[37]:=by
 unfold levelS at h
 repeat' split at h
 all_goals first
  | omega
  | (rename_i h0;simp only [Bool.or_eq_true,beq_iff_eq] at h0;simp [h0];done)
  | (rename_i h0;simp only [Bool.or_eq_true,beq_iff_eq] at h0;rcases h0 with h0 | h0 <;> simp [h0];done)
  | (rename_i h0;simp only [Bool.or_eq_true,beq_iff_eq] at h0;rcases h0 with (h0 | h0) | h0 <;> simp [h0];done)
  | (rename_i h0;simp only [Bool.or_eq_true,beq_iff_eq] at h0;rcases h0 with ((h0 | h0) | h0) | h0 <;> simp [h0];done)
theorem level_le (op:Bytes):levelS op<=10:=by
 unfold levelS
 repeat' split
 all_goals omega
def stop (x:Bytes):Prop:=∀ c m,x=c::m->isAl c=false
theorem skip0 {c:UInt8} (h:¬isW c) (h47:c≠47) (y:Bytes):skipN false (c::y)=0:=by
 have hb:(c == 10 || c == 32 || c == 9)=false:=by
  rw [Bool.eq_false_iff]
  intro e
  simp only [Bool.or_eq_true,beq_iff_eq] at e
  rcases e with (e | e) | e
  . exact h (.inr (.inl e))
  . exact h (.inl e)
  . exact h (.inr (.inr e))
 cases y with
 | nil=>simp [skipN,hb]
 | cons d y=>simp [skipN,hb,h47]
theorem letter_w {c:UInt8} (h:isLetter c=true):¬isW c/\c≠47:=⟨fun hw=>by (rcases hw with rfl | rfl | rfl <;> cases h),fun hw=>by (subst hw;cases h)⟩
theorem digit_w {c:UInt8} (h:isDigit c=true):¬isW c/\c≠47:=⟨fun hw=>by (rcases hw with rfl | rfl | rfl <;> cases h),fun hw=>by (subst hw;cases h)⟩
theorem take_all (n x:Bytes):(n++x).take n.length=n:=by rw [List.take_append_of_le_length (Nat.le_refl _),List.take_length]
theorem Lx.word {n x:Bytes} {a:List Tok} (hl:n.length<=32) (hc:∃ c l,n=c::l/\isLetter c=true) (ha:n.all isAl=true) (hs:stop x) (h:Lx x a):Lx (n++x) (⟨if words.contains n then 4 else 1,n,0,[],0⟩::a):=by
 obtain ⟨c,l,hn,hc⟩:=hc
 have e1:=lead_all hs n ha
 have e2:=take_all n x
 refine Lx.tok ?_ ?_ h
 . generalize hy:n++x=y at *
   obtain ⟨y',rfl⟩:∃ y',y=c::y':=⟨_,by rw [←hy,hn,List.cons_append]⟩
   simp only [oneS,if_pos hc,e1,e2]
   rw [if_neg (by omega)]
   split <;> rfl
 . rw [hn,List.cons_append];exact skip0 (letter_w hc).1 (letter_w hc).2 _
theorem Lx.name {n x:Bytes} {a:List Tok} (hn:nameOk n) (hs:stop x) (h:Lx x a):Lx (n++x) (idt n::a):=by
 have:=Lx.word hn.1 hn.2.1 hn.2.2.1 hs h
 rw [hn.2.2.2] at this
 exact this
theorem Lx.num {v:Nat} {x:Bytes} {a:List Tok} (hv:v < 4294967296) (hs:stop x) (h:Lx x a):Lx (digs v++x) (numT v::a):=by
 obtain ⟨c,l,hn,hc⟩:=digs_head v
 have hall:(digs v).all isAl=true:=by
  have:=(digs_spec v).2.1
  rw [List.all_eq_true] at this ⊢
  exact fun c hc=>isAl_digit (this c hc)
 have e1:=lead_all hs _ hall
 have e2:=take_all (digs v) x
 have e3:=numS_digs hv
 refine Lx.tok ?_ ?_ h
 . generalize hy:digs v++x=y at *
   obtain ⟨y',rfl⟩:∃ y',y=c::y':=⟨_,by rw [←hy,hn,List.cons_append]⟩
   simp only [oneS,not_letter hc,if_pos hc,e1,e2,e3]
   rfl
 . rw [hn,List.cons_append];exact skip0 (digit_w hc).1 (digit_w hc).2 _
theorem Lx.str {b x:Bytes} {a:List Tok} (hb:b.length<=200) (h:Lx x a):Lx (quoteS b++x) (strT b::a):=by
 refine Lx.tok ?_ ?_ h
 . have e:quoteS b++x=34::(qcs b++34::x):=by simp [quoteS]
   have e2:=strS_qcs x b ((qcs b++34::x).length+1) (by rw [List.length_append];omega)
   have e3:(quoteS b).length=(qcs b).length+2:=by simp [quoteS]
   rw [e,e3]
   simp only [oneS]
   rw [e2]
   simp only [if_neg (show ¬ 200 < b.length by omega)]
   rfl
 . exact skip0 (fun hw=>by (rcases hw with hw | hw | hw <;> cases hw)) (by decide) _
theorem mark_not {c d:UInt8} (h:c=40∨c=41∨c=44∨c=59∨c=91∨c=93∨c=123∨c=125∨c=45∨c=126∨c=33/\d≠61):marks.contains [c,d]=false:=by
 rcases h with rfl | rfl | rfl | rfl | rfl | rfl | rfl | rfl | rfl | rfl | ⟨rfl,h⟩ <;> simp [marks]
 exact h
theorem Lx.solo {c:UInt8} {x:Bytes} {a:List Tok} (hc:c=40∨c=41∨c=44∨c=59∨c=91∨c=93∨c=123∨c=125∨c=45∨c=126∨c=33/\∀ d m,x=d::m->d≠61) (h:Lx x a):Lx (c::x) (sym [c]::a):=by
 have h1:oneS (c::x)= .ok (5,1,0,[]):=by
  cases x with
  | nil=>rcases hc with rfl | rfl | rfl | rfl | rfl | rfl | rfl | rfl | rfl | rfl | ⟨rfl,_⟩ <;> rfl
  | cons d m=>
    have hm:marks.contains [c,d]=false:=mark_not (by
     rcases hc with h | h | h | h | h | h | h | h | h | h | ⟨h,h'⟩ <;> simp [h]
     exact h' d m rfl)
    have e:(c::d::m).take 2=[c,d]:=rfl
    have e1:(c::d::m).take 1=[c]:=rfl
    simp only [oneS,e,e1,hm]
    rcases hc with rfl | rfl | rfl | rfl | rfl | rfl | rfl | rfl | rfl | rfl | ⟨rfl,_⟩ <;> rfl
 have h2:skipN false (c::x)=0:=by
  refine skip0 (fun hw=>?_) (fun e=>?_) x
  . rcases hw with rfl | rfl | rfl <;> simp at hc
  . subst e;simp at hc
 exact Lx.tok (w:=[c]) h1 h2 h
theorem Lx.op {op x:Bytes} {a:List Tok} (ho:1<=levelS op) (h:Lx x a):Lx (op++32::x) (sym op::a):=by
 refine Lx.tok ?_ ?_ (Lx.blank (.inl rfl) h)
 . rcases binops ho with rfl | rfl | rfl | rfl | rfl | rfl | rfl | rfl | rfl | rfl | rfl | rfl | rfl | rfl | rfl | rfl | rfl | rfl <;> rfl
 . rcases binops ho with rfl | rfl | rfl | rfl | rfl | rfl | rfl | rfl | rfl | rfl | rfl | rfl | rfl | rfl | rfl | rfl | rfl | rfl <;> rfl
def okF (x:Bytes):Prop:=∃ c m,x=c::m/\(c=93∨c=44∨c=41∨c=59∨c=32)
theorem okF.stop {x:Bytes} (h:okF x):stop x:=by
 obtain ⟨c,m,rfl,h⟩:=h
 intro d m' e
 injection e with e _
 subst e
 rcases h with rfl | rfl | rfl | rfl | rfl <;> rfl
theorem stop_c {c:UInt8} {x:Bytes} (h:isAl c=false):stop (c::x):=fun d m e=>by injection e with e _;rw [←e];exact h
theorem first61 {e:E} (h:OkE e):∀ x,∃ c m,prE e++x=c::m/\c≠61:=by
 have key:∀ lv e,(∀ x,∃ c m,prE e++x=c::m/\c≠61)->∀ x,∃ c m,prL lv e++x=c::m/\c≠61:=by
  intro lv e ih x
  unfold prL encB
  split
  . exact ⟨40,_,rfl,by decide⟩
  . exact ih x
 induction h with
 | num hv=>intro x;obtain ⟨c,l,h1,h2⟩:=digs_head _;exact ⟨c,_,by rw [pr_num,h1];rfl,fun e=>by subst e;cases h2⟩
 | str=>intro x;rw [pr_str];exact ⟨34,_,rfl,by decide⟩
 | var hn=>intro x;obtain ⟨c,l,h1,h2⟩:=hn.2.1;exact ⟨c,_,by rw [pr_var,h1];rfl,fun e=>by subst e;cases h2⟩
 | elem hn=>intro x;obtain ⟨c,l,h1,h2⟩:=hn.2.1;exact ⟨c,_,by rw [pr_elem,h1];rfl,fun e=>by subst e;cases h2⟩
 | call hn=>intro x;obtain ⟨c,l,h1,h2⟩:=hn.2.1;exact ⟨c,_,by rw [pr_call,h1];rfl,fun e=>by subst e;cases h2⟩
 | un ho=>intro x;rw [pr_un];rcases ho with rfl | rfl | rfl <;> exact ⟨_,_,rfl,by decide⟩
 | bin _ _ _ iha _=>intro x;rw [pr_bin,List.append_assoc];exact key _ _ iha _
theorem first61L {e:E} (h:OkE e) (lv:Nat) (x:Bytes):∃ c m,prL lv e++x=c::m/\c≠61:=by
 unfold prL encB
 split
 . exact ⟨40,_,rfl,by decide⟩
 . exact first61 h x
theorem lx_expr {e:E} (h:OkE e):∀ x a,okF x->Lx x a->Lx (prE e++x) (tkE e++a):=by
 have key:∀ lv e,(∀ x a,okF x->Lx x a->Lx (prE e++x) (tkE e++a))->∀ x a,okF x->Lx x a->Lx (prL lv e++x) (tkL lv e++a):=by
  intro lv e ih x a hx ha
  unfold prL tkL encB encT
  split
  . have:=ih (41::x) (sym [41]::a) ⟨_,_,rfl,by simp⟩ (Lx.solo (by simp) ha)
    simpa using Lx.solo (c:=40) (by simp) this
  . exact ih x a hx ha
 induction h with
 | num hv=>intro x a hx ha;rw [pr_num,tk_num];exact Lx.num hv hx.stop ha
 | str hb=>intro x a hx ha;rw [pr_str,tk_str];exact Lx.str hb ha
 | var hn=>intro x a hx ha;rw [pr_var,tk_var];exact Lx.name hn hx.stop ha
 | elem hn _ ih=>
   intro x a hx ha
   rw [pr_elem,tk_elem]
   have:=ih (93::x) (sym [93]::a) ⟨_,_,rfl,by simp⟩ (Lx.solo (by simp) ha)
   have:=Lx.name hn (stop_c rfl) (Lx.solo (c:=91) (by simp) this)
   simpa using this
 | @call n es p hn hes ih=>
   intro x a hx ha
   rw [pr_call,tk_call]
   have h1:Lx (41::x) (sym [41]::a):=Lx.solo (by simp) ha
   have h2:∀ l:List E,(∀ e∈l,e∈es)->Lx (moreB (prEs l)++41::x) (moreT (tkEs l)++sym [41]::a)/\okF (moreB (prEs l)++41::x):=by
    intro l
    induction l with
    | nil=>intro _;exact ⟨h1,_,_,rfl,by simp⟩
    | cons e l ihl=>
      intro hm
      obtain ⟨i1,i2⟩:=ihl (fun e he=>hm e (List.mem_cons_of_mem _ he))
      have:=ih e (hm e (List.mem_cons_self ..)) _ _ i2 i1
      have:=Lx.solo (c:=44) (by simp) (Lx.blank (c:=32) (.inl rfl) this)
      refine ⟨by simpa [prEs,moreB,tkEs,moreT] using this,44,32::(prE e++(moreB (prEs l)++41::x)),by simp [prEs,moreB],by simp⟩
   have h3:Lx (commaB (prEs es)++41::x) (commaT (tkEs es)++sym [41]::a):=by
    cases es with
    | nil=>exact h1
    | cons e l=>
      obtain ⟨i1,i2⟩:=h2 l (fun e he=>List.mem_cons_of_mem _ he)
      have:=ih e (List.mem_cons_self ..) _ _ i2 i1
      simpa [prEs,commaB,tkEs,commaT] using this
   have:=Lx.name hn (stop_c rfl) (Lx.solo (c:=40) (by simp) h3)
   simpa using this
 | @un op e p ho he ih=>
   intro x a hx ha
   rw [pr_un,tk_un]
   have h1:=key 11 _ ih x a hx ha
   obtain ⟨c,m,h2,h3⟩:=first61L he 11 x
   rcases ho with rfl | rfl | rfl
   . simpa using Lx.solo (c:=45) (by simp) h1
   . refine Lx.solo (c:=33) (x:=prL 11 e++x) ?_ h1
     rw [h2]
     simp only [List.cons.injEq]
     exact .inr (.inr (.inr (.inr (.inr (.inr (.inr (.inr (.inr (.inr ⟨trivial,fun d m e=>e.1 ▸ h3⟩)))))))))
   . simpa using Lx.solo (c:=126) (by simp) h1
 | @bin op l r p ho _ _ ihl ihr=>
   intro x a hx ha
   rw [pr_bin,tk_bin]
   have h1:=key (levelS op+1) _ ihr x a hx ha
   have h2:=Lx.blank (c:=32) (.inl rfl) (Lx.op ho h1)
   have h3:=key (levelS op) _ ihl _ _ ⟨32,_,rfl,by simp⟩ h2
   simpa using h3
end Go.Sx
