import Derived.Test.YtniojllnooblcaaGreatDoorM7
set_option linter.all false
set_option linter.unusedVariables false
set_option linter.unusedSimpArgs false
set_option linter.unusedSectionVars false
section
set_option maxRecDepth 100000
namespace Go.Proofs.Ytniojllnooblcaa
open Go Lv Go.Proofs Go.RowKit Go.Shelf
/-! levee/leveeref01.Sub -/
def R01_Sub.si:Sh:=⟨[(0,.v true [.int .i64,.int .i64,.str]),(1,.v true [.int .i64,.int .i64,.str])],[],[],0,[]⟩
def R01_Sub.so:Sh:=⟨[(0,.tup [(true,[.int .i64,.int .i64,.str]),(false,[.bool])])],[],[],1000,[]⟩
def R01_Sub.h:H:=(.s none .n (.s none .n (.s none (.s (some ⟨[(41,.v false [.bool])],[],[2,3,4],0,[]⟩) .n .n) .n)))
noncomputable def R01_Sub.B:Int×Int×ByteArray×Int×Int×ByteArray×Unit→Option (Int×Int×ByteArray×Bool×Unit):=fun (p0_0,p0_1,p0_2,p1_0,p1_1,p1_2,_)=>
  Option.bind (R01_Nulls.F (p0_0,p0_1,p0_2,p1_0,p1_1,p1_2,())) fun y1=>
  (bif y1.1 then
  some ((0:Int),(0:Int),(⟨#[]⟩:ByteArray),true,())
  else
  Option.bind (
  Option.bind (R01_Ints.F (p0_0,p0_1,p0_2,p1_0,p1_1,p1_2,())) fun y2=>
  (bif (!y2.1) then
  some (.inl (true,()))
  else
  (bif (decide (p1_1<(0:Int))) then
  Option.bind (R01_Most.F (())) fun y3=>
  let e4:Int:=(IntKind.i64.wrap (y3.1+p1_1))
  (bif (decide (p0_1>e4)) then
  some (.inl (true,()))
  else
  (bif (decide (p1_1>(0:Int))) then
  Option.bind (R01_Least.F (())) fun y5=>
  let e6:Int:=(IntKind.i64.wrap (y5.1+p1_1))
  some (.inl ((decide (p0_1<e6)),()))
  else
  some (.inl (false,()))))
  else
  (bif (decide (p1_1>(0:Int))) then
  Option.bind (R01_Least.F (())) fun y7=>
  let e8:Int:=(IntKind.i64.wrap (y7.1+p1_1))
  some (.inl ((decide (p0_1<e8)),()))
  else
  some (.inl (false,()))))):Option ((Bool×Unit)⊕_)) fun r9=>match r9 with
  | .inl (x41_9,_)=>
  ((bif x41_9 then
  some ((0:Int),(0:Int),(⟨#[]⟩:ByteArray),false,())
  else
  let e10:Int:=(IntKind.i64.wrap (p0_1-p1_1))
  Option.bind (R01_Int.F (e10,())) fun y11=>
  some (y11.1,y11.2.1,y11.2.2.1,true,())))
  | .inr r=>some r)
noncomputable def R01_Sub.F:Int×Int×ByteArray×Int×Int×ByteArray×Unit→Option (Int×Int×ByteArray×Bool×Unit):=stk R01_Sub.B
theorem R01_Sub.eq:R01_Sub.F=R01_Sub.B:=stk_eq _
theorem R01_Sub.ev (x:TS R01_Sub.si):evF cR01_Add inl0 (Tryz.f176.body.getD .skip) Tryz.f176.results.toList R01_Sub.h R01_Sub.si R01_Sub.so x=R01_Sub.B x:=by kernel_rfl
theorem R01_Sub.fn:FnOk PP 176 (Tryz.f176.body.getD .skip) Tryz.f176.results.toList Tryz.f176.ntmps:=fnOk_mk (by kernel_rfl) (by kernel_rfl) (by kernel_rfl) (by kernel_rfl)
theorem R01_Sub.ok:SpecOk PP 176 ⟨2,R01_Sub.si,R01_Sub.so,R01_Sub.F⟩:=fn_stk cxR01_Add (inl0_ok _ _) mixed R01_Sub.fn R01_Sub.h (by kernel_rfl) R01_Sub.ev
noncomputable def spR01_Sub:List (Nat×List (Nat×AK)×Lv.Spec):=(176,[],⟨2,R01_Sub.si,R01_Sub.so,R01_Sub.F⟩)::spR01_Add
noncomputable abbrev cR01_Sub:Cx:=⟨tabAt tab0,eqAt eqs0,specAt spR01_Sub,0,specPAt sq0⟩
theorem cxR01_Sub:CxOk PP cR01_Sub:=cxR01_Add.consS [] R01_Sub.fn.enters R01_Sub.ok
/-! levee/leveeref06.Number -/
def R06_Number.si:Sh:=⟨[(0,.v false [.str])],[],[],0,[]⟩
def R06_Number.so:Sh:=⟨[(0,.tup [(false,[.int .i64]),(false,[.bool])])],[],[],1000,[]⟩
def R06_Number.h:H:=(.s none .n (.s none .n (.s none .n (.s none .n (.s (some ⟨[(5,.v false [.ptr 0 0]),(6,.v false [.bool])],[(0,true,.box 27 [.int .i64,.int .i64,.str])],[0],1,[]⟩) (.s none .n (.b (.l ⟨[(5,.v false [.ptr 0 0]),(6,.v false [.bool]),(7,.v false [.int .i64])],[(0,true,.box 27 [.int .i64,.int .i64,.str])],[0,4],1,[]⟩ (.s none .n (.s (some ⟨[(5,.v false [.ptr 0 0]),(6,.v false [.bool])],[(0,true,.box 27 [.int .i64,.int .i64,.str])],[0,4,7],1,[]⟩) .n .n))))) .n)))))
noncomputable def R06_Number.B:ByteArray×Unit→Option (Int×Bool×Unit):=fun (p0,_)=>
  bif (decide (0≤(0:Int))&&decide ((0:Int)<(p0.size:Int))) then
  let e1:Int:=(byteAt p0 0)
  Option.bind (
  loopM (S:=Bool×Int×Int×Int×ByteArray×Unit) (fun (x6,x7,o5_0_0,o5_0_1,o5_0_2,_)=>
  (bif (decide (x7<(p0.size:Int))) then
  Option.bind (
  bif (decide (0≤x7)&&decide (x7<(p0.size:Int))) then
  let e2:Int:=(byteAt p0 (Int.toNat x7))
  (bif (e2==(45:Int)) then
  some (.inl (x6,o5_0_0,o5_0_1,o5_0_2,()))
  else
  bif (decide (0≤x7)&&decide (x7<(p0.size:Int))) then
  let e3:Int:=(byteAt p0 (Int.toNat x7))
  let e4:Int:=(IntKind.u8.wrap (e3-(48:Int)))
  Option.bind (R01_Int.F ((IntKind.i64.wrap (e4)),())) fun y5=>
  Option.bind (R01_Int.F ((10:Int),())) fun y6=>
  Option.bind (R01_Mul.F (o5_0_0,o5_0_1,o5_0_2,y6.1,y6.2.1,y6.2.2.1,())) fun y7=>
  Option.bind (R01_Add.F (y7.1,y7.2.1,y7.2.2.1,y5.1,y5.2.1,y5.2.2.1,())) fun y8=>
  (bif (e1==(45:Int)) then
  Option.bind (R01_Sub.F (y7.1,y7.2.1,y7.2.2.1,y5.1,y5.2.1,y5.2.2.1,())) fun y9=>
  (bif x6 then
  (bif y7.2.2.2.1 then
  some (.inl (y9.2.2.2.1,y9.1,y9.2.1,y9.2.2.1,()))
  else
  some (.inl (false,y9.1,y9.2.1,y9.2.2.1,())))
  else
  some (.inl (false,y9.1,y9.2.1,y9.2.2.1,())))
  else
  (bif x6 then
  (bif y7.2.2.2.1 then
  some (.inl (y8.2.2.2.1,y8.1,y8.2.1,y8.2.2.1,()))
  else
  some (.inl (false,y8.1,y8.2.1,y8.2.2.1,())))
  else
  some (.inl (false,y8.1,y8.2.1,y8.2.2.1,()))))
  else none)
  else none:Option ((Bool×Int×Int×ByteArray×Unit)⊕_)) fun r10=>match r10 with
  | .inl (x6_10,o5_0_0_10,o5_0_1_10,o5_0_2_10,_)=>
  (let e11:Int:=(IntKind.i64.wrap (x7+(1:Int)))
  some (.inl (x6_10,e11,o5_0_0_10,o5_0_1_10,o5_0_2_10,())))
  | .inr r=>some r
  else
  some (.inr (.inl (x6,o5_0_0,o5_0_1,o5_0_2,()))))) (true,(0:Int),(2:Int),(0:Int),(⟨#[]⟩:ByteArray),()):Option ((Bool×Int×Int×ByteArray×Unit)⊕_)) fun r12=>match r12 with
  | .inl (x6_12,o5_0_0_12,o5_0_1_12,o5_0_2_12,_)=>
  ((bif x6_12 then
  Option.bind (R01_Signed.F (o5_0_1_12,())) fun y13=>
  some (o5_0_1_12,(y13.1.toList==p0.toList),())
  else
  some (o5_0_1_12,false,())))
  | .inr r=>some r
  else none
noncomputable def R06_Number.F:ByteArray×Unit→Option (Int×Bool×Unit):=stk R06_Number.B
theorem R06_Number.eq:R06_Number.F=R06_Number.B:=stk_eq _
theorem R06_Number.ev (x:TS R06_Number.si):evF cR01_Sub inl0 (Tryz.f150.body.getD .skip) Tryz.f150.results.toList R06_Number.h R06_Number.si R06_Number.so x=R06_Number.B x:=by kernel_rfl
theorem R06_Number.fn:FnOk PP 150 (Tryz.f150.body.getD .skip) Tryz.f150.results.toList Tryz.f150.ntmps:=fnOk_mk (by kernel_rfl) (by kernel_rfl) (by kernel_rfl) (by kernel_rfl)
theorem R06_Number.ok:SpecOk PP 150 ⟨1,R06_Number.si,R06_Number.so,R06_Number.F⟩:=fn_stk cxR01_Sub (inl0_ok _ _) mixed R06_Number.fn R06_Number.h (by kernel_rfl) R06_Number.ev
noncomputable def spR06_Number:List (Nat×List (Nat×AK)×Lv.Spec):=(150,[],⟨1,R06_Number.si,R06_Number.so,R06_Number.F⟩)::spR01_Sub
noncomputable abbrev cR06_Number:Cx:=⟨tabAt tab0,eqAt eqs0,specAt spR06_Number,0,specPAt sq0⟩
theorem cxR06_Number:CxOk PP cR06_Number:=cxR01_Sub.consS [] R06_Number.fn.enters R06_Number.ok
/-! levee/leveeref06.text -/
def R06_text.si:Sh:=⟨[(0,.v false [.str]),(1,.v false [.int .i64])],[],[],0,[]⟩
def R06_text.so:Sh:=⟨[(0,.tup [(false,[.str]),(false,[.int .i64]),(false,[.bool])])],[],[],1000,[]⟩
def R06_text.h:H:=(.s none .n (.s none .n (.s none .n (.s none (.b (.l ⟨[(7,.v false [.str]),(8,.v false [.int .i64])],[],[0],0,[]⟩ .n)) .n))))
noncomputable def R06_text.B:ByteArray×Int×Unit→Option (ByteArray×Int×Bool×Unit):=fun (p0,p1,_)=>
  let e1:Int:=(IntKind.i64.wrap (p1+(1:Int)))
  loopM (S:=ByteArray×Int×Unit) (fun (x7,x8,_)=>
  (bif (decide (x8<(p0.size:Int))) then
  bif (decide (0≤x8)&&decide (x8<(p0.size:Int))) then
  let e2:Int:=(byteAt p0 (Int.toNat x8))
  (bif (e2 !=(39:Int)) then
  let e3:Int:=(IntKind.i64.wrap (x8+(1:Int)))
  bif (decide (0≤x8)&&(decide (x8≤e3)&&decide (e3≤(p0.size:Int)))) then
  let e4:ByteArray:=(p0.extract (Int.toNat x8) (Int.toNat e3))
  bif (!decide (((x7.size+e4.size:Nat):Int)>IntKind.i64.max)) then
  let e5:ByteArray:=(x7++e4)
  let e6:Int:=(IntKind.i64.wrap (x8+(1:Int)))
  some (.inl (e5,e6,()))
  else none
  else none
  else
  let e7:Int:=(IntKind.i64.wrap (x8+(1:Int)))
  (bif (decide (e7<(p0.size:Int))) then
  let e8:Int:=(IntKind.i64.wrap (x8+(1:Int)))
  bif (decide (0≤e8)&&decide (e8<(p0.size:Int))) then
  let e9:Int:=(byteAt p0 (Int.toNat e8))
  (bif (e9==(39:Int)) then
  bif (!decide (((x7.size+(⟨#[39]⟩:ByteArray).size:Nat):Int)>IntKind.i64.max)) then
  let e10:ByteArray:=(x7++(⟨#[39]⟩:ByteArray))
  let e11:Int:=(IntKind.i64.wrap (x8+(2:Int)))
  some (.inl (e10,e11,()))
  else none
  else
  let e12:Int:=(IntKind.i64.wrap (x8+(1:Int)))
  some (.inr (x7,e12,(decide ((x7.size:Int)≤(1000:Int))),())))
  else none
  else
  let e13:Int:=(IntKind.i64.wrap (x8+(1:Int)))
  some (.inr (x7,e13,(decide ((x7.size:Int)≤(1000:Int))),()))))
  else none
  else
  some (.inr ((⟨#[]⟩:ByteArray),(0:Int),false,())))) ((⟨#[]⟩:ByteArray),e1,())
noncomputable def R06_text.F:ByteArray×Int×Unit→Option (ByteArray×Int×Bool×Unit):=stk R06_text.B
theorem R06_text.eq:R06_text.F=R06_text.B:=stk_eq _
theorem R06_text.ev (x:TS R06_text.si):evF cR06_Number inl0 (Tryz.f151.body.getD .skip) Tryz.f151.results.toList R06_text.h R06_text.si R06_text.so x=R06_text.B x:=by kernel_rfl
theorem R06_text.fn:FnOk PP 151 (Tryz.f151.body.getD .skip) Tryz.f151.results.toList Tryz.f151.ntmps:=fnOk_mk (by kernel_rfl) (by kernel_rfl) (by kernel_rfl) (by kernel_rfl)
theorem R06_text.ok:SpecOk PP 151 ⟨2,R06_text.si,R06_text.so,R06_text.F⟩:=fn_stk cxR06_Number (inl0_ok _ _) mixed R06_text.fn R06_text.h (by kernel_rfl) R06_text.ev
noncomputable def spR06_text:List (Nat×List (Nat×AK)×Lv.Spec):=(151,[],⟨2,R06_text.si,R06_text.so,R06_text.F⟩)::spR06_Number
noncomputable abbrev cR06_text:Cx:=⟨tabAt tab0,eqAt eqs0,specAt spR06_text,0,specPAt sq0⟩
theorem cxR06_text:CxOk PP cR06_text:=cxR06_Number.consS [] R06_text.fn.enters R06_text.ok
/-! levee/leveeref06.Lex -/
def R06_Lex.si:Sh:=⟨[(0,.v false [.str])],[],[],0,[]⟩
def R06_Lex.so:Sh:=⟨[(0,.tup [(false,[.ref 1000]),(false,[.int .i64])])],[(1000,false,.arr 235 tTok)],[],1001,[]⟩
def R06_Lex.h:H:=(.s none .n (.s none .n (.s none .n (.s none .n (.s none (.b (.l ⟨[(4,.v false [.ref 0]),(5,.v false [.int .i64])],[(0,false,.arr 235 tTok)],[0],1,[]⟩ (.s none .n (.b (.s none .n (.s none .n (.s none .n (.s none .n (.s none .n (.s (some ⟨[(7,.v false [.int .i64]),(8,.v false [.ptr 0 0]),(9,.v false [.bool])],[(0,true,.box 235 [.int .i64,.str,.int .i64,.int .i64,.str])],[0,4],1,[]⟩) (.s none .n (.c (.s (some ⟨[(7,.v false [.int .i64])],[],[0,4,5,8],0,[]⟩) (.b (.l ⟨[(7,.v false [.int .i64])],[],[0,4,5,8],0,[]⟩ .n)) .n) (.s (some ⟨[(80,.v false [.bool])],[],[0,4,5,6,7,8,9],0,[]⟩) .n (.c (.s (some ⟨[(7,.v false [.int .i64])],[],[0,4,5,8],0,[]⟩) (.b (.l ⟨[(7,.v false [.int .i64])],[],[0,4,5,8],0,[]⟩ .n)) .n) .n)))) .n)))))))))) .n)))))
noncomputable def R06_Lex.B:ByteArray×Unit→Option (Int×(List tTokT)×Unit):=fun (p0,_)=>
  (bif (decide ((p0.size:Int)>(20000:Int))) then
  some ((60:Int),[],())
  else
  loopM (S:=Int×(List tTokT)×Unit) (fun (x5,o4_0,_)=>
  (bif (decide (x5<(p0.size:Int))) then
  bif (decide (0≤x5)&&decide (x5<(p0.size:Int))) then
  let e1:Int:=(byteAt p0 (Int.toNat x5))
  let e2:Int:=(IntKind.i64.wrap (x5+(1:Int)))
  bif (decide (0≤x5)&&(decide (x5≤e2)&&decide (e2≤(p0.size:Int)))) then
  let e3:ByteArray:=(p0.extract (Int.toNat x5) (Int.toNat e2))
  Option.bind (R06_Sign.F (e1,())) fun y4=>
  (bif (e1==(32:Int)) then
  let e5:Int:=(IntKind.i64.wrap (x5+(1:Int)))
  some (.inl (e5,o4_0,()))
  else
  Option.bind (
  Option.bind (R06_Letter.F (e1,())) fun y6=>
  (bif y6.1 then
  Option.bind (
  loopM (S:=Int×Unit) (fun (x7',_)=>
  (bif (decide (x7'<(p0.size:Int))) then
  bif (decide (0≤x7')&&decide (x7'<(p0.size:Int))) then
  let e7:Int:=(byteAt p0 (Int.toNat x7'))
  Option.bind (R06_Inner.F (e7,())) fun y8=>
  (bif y8.1 then
  let e9:Int:=(IntKind.i64.wrap (x7'+(1:Int)))
  some (.inl (e9,()))
  else
  some (.inr (.inl (x7',()))))
  else none
  else
  some (.inr (.inl (x7',()))))) (e2,()):Option ((Int×Unit)⊕_)) fun r10=>match r10 with
  | .inl (x7_10,_)=>
  (bif (decide (0≤x5)&&(decide (x5≤x7_10)&&decide (x7_10≤(p0.size:Int)))) then
  let e11:ByteArray:=(p0.extract (Int.toNat x5) (Int.toNat x7_10))
  bif (decide (0≤x5)&&(decide (x5≤x7_10)&&decide (x7_10≤(p0.size:Int)))) then
  let e12:ByteArray:=(p0.extract (Int.toNat x5) (Int.toNat x7_10))
  Option.bind (R06_Word.F (e12,())) fun y13=>
  some (.inl (x7_10,y13.1,(0:Int),e11,(0:Int),(0:Int),(⟨#[]⟩:ByteArray),()))
  else none
  else none)
  | .inr r=>some r
  else
  Option.bind (
  Option.bind (R06_Digit.F (e1,())) fun y14=>
  (bif y14.1 then
  some (.inl (true,()))
  else
  (bif (e1==(45:Int)) then
  (bif (decide (e2<(p0.size:Int))) then
  bif (decide (0≤e2)&&decide (e2<(p0.size:Int))) then
  let e15:Int:=(byteAt p0 (Int.toNat e2))
  Option.bind (R06_Digit.F (e15,())) fun y16=>
  some (.inl (y16.1,()))
  else none
  else
  some (.inl (false,())))
  else
  some (.inl (false,())))):Option ((Bool×Unit)⊕_)) fun r17=>match r17 with
  | .inl (x80_17,_)=>
  ((bif x80_17 then
  Option.bind (
  loopM (S:=Int×Unit) (fun (x7',_)=>
  (bif (decide (x7'<(p0.size:Int))) then
  bif (decide (0≤x7')&&decide (x7'<(p0.size:Int))) then
  let e18:Int:=(byteAt p0 (Int.toNat x7'))
  Option.bind (R06_Digit.F (e18,())) fun y19=>
  (bif y19.1 then
  let e20:Int:=(IntKind.i64.wrap (x7'+(1:Int)))
  some (.inl (e20,()))
  else
  some (.inr (.inl (x7',()))))
  else none
  else
  some (.inr (.inl (x7',()))))) (e2,()):Option ((Int×Unit)⊕_)) fun r21=>match r21 with
  | .inl (x7_21,_)=>
  (bif (decide (0≤x5)&&(decide (x5≤x7_21)&&decide (x7_21≤(p0.size:Int)))) then
  let e22:ByteArray:=(p0.extract (Int.toNat x5) (Int.toNat x7_21))
  Option.bind (R06_Number.F (e22,())) fun y23=>
  Option.bind (R01_Int.F (y23.1,())) fun y24=>
  some (.inl (x7_21,y23.2.1,(1:Int),(⟨#[]⟩:ByteArray),y24.1,y24.2.1,y24.2.2.1,()))
  else none)
  | .inr r=>some r
  else
  (bif (e1==(39:Int)) then
  Option.bind (R06_text.F (p0,x5,())) fun y25=>
  some (.inl (y25.2.1,y25.2.2.1,(1:Int),(⟨#[]⟩:ByteArray),(3:Int),(0:Int),y25.1,()))
  else
  some (.inl (e2,y4.1,(2:Int),e3,(0:Int),(0:Int),(⟨#[]⟩:ByteArray),())))))
  | .inr r=>some r):Option ((Int×Bool×Int×ByteArray×Int×Int×ByteArray×Unit)⊕_)) fun r26=>match r26 with
  | .inl (x7_26,x9_26,o8_0_0_26,o8_0_1_26,o8_0_2_26,o8_0_3_26,o8_0_4_26,_)=>
  ((bif (!x9_26) then
  some (.inr ((60:Int),[],()))
  else
  bif (Nat.ble (o4_0.length+ [(o8_0_0_26,(o8_0_1_26,(o8_0_2_26,(o8_0_3_26,o8_0_4_26))))].length) 2513169434916) then
  some (.inl (x7_26,(o4_0++ [(o8_0_0_26,(o8_0_1_26,(o8_0_2_26,(o8_0_3_26,o8_0_4_26))))]),()))
  else none))
  | .inr r=>some r)
  else none
  else none
  else
  some (.inr ((0:Int),o4_0,())))) ((0:Int),([]:List tTokT),()))
noncomputable def R06_Lex.F:ByteArray×Unit→Option (Int×(List tTokT)×Unit):=stk R06_Lex.B
theorem R06_Lex.eq:R06_Lex.F=R06_Lex.B:=stk_eq _
theorem R06_Lex.ev (x:TS R06_Lex.si):evF cR06_text inl0 (Tryz.f121.body.getD .skip) Tryz.f121.results.toList R06_Lex.h R06_Lex.si R06_Lex.so x=R06_Lex.B x:=by kernel_rfl
theorem R06_Lex.fn:FnOk PP 121 (Tryz.f121.body.getD .skip) Tryz.f121.results.toList Tryz.f121.ntmps:=fnOk_mk (by kernel_rfl) (by kernel_rfl) (by kernel_rfl) (by kernel_rfl)
theorem R06_Lex.ok:SpecOk PP 121 ⟨1,R06_Lex.si,R06_Lex.so,R06_Lex.F⟩:=fn_stk cxR06_text (inl0_ok _ _) mixed R06_Lex.fn R06_Lex.h (by kernel_rfl) R06_Lex.ev
noncomputable def spR06_Lex:List (Nat×List (Nat×AK)×Lv.Spec):=(121,[],⟨1,R06_Lex.si,R06_Lex.so,R06_Lex.F⟩)::spR06_text
noncomputable abbrev cR06_Lex:Cx:=⟨tabAt tab0,eqAt eqs0,specAt spR06_Lex,0,specPAt sq0⟩
theorem cxR06_Lex:CxOk PP cR06_Lex:=cxR06_text.consS [] R06_Lex.fn.enters R06_Lex.ok
/-! (*levee/leveeref07.Parser).is -/
def R07_Parser_is.si:Sh:=⟨[(0,.v false [.ptr 0 0]),(1,.v false [.str])],[(0,true,.box 212 [.sl 235 tTok,.int .i64,.bool])],[],1,[]⟩
def R07_Parser_is.so:Sh:=⟨[(0,.v false [.bool])],[(0,true,.box 212 [.sl 235 tTok,.int .i64,.bool])],[],1001,[(0,0)]⟩
def R07_Parser_is.h:H:=.n
noncomputable def R07_Parser_is.B:ByteArray×(List tTokT)×Int×Bool×Unit→Option (Bool×(List tTokT)×Int×Bool×Unit):=fun (p1,o0_0,o0_1,o0_2,_)=>
  (bif (decide (o0_1<(o0_0.length:Int))) then
  bif (decide (0≤o0_1)&&decide (o0_1<(o0_0.length:Int))) then
  let e1:tTokT:=(List.getD o0_0 (Int.toNat o0_1) tTok.z)
  (bif (e1.1 !=(1:Int)) then
  bif (decide (0≤o0_1)&&decide (o0_1<(o0_0.length:Int))) then
  let e2:tTokT:=(List.getD o0_0 (Int.toNat o0_1) tTok.z)
  some ((e2.2.1.toList==p1.toList),o0_0,o0_1,o0_2,())
  else none
  else
  some (false,o0_0,o0_1,o0_2,()))
  else none
  else
  some (false,o0_0,o0_1,o0_2,()))
noncomputable def R07_Parser_is.F:ByteArray×(List tTokT)×Int×Bool×Unit→Option (Bool×(List tTokT)×Int×Bool×Unit):=stk R07_Parser_is.B
theorem R07_Parser_is.eq:R07_Parser_is.F=R07_Parser_is.B:=stk_eq _
theorem R07_Parser_is.ev (x:TS R07_Parser_is.si):evF cR06_Lex inl0 (Tryz.f158.body.getD .skip) Tryz.f158.results.toList R07_Parser_is.h R07_Parser_is.si R07_Parser_is.so x=R07_Parser_is.B x:=by kernel_rfl
theorem R07_Parser_is.fn:FnOk PP 158 (Tryz.f158.body.getD .skip) Tryz.f158.results.toList Tryz.f158.ntmps:=fnOk_mk (by kernel_rfl) (by kernel_rfl) (by kernel_rfl) (by kernel_rfl)
theorem R07_Parser_is.ok:SpecOk PP 158 ⟨2,R07_Parser_is.si,R07_Parser_is.so,R07_Parser_is.F⟩:=fn_stk cxR06_Lex (inl0_ok _ _) mixed R07_Parser_is.fn R07_Parser_is.h (by kernel_rfl) R07_Parser_is.ev
noncomputable def spR07_Parser_is:List (Nat×List (Nat×AK)×Lv.Spec):=(158,[],⟨2,R07_Parser_is.si,R07_Parser_is.so,R07_Parser_is.F⟩)::spR06_Lex
noncomputable abbrev cR07_Parser_is:Cx:=⟨tabAt tab0,eqAt eqs0,specAt spR07_Parser_is,0,specPAt sq0⟩
theorem cxR07_Parser_is:CxOk PP cR07_Parser_is:=cxR06_Lex.consS [] R07_Parser_is.fn.enters R07_Parser_is.ok
/-! (*levee/leveeref07.Parser).take -/
def R07_Parser_take.si:Sh:=⟨[(0,.v false [.ptr 0 0]),(1,.v false [.str])],[(0,true,.box 212 [.sl 235 tTok,.int .i64,.bool])],[],1,[]⟩
def R07_Parser_take.so:Sh:=⟨[(0,.v false [.bool])],[(0,true,.box 212 [.sl 235 tTok,.int .i64,.bool])],[],1001,[(0,0)]⟩
def R07_Parser_take.h:H:=.n
noncomputable def R07_Parser_take.B:ByteArray×(List tTokT)×Int×Bool×Unit→Option (Bool×(List tTokT)×Int×Bool×Unit):=fun (p1,o0_0,o0_1,o0_2,_)=>
  Option.bind (R07_Parser_is.F (p1,o0_0,o0_1,o0_2,())) fun y1=>
  (bif y1.1 then
  let e2:Int:=(IntKind.i64.wrap (y1.2.2.1+(1:Int)))
  some (true,y1.2.1,e2,y1.2.2.2.1,())
  else
  some (false,y1.2.1,y1.2.2.1,y1.2.2.2.1,()))
noncomputable def R07_Parser_take.F:ByteArray×(List tTokT)×Int×Bool×Unit→Option (Bool×(List tTokT)×Int×Bool×Unit):=stk R07_Parser_take.B
theorem R07_Parser_take.eq:R07_Parser_take.F=R07_Parser_take.B:=stk_eq _
theorem R07_Parser_take.ev (x:TS R07_Parser_take.si):evF cR07_Parser_is inl0 (Tryz.f152.body.getD .skip) Tryz.f152.results.toList R07_Parser_take.h R07_Parser_take.si R07_Parser_take.so x=R07_Parser_take.B x:=by kernel_rfl
theorem R07_Parser_take.fn:FnOk PP 152 (Tryz.f152.body.getD .skip) Tryz.f152.results.toList Tryz.f152.ntmps:=fnOk_mk (by kernel_rfl) (by kernel_rfl) (by kernel_rfl) (by kernel_rfl)
theorem R07_Parser_take.ok:SpecOk PP 152 ⟨2,R07_Parser_take.si,R07_Parser_take.so,R07_Parser_take.F⟩:=fn_stk cxR07_Parser_is (inl0_ok _ _) mixed R07_Parser_take.fn R07_Parser_take.h (by kernel_rfl) R07_Parser_take.ev
noncomputable def spR07_Parser_take:List (Nat×List (Nat×AK)×Lv.Spec):=(152,[],⟨2,R07_Parser_take.si,R07_Parser_take.so,R07_Parser_take.F⟩)::spR07_Parser_is
noncomputable abbrev cR07_Parser_take:Cx:=⟨tabAt tab0,eqAt eqs0,specAt spR07_Parser_take,0,specPAt sq0⟩
theorem cxR07_Parser_take:CxOk PP cR07_Parser_take:=cxR07_Parser_is.consS [] R07_Parser_take.fn.enters R07_Parser_take.ok
/-! (*levee/leveeref07.Parser).one -/
def R07_Parser_one.si:Sh:=⟨[(0,.v false [.ptr 0 0]),(1,.v false [.sl 9 .str])],[(0,true,.box 212 [.sl 235 tTok,.int .i64,.bool])],[],1,[]⟩
def R07_Parser_one.so:Sh:=⟨[(0,.v false [.int .i64])],[(0,true,.box 212 [.sl 235 tTok,.int .i64,.bool])],[],1001,[(0,0)]⟩
def R07_Parser_one.h:H:=(.s none .n (.s (some ⟨[(0,.v false [.ptr 0 0])],[(0,true,.box 212 [.sl 235 tTok,.int .i64,.bool])],[],1,[]⟩) (.s none .n (.b (.l ⟨[(0,.v false [.ptr 0 0]),(5,.v false [.int .i64])],[(0,true,.box 212 [.sl 235 tTok,.int .i64,.bool])],[1],1,[]⟩ .n))) .n))
noncomputable def R07_Parser_one.B:(List ByteArray)×(List tTokT)×Int×Bool×Unit→Option (Int×(List tTokT)×Int×Bool×Unit):=fun (p1,o0_0,o0_1,o0_2,_)=>
  Option.bind (
  loopM (S:=Int×(List tTokT)×Int×Bool×Unit) (fun (x5,o0_0_0,o0_0_1,o0_0_2,_)=>
  (bif (decide (x5<(p1.length:Int))) then
  bif (decide (0≤x5)&&decide (x5<(p1.length:Int))) then
  let e1:ByteArray:=(List.getD p1 (Int.toNat x5) (⟨#[]⟩:ByteArray))
  Option.bind (R07_Parser_take.F (e1,o0_0_0,o0_0_1,o0_0_2,())) fun y2=>
  (bif y2.1 then
  some (.inr (.inr (x5,y2.2.1,y2.2.2.1,y2.2.2.2.1,())))
  else
  let e3:Int:=(IntKind.i64.wrap (x5+(1:Int)))
  some (.inl (e3,y2.2.1,y2.2.2.1,y2.2.2.2.1,())))
  else none
  else
  some (.inr (.inl (o0_0_0,o0_0_1,o0_0_2,()))))) ((0:Int),o0_0,o0_1,o0_2,()):Option (((List tTokT)×Int×Bool×Unit)⊕_)) fun r4=>match r4 with
  | .inl (o0_0_0_4,o0_0_1_4,o0_0_2_4,_)=>
  (some ((0:Int),o0_0_0_4,o0_0_1_4,false,()))
  | .inr r=>some r
noncomputable def R07_Parser_one.F:(List ByteArray)×(List tTokT)×Int×Bool×Unit→Option (Int×(List tTokT)×Int×Bool×Unit):=stk R07_Parser_one.B
theorem R07_Parser_one.eq:R07_Parser_one.F=R07_Parser_one.B:=stk_eq _
theorem R07_Parser_one.ev (x:TS R07_Parser_one.si):evF cR07_Parser_take inl0 (Tryz.f122.body.getD .skip) Tryz.f122.results.toList R07_Parser_one.h R07_Parser_one.si R07_Parser_one.so x=R07_Parser_one.B x:=by kernel_rfl
theorem R07_Parser_one.fn:FnOk PP 122 (Tryz.f122.body.getD .skip) Tryz.f122.results.toList Tryz.f122.ntmps:=fnOk_mk (by kernel_rfl) (by kernel_rfl) (by kernel_rfl) (by kernel_rfl)
theorem R07_Parser_one.ok:SpecOk PP 122 ⟨2,R07_Parser_one.si,R07_Parser_one.so,R07_Parser_one.F⟩:=fn_stk cxR07_Parser_take (inl0_ok _ _) mixed R07_Parser_one.fn R07_Parser_one.h (by kernel_rfl) R07_Parser_one.ev
noncomputable def spR07_Parser_one:List (Nat×List (Nat×AK)×Lv.Spec):=(122,[],⟨2,R07_Parser_one.si,R07_Parser_one.so,R07_Parser_one.F⟩)::spR07_Parser_take
noncomputable abbrev cR07_Parser_one:Cx:=⟨tabAt tab0,eqAt eqs0,specAt spR07_Parser_one,0,specPAt sq0⟩
theorem cxR07_Parser_one:CxOk PP cR07_Parser_one:=cxR07_Parser_take.consS [] R07_Parser_one.fn.enters R07_Parser_one.ok
/-! (*levee/leveeref07.Parser).next -/
def R07_Parser_next.si:Sh:=⟨[(0,.v false [.ptr 0 0])],[(0,true,.box 212 [.sl 235 tTok,.int .i64,.bool])],[],1,[]⟩
def R07_Parser_next.so:Sh:=⟨[(0,.v true [.int .i64,.str,.int .i64,.int .i64,.str])],[(0,true,.box 212 [.sl 235 tTok,.int .i64,.bool])],[],1001,[(0,0)]⟩
def R07_Parser_next.h:H:=.n
noncomputable def R07_Parser_next.B:(List tTokT)×Int×Bool×Unit→Option (Int×ByteArray×Int×Int×ByteArray×(List tTokT)×Int×Bool×Unit):=fun (o0_0,o0_1,o0_2,_)=>
  (bif (decide (o0_1≥(o0_0.length:Int))) then
  some ((-1:Int),(⟨#[]⟩:ByteArray),(0:Int),(0:Int),(⟨#[]⟩:ByteArray),o0_0,o0_1,false,())
  else
  let e1:Int:=(IntKind.i64.wrap (o0_1+(1:Int)))
  let e2:Int:=(IntKind.i64.wrap (e1-(1:Int)))
  bif (decide (0≤e2)&&decide (e2<(o0_0.length:Int))) then
  let e3:tTokT:=(List.getD o0_0 (Int.toNat e2) tTok.z)
  some (e3.1,e3.2.1,e3.2.2.1,e3.2.2.2.1,e3.2.2.2.2,o0_0,e1,o0_2,())
  else none)
noncomputable def R07_Parser_next.F:(List tTokT)×Int×Bool×Unit→Option (Int×ByteArray×Int×Int×ByteArray×(List tTokT)×Int×Bool×Unit):=stk R07_Parser_next.B
theorem R07_Parser_next.eq:R07_Parser_next.F=R07_Parser_next.B:=stk_eq _
theorem R07_Parser_next.ev (x:TS R07_Parser_next.si):evF cR07_Parser_one inl0 (Tryz.f177.body.getD .skip) Tryz.f177.results.toList R07_Parser_next.h R07_Parser_next.si R07_Parser_next.so x=R07_Parser_next.B x:=by kernel_rfl
theorem R07_Parser_next.fn:FnOk PP 177 (Tryz.f177.body.getD .skip) Tryz.f177.results.toList Tryz.f177.ntmps:=fnOk_mk (by kernel_rfl) (by kernel_rfl) (by kernel_rfl) (by kernel_rfl)
theorem R07_Parser_next.ok:SpecOk PP 177 ⟨1,R07_Parser_next.si,R07_Parser_next.so,R07_Parser_next.F⟩:=fn_stk cxR07_Parser_one (inl0_ok _ _) mixed R07_Parser_next.fn R07_Parser_next.h (by kernel_rfl) R07_Parser_next.ev
noncomputable def spR07_Parser_next:List (Nat×List (Nat×AK)×Lv.Spec):=(177,[],⟨1,R07_Parser_next.si,R07_Parser_next.so,R07_Parser_next.F⟩)::spR07_Parser_one
noncomputable abbrev cR07_Parser_next:Cx:=⟨tabAt tab0,eqAt eqs0,specAt spR07_Parser_next,0,specPAt sq0⟩
theorem cxR07_Parser_next:CxOk PP cR07_Parser_next:=cxR07_Parser_one.consS [] R07_Parser_next.fn.enters R07_Parser_next.ok
/-! levee/leveeref07.Keyword -/
def R07_Keyword.si:Sh:=⟨[(0,.v false [.str])],[],[],0,[]⟩
def R07_Keyword.so:Sh:=⟨[(0,.v false [.bool])],[],[],1000,[]⟩
def R07_Keyword.h:H:=(.s none .n (.s none .n (.s none (.s none .n (.b (.l ⟨[(4,.v false [.int .i64])],[],[0,3],0,[]⟩ .n))) .n)))
noncomputable def R07_Keyword.B:ByteArray×Unit→Option (Bool×Unit):=fun (p0,_)=>
  loopM (S:=Int×Unit) (fun (x4,_)=>
  (bif (decide (x4<([(⟨#[116,97,98,108,101]⟩:ByteArray),(⟨#[99,104,101,99,107]⟩:ByteArray),(⟨#[118,105,101,119]⟩:ByteArray),(⟨#[102,114,111,109]⟩:ByteArray),(⟨#[106,111,105,110]⟩:ByteArray),(⟨#[111,110]⟩:ByteArray),(⟨#[119,104,101,114,101]⟩:ByteArray),(⟨#[112,105,99,107]⟩:ByteArray),(⟨#[103,114,111,117,112]⟩:ByteArray),(⟨#[98,111,111,108]⟩:ByteArray),(⟨#[105,110,116]⟩:ByteArray),(⟨#[116,101,120,116]⟩:ByteArray),(⟨#[110,117,108,108]⟩:ByteArray),(⟨#[117,110,105,113,117,101]⟩:ByteArray),(⟨#[114,101,102]⟩:ByteArray),(⟨#[114,101,115,116,114,105,99,116]⟩:ByteArray),(⟨#[99,97,115,99,97,100,101]⟩:ByteArray),(⟨#[115,101,116,110,117,108,108]⟩:ByteArray),(⟨#[99,111,117,110,116]⟩:ByteArray),(⟨#[115,117,109]⟩:ByteArray),(⟨#[109,105,110]⟩:ByteArray),(⟨#[109,97,120]⟩:ByteArray),(⟨#[116,114,117,101]⟩:ByteArray),(⟨#[102,97,108,115,101]⟩:ByteArray),(⟨#[97,110,100]⟩:ByteArray),(⟨#[111,114]⟩:ByteArray),(⟨#[110,111,116]⟩:ByteArray)].length:Int))) then
  bif (decide (0≤x4)&&decide (x4<([(⟨#[116,97,98,108,101]⟩:ByteArray),(⟨#[99,104,101,99,107]⟩:ByteArray),(⟨#[118,105,101,119]⟩:ByteArray),(⟨#[102,114,111,109]⟩:ByteArray),(⟨#[106,111,105,110]⟩:ByteArray),(⟨#[111,110]⟩:ByteArray),(⟨#[119,104,101,114,101]⟩:ByteArray),(⟨#[112,105,99,107]⟩:ByteArray),(⟨#[103,114,111,117,112]⟩:ByteArray),(⟨#[98,111,111,108]⟩:ByteArray),(⟨#[105,110,116]⟩:ByteArray),(⟨#[116,101,120,116]⟩:ByteArray),(⟨#[110,117,108,108]⟩:ByteArray),(⟨#[117,110,105,113,117,101]⟩:ByteArray),(⟨#[114,101,102]⟩:ByteArray),(⟨#[114,101,115,116,114,105,99,116]⟩:ByteArray),(⟨#[99,97,115,99,97,100,101]⟩:ByteArray),(⟨#[115,101,116,110,117,108,108]⟩:ByteArray),(⟨#[99,111,117,110,116]⟩:ByteArray),(⟨#[115,117,109]⟩:ByteArray),(⟨#[109,105,110]⟩:ByteArray),(⟨#[109,97,120]⟩:ByteArray),(⟨#[116,114,117,101]⟩:ByteArray),(⟨#[102,97,108,115,101]⟩:ByteArray),(⟨#[97,110,100]⟩:ByteArray),(⟨#[111,114]⟩:ByteArray),(⟨#[110,111,116]⟩:ByteArray)].length:Int))) then
  let e1:ByteArray:=(List.getD [(⟨#[116,97,98,108,101]⟩:ByteArray),(⟨#[99,104,101,99,107]⟩:ByteArray),(⟨#[118,105,101,119]⟩:ByteArray),(⟨#[102,114,111,109]⟩:ByteArray),(⟨#[106,111,105,110]⟩:ByteArray),(⟨#[111,110]⟩:ByteArray),(⟨#[119,104,101,114,101]⟩:ByteArray),(⟨#[112,105,99,107]⟩:ByteArray),(⟨#[103,114,111,117,112]⟩:ByteArray),(⟨#[98,111,111,108]⟩:ByteArray),(⟨#[105,110,116]⟩:ByteArray),(⟨#[116,101,120,116]⟩:ByteArray),(⟨#[110,117,108,108]⟩:ByteArray),(⟨#[117,110,105,113,117,101]⟩:ByteArray),(⟨#[114,101,102]⟩:ByteArray),(⟨#[114,101,115,116,114,105,99,116]⟩:ByteArray),(⟨#[99,97,115,99,97,100,101]⟩:ByteArray),(⟨#[115,101,116,110,117,108,108]⟩:ByteArray),(⟨#[99,111,117,110,116]⟩:ByteArray),(⟨#[115,117,109]⟩:ByteArray),(⟨#[109,105,110]⟩:ByteArray),(⟨#[109,97,120]⟩:ByteArray),(⟨#[116,114,117,101]⟩:ByteArray),(⟨#[102,97,108,115,101]⟩:ByteArray),(⟨#[97,110,100]⟩:ByteArray),(⟨#[111,114]⟩:ByteArray),(⟨#[110,111,116]⟩:ByteArray)] (Int.toNat x4) (⟨#[]⟩:ByteArray))
  (bif (e1.toList==p0.toList) then
  some (.inr (true,()))
  else
  let e2:Int:=(IntKind.i64.wrap (x4+(1:Int)))
  some (.inl (e2,())))
  else none
  else
  some (.inr (false,())))) ((0:Int),())
noncomputable def R07_Keyword.F:ByteArray×Unit→Option (Bool×Unit):=stk R07_Keyword.B
theorem R07_Keyword.eq:R07_Keyword.F=R07_Keyword.B:=stk_eq _
theorem R07_Keyword.ev (x:TS R07_Keyword.si):evF cR07_Parser_next inl0 (Tryz.f193.body.getD .skip) Tryz.f193.results.toList R07_Keyword.h R07_Keyword.si R07_Keyword.so x=R07_Keyword.B x:=by kernel_rfl
theorem R07_Keyword.fn:FnOk PP 193 (Tryz.f193.body.getD .skip) Tryz.f193.results.toList Tryz.f193.ntmps:=fnOk_mk (by kernel_rfl) (by kernel_rfl) (by kernel_rfl) (by kernel_rfl)
theorem R07_Keyword.ok:SpecOk PP 193 ⟨1,R07_Keyword.si,R07_Keyword.so,R07_Keyword.F⟩:=fn_stk cxR07_Parser_next (inl0_ok _ _) mixed R07_Keyword.fn R07_Keyword.h (by kernel_rfl) R07_Keyword.ev
noncomputable def spR07_Keyword:List (Nat×List (Nat×AK)×Lv.Spec):=(193,[],⟨1,R07_Keyword.si,R07_Keyword.so,R07_Keyword.F⟩)::spR07_Parser_next
noncomputable abbrev cR07_Keyword:Cx:=⟨tabAt tab0,eqAt eqs0,specAt spR07_Keyword,0,specPAt sq0⟩
theorem cxR07_Keyword:CxOk PP cR07_Keyword:=cxR07_Parser_next.consS [] R07_Keyword.fn.enters R07_Keyword.ok
/-! levee/leveeref07.Name -/
def R07_Name.si:Sh:=⟨[(0,.v false [.str])],[],[],0,[]⟩
def R07_Name.so:Sh:=⟨[(0,.v false [.bool])],[],[],1000,[]⟩
def R07_Name.h:H:=.n
noncomputable def R07_Name.B:ByteArray×Unit→Option (Bool×Unit):=fun (p0,_)=>
  Option.bind (R06_Word.F (p0,())) fun y1=>
  (bif y1.1 then
  Option.bind (R07_Keyword.F (p0,())) fun y2=>
  some ((!y2.1),())
  else
  some (false,()))
noncomputable def R07_Name.F:ByteArray×Unit→Option (Bool×Unit):=stk R07_Name.B
theorem R07_Name.eq:R07_Name.F=R07_Name.B:=stk_eq _
theorem R07_Name.ev (x:TS R07_Name.si):evF cR07_Keyword inl0 (Tryz.f178.body.getD .skip) Tryz.f178.results.toList R07_Name.h R07_Name.si R07_Name.so x=R07_Name.B x:=by kernel_rfl
theorem R07_Name.fn:FnOk PP 178 (Tryz.f178.body.getD .skip) Tryz.f178.results.toList Tryz.f178.ntmps:=fnOk_mk (by kernel_rfl) (by kernel_rfl) (by kernel_rfl) (by kernel_rfl)
theorem R07_Name.ok:SpecOk PP 178 ⟨1,R07_Name.si,R07_Name.so,R07_Name.F⟩:=fn_stk cxR07_Keyword (inl0_ok _ _) mixed R07_Name.fn R07_Name.h (by kernel_rfl) R07_Name.ev
noncomputable def spR07_Name:List (Nat×List (Nat×AK)×Lv.Spec):=(178,[],⟨1,R07_Name.si,R07_Name.so,R07_Name.F⟩)::spR07_Keyword
noncomputable abbrev cR07_Name:Cx:=⟨tabAt tab0,eqAt eqs0,specAt spR07_Name,0,specPAt sq0⟩
theorem cxR07_Name:CxOk PP cR07_Name:=cxR07_Keyword.consS [] R07_Name.fn.enters R07_Name.ok
/-! (*levee/leveeref07.Parser).name -/
def R07_Parser_name.si:Sh:=⟨[(0,.v false [.ptr 0 0])],[(0,true,.box 212 [.sl 235 tTok,.int .i64,.bool])],[],1,[]⟩
def R07_Parser_name.so:Sh:=⟨[(0,.v false [.str])],[(0,true,.box 212 [.sl 235 tTok,.int .i64,.bool])],[],1001,[(0,0)]⟩
def R07_Parser_name.h:H:=.n
noncomputable def R07_Parser_name.B:(List tTokT)×Int×Bool×Unit→Option (ByteArray×(List tTokT)×Int×Bool×Unit):=fun (o0_0,o0_1,o0_2,_)=>
  Option.bind (R07_Parser_next.F (o0_0,o0_1,o0_2,())) fun y1=>
  (bif (y1.1 !=(0:Int)) then
  some (y1.2.1,y1.2.2.2.2.2.1,y1.2.2.2.2.2.2.1,false,())
  else
  Option.bind (R07_Name.F (y1.2.1,())) fun y2=>
  (bif (!y2.1) then
  some (y1.2.1,y1.2.2.2.2.2.1,y1.2.2.2.2.2.2.1,false,())
  else
  some (y1.2.1,y1.2.2.2.2.2.1,y1.2.2.2.2.2.2.1,y1.2.2.2.2.2.2.2.1,())))
noncomputable def R07_Parser_name.F:(List tTokT)×Int×Bool×Unit→Option (ByteArray×(List tTokT)×Int×Bool×Unit):=stk R07_Parser_name.B
theorem R07_Parser_name.eq:R07_Parser_name.F=R07_Parser_name.B:=stk_eq _
theorem R07_Parser_name.ev (x:TS R07_Parser_name.si):evF cR07_Name inl0 (Tryz.f153.body.getD .skip) Tryz.f153.results.toList R07_Parser_name.h R07_Parser_name.si R07_Parser_name.so x=R07_Parser_name.B x:=by kernel_rfl
theorem R07_Parser_name.fn:FnOk PP 153 (Tryz.f153.body.getD .skip) Tryz.f153.results.toList Tryz.f153.ntmps:=fnOk_mk (by kernel_rfl) (by kernel_rfl) (by kernel_rfl) (by kernel_rfl)
theorem R07_Parser_name.ok:SpecOk PP 153 ⟨1,R07_Parser_name.si,R07_Parser_name.so,R07_Parser_name.F⟩:=fn_stk cxR07_Name (inl0_ok _ _) mixed R07_Parser_name.fn R07_Parser_name.h (by kernel_rfl) R07_Parser_name.ev
noncomputable def spR07_Parser_name:List (Nat×List (Nat×AK)×Lv.Spec):=(153,[],⟨1,R07_Parser_name.si,R07_Parser_name.so,R07_Parser_name.F⟩)::spR07_Name
noncomputable abbrev cR07_Parser_name:Cx:=⟨tabAt tab0,eqAt eqs0,specAt spR07_Parser_name,0,specPAt sq0⟩
theorem cxR07_Parser_name:CxOk PP cR07_Parser_name:=cxR07_Name.consS [] R07_Parser_name.fn.enters R07_Parser_name.ok
/-! (*levee/leveeref07.Parser).need -/
def R07_Parser_need.si:Sh:=⟨[(0,.v false [.ptr 0 0]),(1,.v false [.str])],[(0,true,.box 212 [.sl 235 tTok,.int .i64,.bool])],[],1,[]⟩
def R07_Parser_need.so:Sh:=⟨[(0,.tup [])],[(0,true,.box 212 [.sl 235 tTok,.int .i64,.bool])],[],1001,[(0,0)]⟩
def R07_Parser_need.h:H:=.n
noncomputable def R07_Parser_need.B:ByteArray×(List tTokT)×Int×Bool×Unit→Option ((List tTokT)×Int×Bool×Unit):=fun (p1,o0_0,o0_1,o0_2,_)=>
  Option.bind (R07_Parser_take.F (p1,o0_0,o0_1,o0_2,())) fun y1=>
  (bif (!y1.1) then
  some (y1.2.1,y1.2.2.1,false,())
  else
  some (y1.2.1,y1.2.2.1,y1.2.2.2.1,()))
noncomputable def R07_Parser_need.F:ByteArray×(List tTokT)×Int×Bool×Unit→Option ((List tTokT)×Int×Bool×Unit):=stk R07_Parser_need.B
theorem R07_Parser_need.eq:R07_Parser_need.F=R07_Parser_need.B:=stk_eq _
theorem R07_Parser_need.ev (x:TS R07_Parser_need.si):evF cR07_Parser_name inl0 (Tryz.f154.body.getD .skip) Tryz.f154.results.toList R07_Parser_need.h R07_Parser_need.si R07_Parser_need.so x=R07_Parser_need.B x:=by kernel_rfl
theorem R07_Parser_need.fn:FnOk PP 154 (Tryz.f154.body.getD .skip) Tryz.f154.results.toList Tryz.f154.ntmps:=fnOk_mk (by kernel_rfl) (by kernel_rfl) (by kernel_rfl) (by kernel_rfl)
theorem R07_Parser_need.ok:SpecOk PP 154 ⟨2,R07_Parser_need.si,R07_Parser_need.so,R07_Parser_need.F⟩:=fn_stk cxR07_Parser_name (inl0_ok _ _) mixed R07_Parser_need.fn R07_Parser_need.h (by kernel_rfl) R07_Parser_need.ev
noncomputable def spR07_Parser_need:List (Nat×List (Nat×AK)×Lv.Spec):=(154,[],⟨2,R07_Parser_need.si,R07_Parser_need.so,R07_Parser_need.F⟩)::spR07_Parser_name
noncomputable abbrev cR07_Parser_need:Cx:=⟨tabAt tab0,eqAt eqs0,specAt spR07_Parser_need,0,specPAt sq0⟩
theorem cxR07_Parser_need:CxOk PP cR07_Parser_need:=cxR07_Parser_name.consS [] R07_Parser_need.fn.enters R07_Parser_need.ok
/-! (*levee/leveeref07.Parser).column -/
def R07_Parser_column.si:Sh:=⟨[(0,.v false [.ptr 0 0])],[(0,true,.box 212 [.sl 235 tTok,.int .i64,.bool])],[],1,[]⟩
def R07_Parser_column.so:Sh:=⟨[(0,.v true [.str,.int .i64,.bool,.bool,.str,.int .i64])],[(0,true,.box 212 [.sl 235 tTok,.int .i64,.bool])],[],1001,[(0,0)]⟩
def R07_Parser_column.h:H:=.n
noncomputable def R07_Parser_column.B:(List tTokT)×Int×Bool×Unit→Option (ByteArray×Int×Bool×Bool×ByteArray×Int×(List tTokT)×Int×Bool×Unit):=fun (o0_0,o0_1,o0_2,_)=>
  Option.bind (R07_Parser_name.F (o0_0,o0_1,o0_2,())) fun y1=>
  Option.bind (R07_Parser_one.F ([(⟨#[98,111,111,108]⟩:ByteArray),(⟨#[105,110,116]⟩:ByteArray),(⟨#[116,101,120,116]⟩:ByteArray)],y1.2.1,y1.2.2.1,y1.2.2.2.1,())) fun y2=>
  let e3:Int:=(IntKind.i64.wrap ((1:Int)+y2.1))
  Option.bind (R07_Parser_take.F ((⟨#[110,117,108,108]⟩:ByteArray),y2.2.1,y2.2.2.1,y2.2.2.2.1,())) fun y4=>
  Option.bind (R07_Parser_take.F ((⟨#[117,110,105,113,117,101]⟩:ByteArray),y4.2.1,y4.2.2.1,y4.2.2.2.1,())) fun y5=>
  Option.bind (R07_Parser_take.F ((⟨#[114,101,102]⟩:ByteArray),y5.2.1,y5.2.2.1,y5.2.2.2.1,())) fun y6=>
  (bif y6.1 then
  Option.bind (R07_Parser_name.F (y6.2.1,y6.2.2.1,y6.2.2.2.1,())) fun y7=>
  Option.bind (R07_Parser_one.F ([(⟨#[114,101,115,116,114,105,99,116]⟩:ByteArray),(⟨#[99,97,115,99,97,100,101]⟩:ByteArray),(⟨#[115,101,116,110,117,108,108]⟩:ByteArray)],y7.2.1,y7.2.2.1,y7.2.2.2.1,())) fun y8=>
  some (y1.1,e3,y4.1,y5.1,y7.1,y8.1,y8.2.1,y8.2.2.1,y8.2.2.2.1,())
  else
  some (y1.1,e3,y4.1,y5.1,(⟨#[]⟩:ByteArray),(0:Int),y6.2.1,y6.2.2.1,y6.2.2.2.1,()))
noncomputable def R07_Parser_column.F:(List tTokT)×Int×Bool×Unit→Option (ByteArray×Int×Bool×Bool×ByteArray×Int×(List tTokT)×Int×Bool×Unit):=stk R07_Parser_column.B
theorem R07_Parser_column.eq:R07_Parser_column.F=R07_Parser_column.B:=stk_eq _
theorem R07_Parser_column.ev (x:TS R07_Parser_column.si):evF cR07_Parser_need inl0 (Tryz.f155.body.getD .skip) Tryz.f155.results.toList R07_Parser_column.h R07_Parser_column.si R07_Parser_column.so x=R07_Parser_column.B x:=by kernel_rfl
theorem R07_Parser_column.fn:FnOk PP 155 (Tryz.f155.body.getD .skip) Tryz.f155.results.toList Tryz.f155.ntmps:=fnOk_mk (by kernel_rfl) (by kernel_rfl) (by kernel_rfl) (by kernel_rfl)
theorem R07_Parser_column.ok:SpecOk PP 155 ⟨1,R07_Parser_column.si,R07_Parser_column.so,R07_Parser_column.F⟩:=fn_stk cxR07_Parser_need (inl0_ok _ _) mixed R07_Parser_column.fn R07_Parser_column.h (by kernel_rfl) R07_Parser_column.ev
noncomputable def spR07_Parser_column:List (Nat×List (Nat×AK)×Lv.Spec):=(155,[],⟨1,R07_Parser_column.si,R07_Parser_column.so,R07_Parser_column.F⟩)::spR07_Parser_need
noncomputable abbrev cR07_Parser_column:Cx:=⟨tabAt tab0,eqAt eqs0,specAt spR07_Parser_column,0,specPAt sq0⟩
theorem cxR07_Parser_column:CxOk PP cR07_Parser_column:=cxR07_Parser_need.consS [] R07_Parser_column.fn.enters R07_Parser_column.ok
/-! levee/leveeref01.Truth -/
def R01_Truth.si:Sh:=⟨[(0,.v false [.bool])],[],[],0,[]⟩
def R01_Truth.so:Sh:=⟨[(0,.v true [.int .i64,.int .i64,.str])],[],[],1000,[]⟩
def R01_Truth.h:H:=.n
noncomputable def R01_Truth.B:Bool×Unit→Option (Int×Int×ByteArray×Unit):=fun (p0,_)=>
  (bif p0 then
  some ((1:Int),(1:Int),(⟨#[]⟩:ByteArray),())
  else
  some ((1:Int),(0:Int),(⟨#[]⟩:ByteArray),()))
noncomputable def R01_Truth.F:Bool×Unit→Option (Int×Int×ByteArray×Unit):=stk R01_Truth.B
theorem R01_Truth.eq:R01_Truth.F=R01_Truth.B:=stk_eq _
theorem R01_Truth.ev (x:TS R01_Truth.si):evF cR07_Parser_column inl0 (Tryz.f194.body.getD .skip) Tryz.f194.results.toList R01_Truth.h R01_Truth.si R01_Truth.so x=R01_Truth.B x:=by kernel_rfl
theorem R01_Truth.fn:FnOk PP 194 (Tryz.f194.body.getD .skip) Tryz.f194.results.toList Tryz.f194.ntmps:=fnOk_mk (by kernel_rfl) (by kernel_rfl) (by kernel_rfl) (by kernel_rfl)
theorem R01_Truth.ok:SpecOk PP 194 ⟨1,R01_Truth.si,R01_Truth.so,R01_Truth.F⟩:=fn_stk cxR07_Parser_column (inl0_ok _ _) mixed R01_Truth.fn R01_Truth.h (by kernel_rfl) R01_Truth.ev
noncomputable def spR01_Truth:List (Nat×List (Nat×AK)×Lv.Spec):=(194,[],⟨1,R01_Truth.si,R01_Truth.so,R01_Truth.F⟩)::spR07_Parser_column
noncomputable abbrev cR01_Truth:Cx:=⟨tabAt tab0,eqAt eqs0,specAt spR01_Truth,0,specPAt sq0⟩
theorem cxR01_Truth:CxOk PP cR01_Truth:=cxR07_Parser_column.consS [] R01_Truth.fn.enters R01_Truth.ok
/-! (*levee/leveeref07.Parser).step -/
def R07_Parser_step.si:Sh:=⟨[(0,.v false [.ptr 0 0])],[(0,true,.box 212 [.sl 235 tTok,.int .i64,.bool])],[],1,[]⟩
def R07_Parser_step.so:Sh:=⟨[(0,.v true [.int .i64,.int .i64,.int .i64,.int .i64,.str])],[(0,true,.box 212 [.sl 235 tTok,.int .i64,.bool])],[],1001,[(0,0)]⟩
def R07_Parser_step.h:H:=(.s none .n (.s none .n (.s none .n (.s none .n (.s none .n (.s (some ⟨[(0,.v false [.ptr 0 0])],[(0,true,.box 212 [.sl 235 tTok,.int .i64,.bool])],[2],1,[]⟩) (.s none .n (.b (.l ⟨[(0,.v false [.ptr 0 0]),(4,.v false [.int .i64])],[(0,true,.box 212 [.sl 235 tTok,.int .i64,.bool])],[2,3],1,[]⟩ .n))) (.s none .n (.s none .n (.s (some ⟨[],[],[0,2],0,[]⟩) (.s none .n (.b (.l ⟨[(6,.v false [.int .i64])],[],[0,2,5],0,[]⟩ .n))) .n)))))))))
noncomputable def R07_Parser_step.B:(List tTokT)×Int×Bool×Unit→Option (Int×Int×Int×Int×ByteArray×(List tTokT)×Int×Bool×Unit):=fun (o0_0,o0_1,o0_2,_)=>
  Option.bind (R07_Parser_take.F ((⟨#[110,117,108,108]⟩:ByteArray),o0_0,o0_1,o0_2,())) fun y1=>
  (bif y1.1 then
  Option.bind (R07_Parser_take.F ((⟨#[63]⟩:ByteArray),y1.2.1,y1.2.2.1,y1.2.2.2.1,())) fun y2=>
  (bif y2.1 then
  some ((10:Int),(0:Int),(0:Int),(0:Int),(⟨#[]⟩:ByteArray),y2.2.1,y2.2.2.1,y2.2.2.2.1,())
  else
  some ((1:Int),(0:Int),(0:Int),(0:Int),(⟨#[]⟩:ByteArray),y2.2.1,y2.2.2.1,y2.2.2.2.1,()))
  else
  Option.bind (R07_Parser_take.F ((⟨#[116,114,117,101]⟩:ByteArray),y1.2.1,y1.2.2.1,y1.2.2.2.1,())) fun y3=>
  (bif y3.1 then
  Option.bind (R01_Truth.F (true,())) fun y4=>
  some ((1:Int),(0:Int),y4.1,y4.2.1,y4.2.2.1,y3.2.1,y3.2.2.1,y3.2.2.2.1,())
  else
  Option.bind (R07_Parser_take.F ((⟨#[102,97,108,115,101]⟩:ByteArray),y3.2.1,y3.2.2.1,y3.2.2.2.1,())) fun y5=>
  (bif y5.1 then
  Option.bind (R01_Truth.F (false,())) fun y6=>
  some ((1:Int),(0:Int),y6.1,y6.2.1,y6.2.2.1,y5.2.1,y5.2.2.1,y5.2.2.2.1,())
  else
  Option.bind (
  loopM (S:=Int×(List tTokT)×Int×Bool×Unit) (fun (x4,o0_0_0,o0_0_1,o0_0_2,_)=>
  (bif (decide (x4<(8:Int))) then
  bif (decide (0≤x4)&&decide (x4<([(⟨#[43]⟩:ByteArray),(⟨#[45]⟩:ByteArray),(⟨#[42]⟩:ByteArray),(⟨#[61]⟩:ByteArray),(⟨#[60]⟩:ByteArray),(⟨#[97,110,100]⟩:ByteArray),(⟨#[111,114]⟩:ByteArray),(⟨#[110,111,116]⟩:ByteArray)].length:Int))) then
  let e7:ByteArray:=(List.getD [(⟨#[43]⟩:ByteArray),(⟨#[45]⟩:ByteArray),(⟨#[42]⟩:ByteArray),(⟨#[61]⟩:ByteArray),(⟨#[60]⟩:ByteArray),(⟨#[97,110,100]⟩:ByteArray),(⟨#[111,114]⟩:ByteArray),(⟨#[110,111,116]⟩:ByteArray)] (Int.toNat x4) (⟨#[]⟩:ByteArray))
  Option.bind (R07_Parser_take.F (e7,o0_0_0,o0_0_1,o0_0_2,())) fun y8=>
  (bif y8.1 then
  let e9:Int:=(IntKind.i64.wrap ((2:Int)+x4))
  some (.inr (.inr (e9,(0:Int),(0:Int),(0:Int),(⟨#[]⟩:ByteArray),y8.2.1,y8.2.2.1,y8.2.2.2.1,())))
  else
  let e10:Int:=(IntKind.i64.wrap (x4+(1:Int)))
  some (.inl (e10,y8.2.1,y8.2.2.1,y8.2.2.2.1,())))
  else none
  else
  some (.inr (.inl (o0_0_0,o0_0_1,o0_0_2,()))))) ((0:Int),y5.2.1,y5.2.2.1,y5.2.2.2.1,()):Option (((List tTokT)×Int×Bool×Unit)⊕_)) fun r11=>match r11 with
  | .inl (o0_0_0_11,o0_0_1_11,o0_0_2_11,_)=>
  (Option.bind (R07_Parser_next.F (o0_0_0_11,o0_0_1_11,o0_0_2_11,())) fun y12=>
  (bif (y12.1==(1:Int)) then
  some ((1:Int),(0:Int),y12.2.2.1,y12.2.2.2.1,y12.2.2.2.2.1,y12.2.2.2.2.2.1,y12.2.2.2.2.2.2.1,y12.2.2.2.2.2.2.2.1,())
  else
  Option.bind (
  loopM (S:=Int×Unit) (fun (x6,_)=>
  (bif (decide (x6<(100:Int))) then
  (bif (y12.1==(0:Int)) then
  Option.bind (R01_Signed.F (x6,())) fun y13=>
  bif (!decide ((((⟨#[99]⟩:ByteArray).size+y13.1.size:Nat):Int)>IntKind.i64.max)) then
  let e14:ByteArray:=((⟨#[99]⟩:ByteArray)++y13.1)
  (bif (y12.2.1.toList==e14.toList) then
  some (.inr (.inr ((0:Int),x6,(0:Int),(0:Int),(⟨#[]⟩:ByteArray),y12.2.2.2.2.2.1,y12.2.2.2.2.2.2.1,y12.2.2.2.2.2.2.2.1,())))
  else
  let e15:Int:=(IntKind.i64.wrap (x6+(1:Int)))
  some (.inl (e15,())))
  else none
  else
  let e16:Int:=(IntKind.i64.wrap (x6+(1:Int)))
  some (.inl (e16,())))
  else
  some (.inr (.inl (()))))) ((0:Int),()):Option ((Unit)⊕_)) fun r17=>match r17 with
  | .inl (_)=>
  (some ((0:Int),(0:Int),(0:Int),(0:Int),(⟨#[]⟩:ByteArray),y12.2.2.2.2.2.1,y12.2.2.2.2.2.2.1,false,()))
  | .inr r=>some r))
  | .inr r=>some r)))
noncomputable def R07_Parser_step.F:(List tTokT)×Int×Bool×Unit→Option (Int×Int×Int×Int×ByteArray×(List tTokT)×Int×Bool×Unit):=stk R07_Parser_step.B
theorem R07_Parser_step.eq:R07_Parser_step.F=R07_Parser_step.B:=stk_eq _
theorem R07_Parser_step.ev (x:TS R07_Parser_step.si):evF cR01_Truth inl0 (Tryz.f179.body.getD .skip) Tryz.f179.results.toList R07_Parser_step.h R07_Parser_step.si R07_Parser_step.so x=R07_Parser_step.B x:=by kernel_rfl
theorem R07_Parser_step.fn:FnOk PP 179 (Tryz.f179.body.getD .skip) Tryz.f179.results.toList Tryz.f179.ntmps:=fnOk_mk (by kernel_rfl) (by kernel_rfl) (by kernel_rfl) (by kernel_rfl)
theorem R07_Parser_step.ok:SpecOk PP 179 ⟨1,R07_Parser_step.si,R07_Parser_step.so,R07_Parser_step.F⟩:=fn_stk cxR01_Truth (inl0_ok _ _) mixed R07_Parser_step.fn R07_Parser_step.h (by kernel_rfl) R07_Parser_step.ev
noncomputable def spR07_Parser_step:List (Nat×List (Nat×AK)×Lv.Spec):=(179,[],⟨1,R07_Parser_step.si,R07_Parser_step.so,R07_Parser_step.F⟩)::spR01_Truth
noncomputable abbrev cR07_Parser_step:Cx:=⟨tabAt tab0,eqAt eqs0,specAt spR07_Parser_step,0,specPAt sq0⟩
theorem cxR07_Parser_step:CxOk PP cR07_Parser_step:=cxR01_Truth.consS [] R07_Parser_step.fn.enters R07_Parser_step.ok
/-! (*levee/leveeref07.Parser).expr -/
def R07_Parser_expr.si:Sh:=⟨[(0,.v false [.ptr 0 0])],[(0,true,.box 212 [.sl 235 tTok,.int .i64,.bool])],[],1,[]⟩
def R07_Parser_expr.so:Sh:=⟨[(0,.v false [.ref 1001])],[(0,true,.box 212 [.sl 235 tTok,.int .i64,.bool]),(1001,false,.arr 202 tNode)],[],1002,[(0,0)]⟩
def R07_Parser_expr.h:H:=(.s none .n (.s none .n (.s none .n (.s none (.b (.l ⟨[(0,.v false [.ptr 1 0]),(3,.v false [.ref 0])],[(0,false,.arr 202 tNode),(1,true,.box 212 [.sl 235 tTok,.int .i64,.bool])],[],2,[]⟩ .n)) .n))))
noncomputable def R07_Parser_expr.B:(List tTokT)×Int×Bool×Unit→Option ((List tTokT)×Int×Bool×(List tNodeT)×Unit):=fun (o0_0,o0_1,o0_2,_)=>
  Option.bind (R07_Parser_need.F ((⟨#[91]⟩:ByteArray),o0_0,o0_1,o0_2,())) fun y1=>
  loopM (S:=(List tNodeT)×(List tTokT)×Int×Bool×Unit) (fun (o3_0,o0_0_0,o0_0_1,o0_0_2,_)=>
  (bif o0_0_2 then
  Option.bind (R07_Parser_take.F ((⟨#[93]⟩:ByteArray),o0_0_0,o0_0_1,o0_0_2,())) fun y2=>
  (bif (!y2.1) then
  Option.bind (R07_Parser_step.F (y2.2.1,y2.2.2.1,y2.2.2.2.1,())) fun y3=>
  bif (Nat.ble (o3_0.length+ [(y3.1,(y3.2.1,(y3.2.2.1,(y3.2.2.2.1,y3.2.2.2.2.1))))].length) 2932031007402) then
  (bif (decide (((o3_0++ [(y3.1,(y3.2.1,(y3.2.2.1,(y3.2.2.2.1,y3.2.2.2.2.1))))]).length:Int)>(100:Int))) then
  some (.inl ((o3_0++ [(y3.1,(y3.2.1,(y3.2.2.1,(y3.2.2.2.1,y3.2.2.2.2.1))))]),y3.2.2.2.2.2.1,y3.2.2.2.2.2.2.1,false,()))
  else
  some (.inl ((o3_0++ [(y3.1,(y3.2.1,(y3.2.2.1,(y3.2.2.2.1,y3.2.2.2.2.1))))]),y3.2.2.2.2.2.1,y3.2.2.2.2.2.2.1,y3.2.2.2.2.2.2.2.1,())))
  else none
  else
  some (.inr (y2.2.1,y2.2.2.1,y2.2.2.2.1,o3_0,())))
  else
  some (.inr (o0_0_0,o0_0_1,o0_0_2,o3_0,())))) (([]:List tNodeT),y1.1,y1.2.1,y1.2.2.1,())
noncomputable def R07_Parser_expr.F:(List tTokT)×Int×Bool×Unit→Option ((List tTokT)×Int×Bool×(List tNodeT)×Unit):=stk R07_Parser_expr.B
theorem R07_Parser_expr.eq:R07_Parser_expr.F=R07_Parser_expr.B:=stk_eq _
theorem R07_Parser_expr.ev (x:TS R07_Parser_expr.si):evF cR07_Parser_step inl0 (Tryz.f156.body.getD .skip) Tryz.f156.results.toList R07_Parser_expr.h R07_Parser_expr.si R07_Parser_expr.so x=R07_Parser_expr.B x:=by kernel_rfl
theorem R07_Parser_expr.fn:FnOk PP 156 (Tryz.f156.body.getD .skip) Tryz.f156.results.toList Tryz.f156.ntmps:=fnOk_mk (by kernel_rfl) (by kernel_rfl) (by kernel_rfl) (by kernel_rfl)
theorem R07_Parser_expr.ok:SpecOk PP 156 ⟨1,R07_Parser_expr.si,R07_Parser_expr.so,R07_Parser_expr.F⟩:=fn_stk cxR07_Parser_step (inl0_ok _ _) mixed R07_Parser_expr.fn R07_Parser_expr.h (by kernel_rfl) R07_Parser_expr.ev
noncomputable def spR07_Parser_expr:List (Nat×List (Nat×AK)×Lv.Spec):=(156,[],⟨1,R07_Parser_expr.si,R07_Parser_expr.so,R07_Parser_expr.F⟩)::spR07_Parser_step
noncomputable abbrev cR07_Parser_expr:Cx:=⟨tabAt tab0,eqAt eqs0,specAt spR07_Parser_expr,0,specPAt sq0⟩
theorem cxR07_Parser_expr:CxOk PP cR07_Parser_expr:=cxR07_Parser_step.consS [] R07_Parser_expr.fn.enters R07_Parser_expr.ok
/-! (*levee/leveeref07.Parser).table -/
def R07_Parser_table.si:Sh:=⟨[(0,.v false [.ptr 0 0])],[(0,true,.box 212 [.sl 235 tTok,.int .i64,.bool])],[],1,[]⟩
def R07_Parser_table.so:Sh:=⟨[(0,.v true [.str,.ref 1001,.ref 1002])],[(0,true,.box 212 [.sl 235 tTok,.int .i64,.bool]),(1001,false,.arr 97 tColumn),(1002,false,.arr 104 (.sl 202 tNode))],[],1003,[(0,0)]⟩
def R07_Parser_table.h:H:=(.s none .n (.s none .n (.s none .n (.s none .n (.s (some ⟨[(0,.v false [.ptr 0 0]),(3,.v false [.ptr 1 0])],[(0,true,.box 212 [.sl 235 tTok,.int .i64,.bool]),(1,true,.box 101 [.str,.ref 2,.ref 3]),(2,false,.arr 97 tColumn),(3,false,.arr 104 (.sl 202 tNode))],[2],4,[]⟩) (.b (.l ⟨[(0,.v false [.ptr 0 0]),(3,.v false [.ptr 1 0])],[(0,true,.box 212 [.sl 235 tTok,.int .i64,.bool]),(1,true,.box 101 [.str,.ref 2,.ref 3]),(2,false,.arr 97 tColumn),(3,false,.arr 104 (.sl 202 tNode))],[2],4,[]⟩ .n)) (.s none .n (.s (some ⟨[(0,.v false [.ptr 0 0]),(3,.v false [.ptr 1 0])],[(0,true,.box 212 [.sl 235 tTok,.int .i64,.bool]),(1,true,.box 101 [.str,.ref 2,.ref 3]),(2,false,.arr 97 tColumn),(3,false,.arr 104 (.sl 202 tNode))],[2],4,[]⟩) (.b (.l ⟨[(0,.v false [.ptr 0 0]),(3,.v false [.ptr 1 0])],[(0,true,.box 212 [.sl 235 tTok,.int .i64,.bool]),(1,true,.box 101 [.str,.ref 2,.ref 3]),(2,false,.arr 97 tColumn),(3,false,.arr 104 (.sl 202 tNode))],[2],4,[]⟩ .n)) .n)))))))
noncomputable def R07_Parser_table.B:(List tTokT)×Int×Bool×Unit→Option (ByteArray×(List tTokT)×Int×Bool×(List tColumnT)×(List (List tNodeT))×Unit):=fun (o0_0,o0_1,o0_2,_)=>
  Option.bind (R07_Parser_name.F (o0_0,o0_1,o0_2,())) fun y1=>
  Option.bind (R07_Parser_need.F ((⟨#[40]⟩:ByteArray),y1.2.1,y1.2.2.1,y1.2.2.2.1,())) fun y2=>
  Option.bind (R07_Parser_column.F (y2.1,y2.2.1,y2.2.2.1,())) fun y3=>
  bif (Nat.ble [(y3.1,(y3.2.1,(y3.2.2.1,(y3.2.2.2.1,(y3.2.2.2.2.1,y3.2.2.2.2.2.1)))))].length 2513169434916) then
  Option.bind (
  loopM (S:=(List tTokT)×Int×Bool×ByteArray×(List tColumnT)×(List (List tNodeT))×Unit) (fun (o0_0_0,o0_0_1,o0_0_2,o3_0_0,o3_0_1,o3_0_2,_)=>
  (bif o0_0_2 then
  Option.bind (R07_Parser_take.F ((⟨#[44]⟩:ByteArray),o0_0_0,o0_0_1,o0_0_2,())) fun y4=>
  (bif y4.1 then
  Option.bind (R07_Parser_column.F (y4.2.1,y4.2.2.1,y4.2.2.2.1,())) fun y5=>
  bif (Nat.ble (o3_0_1.length+ [(y5.1,(y5.2.1,(y5.2.2.1,(y5.2.2.2.1,(y5.2.2.2.2.1,y5.2.2.2.2.2.1)))))].length) 2513169434916) then
  some (.inl (y5.2.2.2.2.2.2.1,y5.2.2.2.2.2.2.2.1,y5.2.2.2.2.2.2.2.2.1,o3_0_0,(o3_0_1++ [(y5.1,(y5.2.1,(y5.2.2.1,(y5.2.2.2.1,(y5.2.2.2.2.1,y5.2.2.2.2.2.1)))))]),o3_0_2,()))
  else none
  else
  some (.inr (.inl (y4.2.1,y4.2.2.1,y4.2.2.2.1,o3_0_0,o3_0_1,o3_0_2,()))))
  else
  some (.inr (.inl (o0_0_0,o0_0_1,o0_0_2,o3_0_0,o3_0_1,o3_0_2,()))))) (y3.2.2.2.2.2.2.1,y3.2.2.2.2.2.2.2.1,y3.2.2.2.2.2.2.2.2.1,y1.1,[(y3.1,(y3.2.1,(y3.2.2.1,(y3.2.2.2.1,(y3.2.2.2.2.1,y3.2.2.2.2.2.1)))))],[],()):Option (((List tTokT)×Int×Bool×ByteArray×(List tColumnT)×(List (List tNodeT))×Unit)⊕_)) fun r6=>match r6 with
  | .inl (o0_0_0_6,o0_0_1_6,o0_0_2_6,o3_0_0_6,o3_0_1_6,o3_0_2_6,_)=>
  (Option.bind (R07_Parser_need.F ((⟨#[41]⟩:ByteArray),o0_0_0_6,o0_0_1_6,o0_0_2_6,())) fun y7=>
  Option.bind (
  loopM (S:=(List tTokT)×Int×Bool×ByteArray×(List tColumnT)×(List (List tNodeT))×Unit) (fun (o0_0_0,o0_0_1,o0_0_2,o3_0_0,o3_0_1,o3_0_2,_)=>
  (bif o0_0_2 then
  Option.bind (R07_Parser_take.F ((⟨#[99,104,101,99,107]⟩:ByteArray),o0_0_0,o0_0_1,o0_0_2,())) fun y8=>
  (bif y8.1 then
  Option.bind (R07_Parser_expr.F (y8.2.1,y8.2.2.1,y8.2.2.2.1,())) fun y9=>
  bif (Nat.ble (o3_0_2.length+ [y9.2.2.2.1].length) 5864062014805) then
  some (.inl (y9.1,y9.2.1,y9.2.2.1,o3_0_0,o3_0_1,(o3_0_2++ [y9.2.2.2.1]),()))
  else none
  else
  some (.inr (.inl (y8.2.1,y8.2.2.1,y8.2.2.2.1,o3_0_0,o3_0_1,o3_0_2,()))))
  else
  some (.inr (.inl (o0_0_0,o0_0_1,o0_0_2,o3_0_0,o3_0_1,o3_0_2,()))))) (y7.1,y7.2.1,y7.2.2.1,o3_0_0_6,o3_0_1_6,o3_0_2_6,()):Option (((List tTokT)×Int×Bool×ByteArray×(List tColumnT)×(List (List tNodeT))×Unit)⊕_)) fun r10=>match r10 with
  | .inl (o0_0_0_10,o0_0_1_10,o0_0_2_10,o3_0_0_10,o3_0_1_10,o3_0_2_10,_)=>
  ((bif (decide ((o3_0_1_10.length:Int)>(40:Int))) then
  some (o3_0_0_10,o0_0_0_10,o0_0_1_10,false,o3_0_1_10,o3_0_2_10,())
  else
  (bif (decide ((o3_0_2_10.length:Int)>(40:Int))) then
  some (o3_0_0_10,o0_0_0_10,o0_0_1_10,false,o3_0_1_10,o3_0_2_10,())
  else
  some (o3_0_0_10,o0_0_0_10,o0_0_1_10,o0_0_2_10,o3_0_1_10,o3_0_2_10,()))))
  | .inr r=>some r)
  | .inr r=>some r
  else none
noncomputable def R07_Parser_table.F:(List tTokT)×Int×Bool×Unit→Option (ByteArray×(List tTokT)×Int×Bool×(List tColumnT)×(List (List tNodeT))×Unit):=stk R07_Parser_table.B
theorem R07_Parser_table.eq:R07_Parser_table.F=R07_Parser_table.B:=stk_eq _
theorem R07_Parser_table.ev (x:TS R07_Parser_table.si):evF cR07_Parser_expr inl0 (Tryz.f123.body.getD .skip) Tryz.f123.results.toList R07_Parser_table.h R07_Parser_table.si R07_Parser_table.so x=R07_Parser_table.B x:=by kernel_rfl
theorem R07_Parser_table.fn:FnOk PP 123 (Tryz.f123.body.getD .skip) Tryz.f123.results.toList Tryz.f123.ntmps:=fnOk_mk (by kernel_rfl) (by kernel_rfl) (by kernel_rfl) (by kernel_rfl)
theorem R07_Parser_table.ok:SpecOk PP 123 ⟨1,R07_Parser_table.si,R07_Parser_table.so,R07_Parser_table.F⟩:=fn_stk cxR07_Parser_expr (inl0_ok _ _) mixed R07_Parser_table.fn R07_Parser_table.h (by kernel_rfl) R07_Parser_table.ev
noncomputable def spR07_Parser_table:List (Nat×List (Nat×AK)×Lv.Spec):=(123,[],⟨1,R07_Parser_table.si,R07_Parser_table.so,R07_Parser_table.F⟩)::spR07_Parser_expr
noncomputable abbrev cR07_Parser_table:Cx:=⟨tabAt tab0,eqAt eqs0,specAt spR07_Parser_table,0,specPAt sq0⟩
theorem cxR07_Parser_table:CxOk PP cR07_Parser_table:=cxR07_Parser_expr.consS [] R07_Parser_table.fn.enters R07_Parser_table.ok
/-! (*levee/leveeref07.Parser).col -/
def R07_Parser_col.si:Sh:=⟨[(0,.v false [.ptr 0 0])],[(0,true,.box 212 [.sl 235 tTok,.int .i64,.bool])],[],1,[]⟩
def R07_Parser_col.so:Sh:=⟨[(0,.v false [.int .i64])],[(0,true,.box 212 [.sl 235 tTok,.int .i64,.bool])],[],1001,[(0,0)]⟩
def R07_Parser_col.h:H:=(.s none .n (.s none .n (.s none (.s (some ⟨[(26,.v false [.bool])],[],[0,3],0,[]⟩) .n .n) .n)))
noncomputable def R07_Parser_col.B:(List tTokT)×Int×Bool×Unit→Option (Int×(List tTokT)×Int×Bool×Unit):=fun (o0_0,o0_1,o0_2,_)=>
  Option.bind (R07_Parser_next.F (o0_0,o0_1,o0_2,())) fun y1=>
  Option.bind (
  (bif (y1.1 !=(1:Int)) then
  some (.inl (true,()))
  else
  (bif (y1.2.2.1 !=(2:Int)) then
  some (.inl (true,()))
  else
  (bif (decide (y1.2.2.2.1<(0:Int))) then
  some (.inl (true,()))
  else
  some (.inl ((decide (y1.2.2.2.1>(99:Int))),()))))):Option ((Bool×Unit)⊕_)) fun r2=>match r2 with
  | .inl (x26_2,_)=>
  ((bif x26_2 then
  some (y1.2.2.2.1,y1.2.2.2.2.2.1,y1.2.2.2.2.2.2.1,false,())
  else
  some (y1.2.2.2.1,y1.2.2.2.2.2.1,y1.2.2.2.2.2.2.1,y1.2.2.2.2.2.2.2.1,())))
  | .inr r=>some r
noncomputable def R07_Parser_col.F:(List tTokT)×Int×Bool×Unit→Option (Int×(List tTokT)×Int×Bool×Unit):=stk R07_Parser_col.B
theorem R07_Parser_col.eq:R07_Parser_col.F=R07_Parser_col.B:=stk_eq _
theorem R07_Parser_col.ev (x:TS R07_Parser_col.si):evF cR07_Parser_table inl0 (Tryz.f157.body.getD .skip) Tryz.f157.results.toList R07_Parser_col.h R07_Parser_col.si R07_Parser_col.so x=R07_Parser_col.B x:=by kernel_rfl
theorem R07_Parser_col.fn:FnOk PP 157 (Tryz.f157.body.getD .skip) Tryz.f157.results.toList Tryz.f157.ntmps:=fnOk_mk (by kernel_rfl) (by kernel_rfl) (by kernel_rfl) (by kernel_rfl)
theorem R07_Parser_col.ok:SpecOk PP 157 ⟨1,R07_Parser_col.si,R07_Parser_col.so,R07_Parser_col.F⟩:=fn_stk cxR07_Parser_table (inl0_ok _ _) mixed R07_Parser_col.fn R07_Parser_col.h (by kernel_rfl) R07_Parser_col.ev
noncomputable def spR07_Parser_col:List (Nat×List (Nat×AK)×Lv.Spec):=(157,[],⟨1,R07_Parser_col.si,R07_Parser_col.so,R07_Parser_col.F⟩)::spR07_Parser_table
noncomputable abbrev cR07_Parser_col:Cx:=⟨tabAt tab0,eqAt eqs0,specAt spR07_Parser_col,0,specPAt sq0⟩
theorem cxR07_Parser_col:CxOk PP cR07_Parser_col:=cxR07_Parser_table.consS [] R07_Parser_col.fn.enters R07_Parser_col.ok
/-! (*levee/leveeref07.Parser).agg -/
def R07_Parser_agg.si:Sh:=⟨[(0,.v false [.ptr 0 0])],[(0,true,.box 212 [.sl 235 tTok,.int .i64,.bool])],[],1,[]⟩
def R07_Parser_agg.so:Sh:=⟨[(0,.v true [.int .i64,.int .i64])],[(0,true,.box 212 [.sl 235 tTok,.int .i64,.bool])],[],1001,[(0,0)]⟩
def R07_Parser_agg.h:H:=.n
noncomputable def R07_Parser_agg.B:(List tTokT)×Int×Bool×Unit→Option (Int×Int×(List tTokT)×Int×Bool×Unit):=fun (o0_0,o0_1,o0_2,_)=>
  Option.bind (R07_Parser_one.F ([(⟨#[99,111,117,110,116]⟩:ByteArray),(⟨#[115,117,109]⟩:ByteArray),(⟨#[109,105,110]⟩:ByteArray),(⟨#[109,97,120]⟩:ByteArray)],o0_0,o0_1,o0_2,())) fun y1=>
  (bif (y1.1 !=(0:Int)) then
  Option.bind (R07_Parser_col.F (y1.2.1,y1.2.2.1,y1.2.2.2.1,())) fun y2=>
  some (y1.1,y2.1,y2.2.1,y2.2.2.1,y2.2.2.2.1,())
  else
  some (y1.1,(0:Int),y1.2.1,y1.2.2.1,y1.2.2.2.1,()))
noncomputable def R07_Parser_agg.F:(List tTokT)×Int×Bool×Unit→Option (Int×Int×(List tTokT)×Int×Bool×Unit):=stk R07_Parser_agg.B
theorem R07_Parser_agg.eq:R07_Parser_agg.F=R07_Parser_agg.B:=stk_eq _
theorem R07_Parser_agg.ev (x:TS R07_Parser_agg.si):evF cR07_Parser_col inl0 (Tryz.f159.body.getD .skip) Tryz.f159.results.toList R07_Parser_agg.h R07_Parser_agg.si R07_Parser_agg.so x=R07_Parser_agg.B x:=by kernel_rfl
theorem R07_Parser_agg.fn:FnOk PP 159 (Tryz.f159.body.getD .skip) Tryz.f159.results.toList Tryz.f159.ntmps:=fnOk_mk (by kernel_rfl) (by kernel_rfl) (by kernel_rfl) (by kernel_rfl)
theorem R07_Parser_agg.ok:SpecOk PP 159 ⟨1,R07_Parser_agg.si,R07_Parser_agg.so,R07_Parser_agg.F⟩:=fn_stk cxR07_Parser_col (inl0_ok _ _) mixed R07_Parser_agg.fn R07_Parser_agg.h (by kernel_rfl) R07_Parser_agg.ev
noncomputable def spR07_Parser_agg:List (Nat×List (Nat×AK)×Lv.Spec):=(159,[],⟨1,R07_Parser_agg.si,R07_Parser_agg.so,R07_Parser_agg.F⟩)::spR07_Parser_col
noncomputable abbrev cR07_Parser_agg:Cx:=⟨tabAt tab0,eqAt eqs0,specAt spR07_Parser_agg,0,specPAt sq0⟩
theorem cxR07_Parser_agg:CxOk PP cR07_Parser_agg:=cxR07_Parser_col.consS [] R07_Parser_agg.fn.enters R07_Parser_agg.ok
/-! (*levee/leveeref07.Parser).view -/
def R07_Parser_view.si:Sh:=⟨[(0,.v false [.ptr 0 0])],[(0,true,.box 212 [.sl 235 tTok,.int .i64,.bool])],[],1,[]⟩
def R07_Parser_view.so:Sh:=⟨[(0,.v true [.str,.str,.str,.int .i64,.int .i64,.ref 1001,.ref 1002,.bool,.ref 1003])],[(0,true,.box 212 [.sl 235 tTok,.int .i64,.bool]),(1001,false,.arr 202 tNode),(1002,false,.arr 3 (.int .i64)),(1003,false,.arr 206 tAgg)],[],1004,[(0,0)]⟩
def R07_Parser_view.h:H:=(.s none .n (.s none .n (.s none .n (.s none .n (.s (some ⟨[(0,.v false [.ptr 0 0]),(3,.v false [.ptr 1 0])],[(0,true,.box 212 [.sl 235 tTok,.int .i64,.bool]),(1,true,.box 108 [.str,.str,.str,.int .i64,.int .i64,.ref 2,.ref 3,.bool,.ref 4]),(2,false,.arr 202 tNode),(3,false,.arr 3 (.int .i64)),(4,false,.arr 206 tAgg)],[2],5,[]⟩) .n (.s (some ⟨[(0,.v false [.ptr 0 0]),(3,.v false [.ptr 1 0])],[(0,true,.box 212 [.sl 235 tTok,.int .i64,.bool]),(1,true,.box 108 [.str,.str,.str,.int .i64,.int .i64,.ref 2,.ref 3,.bool,.ref 4]),(2,false,.arr 202 tNode),(3,false,.arr 3 (.int .i64)),(4,false,.arr 206 tAgg)],[2],5,[]⟩) .n (.s none .n (.s (some ⟨[(0,.v false [.ptr 0 0]),(3,.v false [.ptr 1 0])],[(0,true,.box 212 [.sl 235 tTok,.int .i64,.bool]),(1,true,.box 108 [.str,.str,.str,.int .i64,.int .i64,.ref 2,.ref 3,.bool,.ref 4]),(2,false,.arr 202 tNode),(3,false,.arr 3 (.int .i64)),(4,false,.arr 206 tAgg)],[2],5,[]⟩) (.s (some ⟨[(0,.v false [.ptr 0 0]),(52,.v false [.bool])],[(0,true,.box 212 [.sl 235 tTok,.int .i64,.bool])],[2,3],1,[]⟩) .n (.c (.s none .n (.b (.l ⟨[(0,.v false [.ptr 0 0]),(3,.v false [.ptr 1 0])],[(0,true,.box 212 [.sl 235 tTok,.int .i64,.bool]),(1,true,.box 108 [.str,.str,.str,.int .i64,.int .i64,.ref 2,.ref 3,.bool,.ref 4]),(2,false,.arr 202 tNode),(3,false,.arr 3 (.int .i64)),(4,false,.arr 206 tAgg)],[2],5,[]⟩ .n))) .n)) (.s none .n (.s (some ⟨[(0,.v false [.ptr 0 0]),(3,.v false [.ptr 1 0])],[(0,true,.box 212 [.sl 235 tTok,.int .i64,.bool]),(1,true,.box 108 [.str,.str,.str,.int .i64,.int .i64,.ref 2,.ref 3,.bool,.ref 4]),(2,false,.arr 202 tNode),(3,false,.arr 3 (.int .i64)),(4,false,.arr 206 tAgg)],[2],5,[]⟩) (.s (some ⟨[(91,.v false [.bool])],[],[0,2,3],0,[]⟩) .n (.c (.s none .n (.b (.l ⟨[(0,.v false [.ptr 0 0]),(3,.v false [.ptr 1 0])],[(0,true,.box 212 [.sl 235 tTok,.int .i64,.bool]),(1,true,.box 108 [.str,.str,.str,.int .i64,.int .i64,.ref 2,.ref 3,.bool,.ref 4]),(2,false,.arr 202 tNode),(3,false,.arr 3 (.int .i64)),(4,false,.arr 206 tAgg)],[2],5,[]⟩ .n))) .n)) .n))))))))))
noncomputable def R07_Parser_view.B:(List tTokT)×Int×Bool×Unit→Option (ByteArray×ByteArray×ByteArray×Int×Int×Bool×(List tTokT)×Int×Bool×(List tNodeT)×(List Int)×(List tAggT)×Unit):=fun (o0_0,o0_1,o0_2,_)=>
  Option.bind (R07_Parser_name.F (o0_0,o0_1,o0_2,())) fun y1=>
  Option.bind (R07_Parser_need.F ((⟨#[102,114,111,109]⟩:ByteArray),y1.2.1,y1.2.2.1,y1.2.2.2.1,())) fun y2=>
  Option.bind (R07_Parser_name.F (y2.1,y2.2.1,y2.2.2.1,())) fun y3=>
  Option.bind (
  Option.bind (R07_Parser_take.F ((⟨#[106,111,105,110]⟩:ByteArray),y3.2.1,y3.2.2.1,y3.2.2.2.1,())) fun y4=>
  (bif y4.1 then
  Option.bind (R07_Parser_name.F (y4.2.1,y4.2.2.1,y4.2.2.2.1,())) fun y5=>
  Option.bind (R07_Parser_need.F ((⟨#[111,110]⟩:ByteArray),y5.2.1,y5.2.2.1,y5.2.2.2.1,())) fun y6=>
  Option.bind (R07_Parser_col.F (y6.1,y6.2.1,y6.2.2.1,())) fun y7=>
  Option.bind (R07_Parser_need.F ((⟨#[61]⟩:ByteArray),y7.2.1,y7.2.2.1,y7.2.2.2.1,())) fun y8=>
  Option.bind (R07_Parser_col.F (y8.1,y8.2.1,y8.2.2.1,())) fun y9=>
  some (.inl (y9.2.1,y9.2.2.1,y9.2.2.2.1,y1.1,y3.1,y5.1,y7.1,y9.1,false,[],[],[],()))
  else
  some (.inl (y4.2.1,y4.2.2.1,y4.2.2.2.1,y1.1,y3.1,(⟨#[]⟩:ByteArray),(0:Int),(0:Int),false,[],[],[],()))):Option (((List tTokT)×Int×Bool×ByteArray×ByteArray×ByteArray×Int×Int×Bool×(List tNodeT)×(List Int)×(List tAggT)×Unit)⊕_)) fun r10=>match r10 with
  | .inl (o0_0_0_10,o0_0_1_10,o0_0_2_10,o3_0_0_10,o3_0_1_10,o3_0_2_10,o3_0_3_10,o3_0_4_10,o3_0_7_10,o3_0_5_10,o3_0_6_10,o3_0_8_10,_)=>
  (Option.bind (
  Option.bind (R07_Parser_take.F ((⟨#[119,104,101,114,101]⟩:ByteArray),o0_0_0_10,o0_0_1_10,o0_0_2_10,())) fun y11=>
  (bif y11.1 then
  Option.bind (R07_Parser_expr.F (y11.2.1,y11.2.2.1,y11.2.2.2.1,())) fun y12=>
  some (.inl (y12.1,y12.2.1,y12.2.2.1,o3_0_0_10,o3_0_1_10,o3_0_2_10,o3_0_3_10,o3_0_4_10,o3_0_7_10,y12.2.2.2.1,o3_0_6_10,o3_0_8_10,()))
  else
  some (.inl (y11.2.1,y11.2.2.1,y11.2.2.2.1,o3_0_0_10,o3_0_1_10,o3_0_2_10,o3_0_3_10,o3_0_4_10,o3_0_7_10,o3_0_5_10,o3_0_6_10,o3_0_8_10,()))):Option (((List tTokT)×Int×Bool×ByteArray×ByteArray×ByteArray×Int×Int×Bool×(List tNodeT)×(List Int)×(List tAggT)×Unit)⊕_)) fun r13=>match r13 with
  | .inl (o0_0_0_13,o0_0_1_13,o0_0_2_13,o3_0_0_13,o3_0_1_13,o3_0_2_13,o3_0_3_13,o3_0_4_13,o3_0_7_13,o3_0_5_13,o3_0_6_13,o3_0_8_13,_)=>
  (Option.bind (R07_Parser_need.F ((⟨#[112,105,99,107]⟩:ByteArray),o0_0_0_13,o0_0_1_13,o0_0_2_13,())) fun y14=>
  Option.bind (
  Option.bind (
  (bif (decide (y14.2.1<(y14.1.length:Int))) then
  Option.bind (R07_Parser_is.F ((⟨#[103,114,111,117,112]⟩:ByteArray),y14.1,y14.2.1,y14.2.2.1,())) fun y15=>
  some (.inl ((!y15.1),y15.2.1,y15.2.2.1,y15.2.2.2.1,()))
  else
  some (.inl (false,y14.1,y14.2.1,y14.2.2.1,()))):Option ((Bool×(List tTokT)×Int×Bool×Unit)⊕_)) fun r16=>match r16 with
  | .inl (x52_16,o0_0_0_16,o0_0_1_16,o0_0_2_16,_)=>
  ((bif x52_16 then
  Option.bind (R07_Parser_col.F (o0_0_0_16,o0_0_1_16,o0_0_2_16,())) fun y17=>
  bif (Nat.ble (o3_0_6_13.length+ [y17.1].length) 17592186044416) then
  loopM (S:=(List tTokT)×Int×Bool×ByteArray×ByteArray×ByteArray×Int×Int×Bool×(List tNodeT)×(List Int)×(List tAggT)×Unit) (fun (o0_0_0,o0_0_1,o0_0_2,o3_0_0,o3_0_1,o3_0_2,o3_0_3,o3_0_4,o3_0_7,o3_0_5,o3_0_6,o3_0_8,_)=>
  (bif o0_0_2 then
  Option.bind (R07_Parser_take.F ((⟨#[44]⟩:ByteArray),o0_0_0,o0_0_1,o0_0_2,())) fun y18=>
  (bif y18.1 then
  Option.bind (R07_Parser_col.F (y18.2.1,y18.2.2.1,y18.2.2.2.1,())) fun y19=>
  bif (Nat.ble (o3_0_6.length+ [y19.1].length) 17592186044416) then
  some (.inl (y19.2.1,y19.2.2.1,y19.2.2.2.1,o3_0_0,o3_0_1,o3_0_2,o3_0_3,o3_0_4,o3_0_7,o3_0_5,(o3_0_6++ [y19.1]),o3_0_8,()))
  else none
  else
  some (.inr (.inl (y18.2.1,y18.2.2.1,y18.2.2.2.1,o3_0_0,o3_0_1,o3_0_2,o3_0_3,o3_0_4,o3_0_7,o3_0_5,o3_0_6,o3_0_8,()))))
  else
  some (.inr (.inl (o0_0_0,o0_0_1,o0_0_2,o3_0_0,o3_0_1,o3_0_2,o3_0_3,o3_0_4,o3_0_7,o3_0_5,o3_0_6,o3_0_8,()))))) (y17.2.1,y17.2.2.1,y17.2.2.2.1,o3_0_0_13,o3_0_1_13,o3_0_2_13,o3_0_3_13,o3_0_4_13,o3_0_7_13,o3_0_5_13,(o3_0_6_13++ [y17.1]),o3_0_8_13,())
  else none
  else
  some (.inl (o0_0_0_16,o0_0_1_16,o0_0_2_16,o3_0_0_13,o3_0_1_13,o3_0_2_13,o3_0_3_13,o3_0_4_13,o3_0_7_13,o3_0_5_13,o3_0_6_13,o3_0_8_13,()))))
  | .inr r=>some r:Option (((List tTokT)×Int×Bool×ByteArray×ByteArray×ByteArray×Int×Int×Bool×(List tNodeT)×(List Int)×(List tAggT)×Unit)⊕_)) fun r20=>match r20 with
  | .inl (o0_0_0_20,o0_0_1_20,o0_0_2_20,o3_0_0_20,o3_0_1_20,o3_0_2_20,o3_0_3_20,o3_0_4_20,o3_0_7_20,o3_0_5_20,o3_0_6_20,o3_0_8_20,_)=>
  (Option.bind (R07_Parser_take.F ((⟨#[103,114,111,117,112]⟩:ByteArray),o0_0_0_20,o0_0_1_20,o0_0_2_20,())) fun y21=>
  Option.bind (
  Option.bind (
  (bif y21.1 then
  some (.inl ((decide (y21.2.2.1<(y21.2.1.length:Int))),()))
  else
  some (.inl (false,()))):Option ((Bool×Unit)⊕_)) fun r22=>match r22 with
  | .inl (x91_22,_)=>
  ((bif x91_22 then
  Option.bind (R07_Parser_agg.F (y21.2.1,y21.2.2.1,y21.2.2.2.1,())) fun y23=>
  bif (Nat.ble (o3_0_8_20.length+ [(y23.1,y23.2.1)].length) 8796093022208) then
  loopM (S:=(List tTokT)×Int×Bool×ByteArray×ByteArray×ByteArray×Int×Int×Bool×(List tNodeT)×(List Int)×(List tAggT)×Unit) (fun (o0_0_0,o0_0_1,o0_0_2,o3_0_0,o3_0_1,o3_0_2,o3_0_3,o3_0_4,o3_0_7,o3_0_5,o3_0_6,o3_0_8,_)=>
  (bif o0_0_2 then
  Option.bind (R07_Parser_take.F ((⟨#[44]⟩:ByteArray),o0_0_0,o0_0_1,o0_0_2,())) fun y24=>
  (bif y24.1 then
  Option.bind (R07_Parser_agg.F (y24.2.1,y24.2.2.1,y24.2.2.2.1,())) fun y25=>
  bif (Nat.ble (o3_0_8.length+ [(y25.1,y25.2.1)].length) 8796093022208) then
  some (.inl (y25.2.2.1,y25.2.2.2.1,y25.2.2.2.2.1,o3_0_0,o3_0_1,o3_0_2,o3_0_3,o3_0_4,o3_0_7,o3_0_5,o3_0_6,(o3_0_8++ [(y25.1,y25.2.1)]),()))
  else none
  else
  some (.inr (.inl (y24.2.1,y24.2.2.1,y24.2.2.2.1,o3_0_0,o3_0_1,o3_0_2,o3_0_3,o3_0_4,o3_0_7,o3_0_5,o3_0_6,o3_0_8,()))))
  else
  some (.inr (.inl (o0_0_0,o0_0_1,o0_0_2,o3_0_0,o3_0_1,o3_0_2,o3_0_3,o3_0_4,o3_0_7,o3_0_5,o3_0_6,o3_0_8,()))))) (y23.2.2.1,y23.2.2.2.1,y23.2.2.2.2.1,o3_0_0_20,o3_0_1_20,o3_0_2_20,o3_0_3_20,o3_0_4_20,y21.1,o3_0_5_20,o3_0_6_20,(o3_0_8_20++ [(y23.1,y23.2.1)]),())
  else none
  else
  some (.inl (y21.2.1,y21.2.2.1,y21.2.2.2.1,o3_0_0_20,o3_0_1_20,o3_0_2_20,o3_0_3_20,o3_0_4_20,y21.1,o3_0_5_20,o3_0_6_20,o3_0_8_20,()))))
  | .inr r=>some r:Option (((List tTokT)×Int×Bool×ByteArray×ByteArray×ByteArray×Int×Int×Bool×(List tNodeT)×(List Int)×(List tAggT)×Unit)⊕_)) fun r26=>match r26 with
  | .inl (o0_0_0_26,o0_0_1_26,o0_0_2_26,o3_0_0_26,o3_0_1_26,o3_0_2_26,o3_0_3_26,o3_0_4_26,o3_0_7_26,o3_0_5_26,o3_0_6_26,o3_0_8_26,_)=>
  ((bif (decide ((o3_0_6_26.length:Int)>(40:Int))) then
  some (o3_0_0_26,o3_0_1_26,o3_0_2_26,o3_0_3_26,o3_0_4_26,o3_0_7_26,o0_0_0_26,o0_0_1_26,false,o3_0_5_26,o3_0_6_26,o3_0_8_26,())
  else
  (bif (decide ((o3_0_8_26.length:Int)>(40:Int))) then
  some (o3_0_0_26,o3_0_1_26,o3_0_2_26,o3_0_3_26,o3_0_4_26,o3_0_7_26,o0_0_0_26,o0_0_1_26,false,o3_0_5_26,o3_0_6_26,o3_0_8_26,())
  else
  some (o3_0_0_26,o3_0_1_26,o3_0_2_26,o3_0_3_26,o3_0_4_26,o3_0_7_26,o0_0_0_26,o0_0_1_26,o0_0_2_26,o3_0_5_26,o3_0_6_26,o3_0_8_26,()))))
  | .inr r=>some r)
  | .inr r=>some r)
  | .inr r=>some r)
  | .inr r=>some r
noncomputable def R07_Parser_view.F:(List tTokT)×Int×Bool×Unit→Option (ByteArray×ByteArray×ByteArray×Int×Int×Bool×(List tTokT)×Int×Bool×(List tNodeT)×(List Int)×(List tAggT)×Unit):=stk R07_Parser_view.B
theorem R07_Parser_view.eq:R07_Parser_view.F=R07_Parser_view.B:=stk_eq _
theorem R07_Parser_view.ev (x:TS R07_Parser_view.si):evF cR07_Parser_agg inl0 (Tryz.f124.body.getD .skip) Tryz.f124.results.toList R07_Parser_view.h R07_Parser_view.si R07_Parser_view.so x=R07_Parser_view.B x:=by kernel_rfl
theorem R07_Parser_view.fn:FnOk PP 124 (Tryz.f124.body.getD .skip) Tryz.f124.results.toList Tryz.f124.ntmps:=fnOk_mk (by kernel_rfl) (by kernel_rfl) (by kernel_rfl) (by kernel_rfl)
theorem R07_Parser_view.ok:SpecOk PP 124 ⟨1,R07_Parser_view.si,R07_Parser_view.so,R07_Parser_view.F⟩:=fn_stk cxR07_Parser_agg (inl0_ok _ _) mixed R07_Parser_view.fn R07_Parser_view.h (by kernel_rfl) R07_Parser_view.ev
noncomputable def spR07_Parser_view:List (Nat×List (Nat×AK)×Lv.Spec):=(124,[],⟨1,R07_Parser_view.si,R07_Parser_view.so,R07_Parser_view.F⟩)::spR07_Parser_agg
noncomputable abbrev cR07_Parser_view:Cx:=⟨tabAt tab0,eqAt eqs0,specAt spR07_Parser_view,0,specPAt sq0⟩
theorem cxR07_Parser_view:CxOk PP cR07_Parser_view:=cxR07_Parser_agg.consS [] R07_Parser_view.fn.enters R07_Parser_view.ok
end Go.Proofs.Ytniojllnooblcaa
end
section
set_option maxRecDepth 100000
namespace Go.Proofs.Ytniojllnooblcaa
open Go Lv Go.Proofs Go.RowKit Go.Shelf
/-! levee/leveeref07.Parse -/
def R07_Parse.si:Sh:=⟨[(0,.v false [.str])],[],[],0,[]⟩
def R07_Parse.so:Sh:=⟨[(0,.tup [(true,[.int .i64,.str,.ref 1000,.ref 1001,.str,.str,.str,.int .i64,.int .i64,.ref 1002,.ref 1003,.bool,.ref 1004]),(false,[.int .i64])])],[(1000,false,.arr 97 tColumn),(1001,false,.arr 104 (.sl 202 tNode)),(1002,false,.arr 202 tNode),(1003,false,.arr 3 (.int .i64)),(1004,false,.arr 206 tAgg)],[],1005,[]⟩
def R07_Parse.h:H:=(.s none .n (.s none .n (.s none .n (.s none .n (.s none .n (.s (some ⟨[(6,.v false [.ptr 0 0]),(7,.v false [.ptr 1 0])],[(0,true,.box 212 [.sl 235 tTok,.int .i64,.bool]),(1,true,.box 110 [.int .i64,.str,.ref 2,.ref 3,.str,.str,.str,.int .i64,.int .i64,.ref 4,.ref 5,.bool,.ref 6]),(2,false,.arr 97 tColumn),(3,false,.arr 104 (.sl 202 tNode)),(4,false,.arr 202 tNode),(5,false,.arr 3 (.int .i64)),(6,false,.arr 206 tAgg)],[2,4],7,[]⟩) (.s (some ⟨[(32,.v false [.bool])],[],[2,4,6,7],0,[]⟩) .n .n) .n))))))
noncomputable def R07_Parse.B:ByteArray×Unit→Option (Int×ByteArray×ByteArray×ByteArray×ByteArray×Int×Int×Bool×Int×(List tColumnT)×(List (List tNodeT))×(List tNodeT)×(List Int)×(List tAggT)×Unit):=fun (p0,_)=>
  Option.bind (R06_Lex.F (p0,())) fun y1=>
  (bif (y1.1 !=(0:Int)) then
  some ((0:Int),(⟨#[]⟩:ByteArray),(⟨#[]⟩:ByteArray),(⟨#[]⟩:ByteArray),(⟨#[]⟩:ByteArray),(0:Int),(0:Int),false,y1.1,[],[],[],[],[],())
  else
  Option.bind (R07_Parser_one.F ([(⟨#[116,97,98,108,101]⟩:ByteArray),(⟨#[118,105,101,119]⟩:ByteArray)],y1.2.1,(0:Int),true,())) fun y2=>
  Option.bind (
  Option.bind (
  (bif y2.2.2.2.1 then
  some (.inl ((y2.1==(0:Int)),()))
  else
  some (.inl (false,()))):Option ((Bool×Unit)⊕_)) fun r3=>match r3 with
  | .inl (x32_3,_)=>
  ((bif x32_3 then
  Option.bind (R07_Parser_table.F (y2.2.1,y2.2.2.1,y2.2.2.2.1,())) fun y4=>
  some (.inl (y4.2.1,y4.2.2.1,y4.2.2.2.1,y2.1,y4.1,(⟨#[]⟩:ByteArray),(⟨#[]⟩:ByteArray),(⟨#[]⟩:ByteArray),(0:Int),(0:Int),false,y4.2.2.2.2.1,y4.2.2.2.2.2.1,[],[],[],()))
  else
  (bif y2.2.2.2.1 then
  Option.bind (R07_Parser_view.F (y2.2.1,y2.2.2.1,y2.2.2.2.1,())) fun y5=>
  some (.inl (y5.2.2.2.2.2.2.1,y5.2.2.2.2.2.2.2.1,y5.2.2.2.2.2.2.2.2.1,y2.1,(⟨#[]⟩:ByteArray),y5.1,y5.2.1,y5.2.2.1,y5.2.2.2.1,y5.2.2.2.2.1,y5.2.2.2.2.2.1,[],[],y5.2.2.2.2.2.2.2.2.2.1,y5.2.2.2.2.2.2.2.2.2.2.1,y5.2.2.2.2.2.2.2.2.2.2.2.1,()))
  else
  some (.inl (y2.2.1,y2.2.2.1,y2.2.2.2.1,y2.1,(⟨#[]⟩:ByteArray),(⟨#[]⟩:ByteArray),(⟨#[]⟩:ByteArray),(⟨#[]⟩:ByteArray),(0:Int),(0:Int),false,[],[],[],[],[],())))))
  | .inr r=>some r:Option (((List tTokT)×Int×Bool×Int×ByteArray×ByteArray×ByteArray×ByteArray×Int×Int×Bool×(List tColumnT)×(List (List tNodeT))×(List tNodeT)×(List Int)×(List tAggT)×Unit)⊕_)) fun r6=>match r6 with
  | .inl (o6_0_0_6,o6_0_1_6,o6_0_2_6,o7_0_0_6,o7_0_1_6,o7_0_4_6,o7_0_5_6,o7_0_6_6,o7_0_7_6,o7_0_8_6,o7_0_11_6,o7_0_2_6,o7_0_3_6,o7_0_9_6,o7_0_10_6,o7_0_12_6,_)=>
  ((bif (!o6_0_2_6) then
  some ((0:Int),(⟨#[]⟩:ByteArray),(⟨#[]⟩:ByteArray),(⟨#[]⟩:ByteArray),(⟨#[]⟩:ByteArray),(0:Int),(0:Int),false,(70:Int),[],[],[],[],[],())
  else
  (bif (decide (o6_0_1_6<(y1.2.1.length:Int))) then
  some ((0:Int),(⟨#[]⟩:ByteArray),(⟨#[]⟩:ByteArray),(⟨#[]⟩:ByteArray),(⟨#[]⟩:ByteArray),(0:Int),(0:Int),false,(70:Int),[],[],[],[],[],())
  else
  some (o7_0_0_6,o7_0_1_6,o7_0_4_6,o7_0_5_6,o7_0_6_6,o7_0_7_6,o7_0_8_6,o7_0_11_6,(0:Int),o7_0_2_6,o7_0_3_6,o7_0_9_6,o7_0_10_6,o7_0_12_6,()))))
  | .inr r=>some r)
noncomputable def R07_Parse.F:ByteArray×Unit→Option (Int×ByteArray×ByteArray×ByteArray×ByteArray×Int×Int×Bool×Int×(List tColumnT)×(List (List tNodeT))×(List tNodeT)×(List Int)×(List tAggT)×Unit):=stk R07_Parse.B
theorem R07_Parse.eq:R07_Parse.F=R07_Parse.B:=stk_eq _
theorem R07_Parse.ev (x:TS R07_Parse.si):evF cR07_Parser_view inl0 (Tryz.f86.body.getD .skip) Tryz.f86.results.toList R07_Parse.h R07_Parse.si R07_Parse.so x=R07_Parse.B x:=by kernel_rfl
theorem R07_Parse.fn:FnOk PP 86 (Tryz.f86.body.getD .skip) Tryz.f86.results.toList Tryz.f86.ntmps:=fnOk_mk (by kernel_rfl) (by kernel_rfl) (by kernel_rfl) (by kernel_rfl)
theorem R07_Parse.ok:SpecOk PP 86 ⟨1,R07_Parse.si,R07_Parse.so,R07_Parse.F⟩:=fn_stk cxR07_Parser_view (inl0_ok _ _) mixed R07_Parse.fn R07_Parse.h (by kernel_rfl) R07_Parse.ev
noncomputable def spR07_Parse:List (Nat×List (Nat×AK)×Lv.Spec):=(86,[],⟨1,R07_Parse.si,R07_Parse.so,R07_Parse.F⟩)::spR07_Parser_view
noncomputable abbrev cR07_Parse:Cx:=⟨tabAt tab0,eqAt eqs0,specAt spR07_Parse,0,specPAt sq0⟩
theorem cxR07_Parse:CxOk PP cR07_Parse:=cxR07_Parser_view.consS [] R07_Parse.fn.enters R07_Parse.ok
/-! levee/leveeref03.Same -/
def R03_Same.si:Sh:=⟨[(0,.v false [.sl 202 tNode]),(1,.v false [.sl 202 tNode])],[],[],0,[]⟩
def R03_Same.so:Sh:=⟨[(0,.v false [.bool])],[],[],1000,[]⟩
def R03_Same.h:H:=(.s none .n (.s none .n (.s none (.s none .n (.b (.l ⟨[(5,.v false [.int .i64])],[],[0,1],0,[]⟩ .n))) .n)))
noncomputable def R03_Same.B:(List tNodeT)×(List tNodeT)×Unit→Option (Bool×Unit):=fun (p0,p1,_)=>
  (bif ((p0.length:Int) !=(p1.length:Int)) then
  some (false,())
  else
  loopM (S:=Int×Unit) (fun (x5,_)=>
  (bif (decide (x5<(p0.length:Int))) then
  bif (decide (0≤x5)&&decide (x5<(p0.length:Int))) then
  let e1:tNodeT:=(List.getD p0 (Int.toNat x5) tNode.z)
  bif (decide (0≤x5)&&decide (x5<(p1.length:Int))) then
  let e2:tNodeT:=(List.getD p1 (Int.toNat x5) tNode.z)
  (bif (!(Ty.eq tNode e1 e2)) then
  some (.inr (false,()))
  else
  let e3:Int:=(IntKind.i64.wrap (x5+(1:Int)))
  some (.inl (e3,())))
  else none
  else none
  else
  some (.inr (true,())))) ((0:Int),()))
noncomputable def R03_Same.F:(List tNodeT)×(List tNodeT)×Unit→Option (Bool×Unit):=stk R03_Same.B
theorem R03_Same.eq:R03_Same.F=R03_Same.B:=stk_eq _
theorem R03_Same.ev (x:TS R03_Same.si):evF cR07_Parse inl0 (Tryz.f160.body.getD .skip) Tryz.f160.results.toList R03_Same.h R03_Same.si R03_Same.so x=R03_Same.B x:=by kernel_rfl
theorem R03_Same.fn:FnOk PP 160 (Tryz.f160.body.getD .skip) Tryz.f160.results.toList Tryz.f160.ntmps:=fnOk_mk (by kernel_rfl) (by kernel_rfl) (by kernel_rfl) (by kernel_rfl)
theorem R03_Same.ok:SpecOk PP 160 ⟨2,R03_Same.si,R03_Same.so,R03_Same.F⟩:=fn_stk cxR07_Parse (inl0_ok _ _) mixed R03_Same.fn R03_Same.h (by kernel_rfl) R03_Same.ev
noncomputable def spR03_Same:List (Nat×List (Nat×AK)×Lv.Spec):=(160,[],⟨2,R03_Same.si,R03_Same.so,R03_Same.F⟩)::spR07_Parse
noncomputable abbrev cR03_Same:Cx:=⟨tabAt tab0,eqAt eqs0,specAt spR03_Same,0,specPAt sq0⟩
theorem cxR03_Same:CxOk PP cR03_Same:=cxR07_Parse.consS [] R03_Same.fn.enters R03_Same.ok
/-! levee/leveeref07.SameTable -/
def R07_SameTable.si:Sh:=⟨[(0,.v true [.str,.sl 97 tColumn,.sl 104 (.sl 202 tNode)]),(1,.v true [.str,.sl 97 tColumn,.sl 104 (.sl 202 tNode)])],[],[],0,[]⟩
def R07_SameTable.so:Sh:=⟨[(0,.v false [.bool])],[],[],1000,[]⟩
def R07_SameTable.h:H:=(.s none .n (.s (some ⟨[],[],[2,3],0,[]⟩) .n (.s (some ⟨[],[],[2,3],0,[]⟩) (.s none .n (.b (.l ⟨[(5,.v false [.int .i64])],[],[2,3],0,[]⟩ .n))) (.s none (.s none .n (.b (.l ⟨[(6,.v false [.int .i64])],[],[2,3],0,[]⟩ .n))) .n))))
noncomputable def R07_SameTable.B:ByteArray×(List tColumnT)×(List (List tNodeT))×ByteArray×(List tColumnT)×(List (List tNodeT))×Unit→Option (Bool×Unit):=fun (p0_0,p0_1,p0_2,p1_0,p1_1,p1_2,_)=>
  Option.bind (
  (bif (!(p0_0.toList==p1_0.toList)) then
  some (.inr (false,()))
  else
  (bif ((p0_1.length:Int) !=(p1_1.length:Int)) then
  some (.inr (false,()))
  else
  (bif ((p0_2.length:Int) !=(p1_2.length:Int)) then
  some (.inr (false,()))
  else
  some (.inl (()))))):Option ((Unit)⊕_)) fun r1=>match r1 with
  | .inl (_)=>
  (Option.bind (
  loopM (S:=Int×Unit) (fun (x5,_)=>
  (bif (decide (x5<(p0_1.length:Int))) then
  bif (decide (0≤x5)&&decide (x5<(p0_1.length:Int))) then
  let e2:tColumnT:=(List.getD p0_1 (Int.toNat x5) tColumn.z)
  bif (decide (0≤x5)&&decide (x5<(p1_1.length:Int))) then
  let e3:tColumnT:=(List.getD p1_1 (Int.toNat x5) tColumn.z)
  (bif (!(Ty.eq tColumn e2 e3)) then
  some (.inr (.inr (false,())))
  else
  let e4:Int:=(IntKind.i64.wrap (x5+(1:Int)))
  some (.inl (e4,())))
  else none
  else none
  else
  some (.inr (.inl (()))))) ((0:Int),()):Option ((Unit)⊕_)) fun r5=>match r5 with
  | .inl (_)=>
  (loopM (S:=Int×Unit) (fun (x6,_)=>
  (bif (decide (x6<(p0_2.length:Int))) then
  bif (decide (0≤x6)&&decide (x6<(p0_2.length:Int))) then
  let e6:(List tNodeT):=(List.getD p0_2 (Int.toNat x6) [])
  bif (decide (0≤x6)&&decide (x6<(p1_2.length:Int))) then
  let e7:(List tNodeT):=(List.getD p1_2 (Int.toNat x6) [])
  Option.bind (R03_Same.F (e6,e7,())) fun y8=>
  (bif (!y8.1) then
  some (.inr (false,()))
  else
  let e9:Int:=(IntKind.i64.wrap (x6+(1:Int)))
  some (.inl (e9,())))
  else none
  else none
  else
  some (.inr (true,())))) ((0:Int),()))
  | .inr r=>some r)
  | .inr r=>some r
noncomputable def R07_SameTable.F:ByteArray×(List tColumnT)×(List (List tNodeT))×ByteArray×(List tColumnT)×(List (List tNodeT))×Unit→Option (Bool×Unit):=stk R07_SameTable.B
theorem R07_SameTable.eq:R07_SameTable.F=R07_SameTable.B:=stk_eq _
theorem R07_SameTable.ev (x:TS R07_SameTable.si):evF cR03_Same inl0 (Tryz.f125.body.getD .skip) Tryz.f125.results.toList R07_SameTable.h R07_SameTable.si R07_SameTable.so x=R07_SameTable.B x:=by kernel_rfl
theorem R07_SameTable.fn:FnOk PP 125 (Tryz.f125.body.getD .skip) Tryz.f125.results.toList Tryz.f125.ntmps:=fnOk_mk (by kernel_rfl) (by kernel_rfl) (by kernel_rfl) (by kernel_rfl)
theorem R07_SameTable.ok:SpecOk PP 125 ⟨2,R07_SameTable.si,R07_SameTable.so,R07_SameTable.F⟩:=fn_stk cxR03_Same (inl0_ok _ _) mixed R07_SameTable.fn R07_SameTable.h (by kernel_rfl) R07_SameTable.ev
noncomputable def spR07_SameTable:List (Nat×List (Nat×AK)×Lv.Spec):=(125,[],⟨2,R07_SameTable.si,R07_SameTable.so,R07_SameTable.F⟩)::spR03_Same
noncomputable abbrev cR07_SameTable:Cx:=⟨tabAt tab0,eqAt eqs0,specAt spR07_SameTable,0,specPAt sq0⟩
theorem cxR07_SameTable:CxOk PP cR07_SameTable:=cxR03_Same.consS [] R07_SameTable.fn.enters R07_SameTable.ok
/-! levee/leveeref07.Ints -/
def R07_Ints.si:Sh:=⟨[(0,.v false [.sl 3 (.int .i64)]),(1,.v false [.sl 3 (.int .i64)])],[],[],0,[]⟩
def R07_Ints.so:Sh:=⟨[(0,.v false [.bool])],[],[],1000,[]⟩
def R07_Ints.h:H:=(.s none .n (.s none .n (.s none (.s none .n (.b (.l ⟨[(5,.v false [.int .i64])],[],[0,1],0,[]⟩ .n))) .n)))
noncomputable def R07_Ints.B:(List Int)×(List Int)×Unit→Option (Bool×Unit):=fun (p0,p1,_)=>
  (bif ((p0.length:Int) !=(p1.length:Int)) then
  some (false,())
  else
  loopM (S:=Int×Unit) (fun (x5,_)=>
  (bif (decide (x5<(p0.length:Int))) then
  bif (decide (0≤x5)&&decide (x5<(p0.length:Int))) then
  let e1:Int:=(List.getD p0 (Int.toNat x5) (0:Int))
  bif (decide (0≤x5)&&decide (x5<(p1.length:Int))) then
  let e2:Int:=(List.getD p1 (Int.toNat x5) (0:Int))
  (bif (e1 !=e2) then
  some (.inr (false,()))
  else
  let e3:Int:=(IntKind.i64.wrap (x5+(1:Int)))
  some (.inl (e3,())))
  else none
  else none
  else
  some (.inr (true,())))) ((0:Int),()))
noncomputable def R07_Ints.F:(List Int)×(List Int)×Unit→Option (Bool×Unit):=stk R07_Ints.B
theorem R07_Ints.eq:R07_Ints.F=R07_Ints.B:=stk_eq _
theorem R07_Ints.ev (x:TS R07_Ints.si):evF cR07_SameTable inl0 (Tryz.f161.body.getD .skip) Tryz.f161.results.toList R07_Ints.h R07_Ints.si R07_Ints.so x=R07_Ints.B x:=by kernel_rfl
theorem R07_Ints.fn:FnOk PP 161 (Tryz.f161.body.getD .skip) Tryz.f161.results.toList Tryz.f161.ntmps:=fnOk_mk (by kernel_rfl) (by kernel_rfl) (by kernel_rfl) (by kernel_rfl)
theorem R07_Ints.ok:SpecOk PP 161 ⟨2,R07_Ints.si,R07_Ints.so,R07_Ints.F⟩:=fn_stk cxR07_SameTable (inl0_ok _ _) mixed R07_Ints.fn R07_Ints.h (by kernel_rfl) R07_Ints.ev
noncomputable def spR07_Ints:List (Nat×List (Nat×AK)×Lv.Spec):=(161,[],⟨2,R07_Ints.si,R07_Ints.so,R07_Ints.F⟩)::spR07_SameTable
noncomputable abbrev cR07_Ints:Cx:=⟨tabAt tab0,eqAt eqs0,specAt spR07_Ints,0,specPAt sq0⟩
theorem cxR07_Ints:CxOk PP cR07_Ints:=cxR07_SameTable.consS [] R07_Ints.fn.enters R07_Ints.ok
/-! levee/leveeref07.SameView -/
def R07_SameView.si:Sh:=⟨[(0,.v true [.str,.str,.str,.int .i64,.int .i64,.sl 202 tNode,.sl 3 (.int .i64),.bool,.sl 206 tAgg]),(1,.v true [.str,.str,.str,.int .i64,.int .i64,.sl 202 tNode,.sl 3 (.int .i64),.bool,.sl 206 tAgg])],[],[],0,[]⟩
def R07_SameView.so:Sh:=⟨[(0,.v false [.bool])],[],[],1000,[]⟩
def R07_SameView.h:H:=(.s none .n (.s none (.s (some ⟨[(63,.v false [.bool])],[],[2,3],0,[]⟩) .n .n) (.s none (.s none .n (.b (.l ⟨[(5,.v false [.int .i64])],[],[2,3],0,[]⟩ .n))) .n)))
noncomputable def R07_SameView.B:ByteArray×ByteArray×ByteArray×Int×Int×(List tNodeT)×(List Int)×Bool×(List tAggT)×ByteArray×ByteArray×ByteArray×Int×Int×(List tNodeT)×(List Int)×Bool×(List tAggT)×Unit→Option (Bool×Unit):=fun (p0_0,p0_1,p0_2,p0_3,p0_4,p0_5,p0_6,p0_7,p0_8,p1_0,p1_1,p1_2,p1_3,p1_4,p1_5,p1_6,p1_7,p1_8,_)=>
  Option.bind (
  (bif (!(p0_0.toList==p1_0.toList)) then
  some (.inl (true,()))
  else
  (bif (!(p0_1.toList==p1_1.toList)) then
  some (.inl (true,()))
  else
  (bif (!(p0_2.toList==p1_2.toList)) then
  some (.inl (true,()))
  else
  (bif (!(Ty.eq tAgg (p0_3,p0_4) (p1_3,p1_4))) then
  some (.inl (true,()))
  else
  Option.bind (R03_Same.F (p0_5,p1_5,())) fun y1=>
  (bif (!y1.1) then
  some (.inl (true,()))
  else
  Option.bind (R07_Ints.F (p0_6,p1_6,())) fun y2=>
  (bif (!y2.1) then
  some (.inl (true,()))
  else
  (bif (!(p0_7==p1_7)) then
  some (.inl (true,()))
  else
  some (.inl (((p0_8.length:Int) !=(p1_8.length:Int)),()))))))))):Option ((Bool×Unit)⊕_)) fun r3=>match r3 with
  | .inl (x63_3,_)=>
  ((bif x63_3 then
  some (false,())
  else
  loopM (S:=Int×Unit) (fun (x5,_)=>
  (bif (decide (x5<(p0_8.length:Int))) then
  bif (decide (0≤x5)&&decide (x5<(p0_8.length:Int))) then
  let e4:tAggT:=(List.getD p0_8 (Int.toNat x5) tAgg.z)
  bif (decide (0≤x5)&&decide (x5<(p1_8.length:Int))) then
  let e5:tAggT:=(List.getD p1_8 (Int.toNat x5) tAgg.z)
  (bif (!(Ty.eq tAgg e4 e5)) then
  some (.inr (false,()))
  else
  let e6:Int:=(IntKind.i64.wrap (x5+(1:Int)))
  some (.inl (e6,())))
  else none
  else none
  else
  some (.inr (true,())))) ((0:Int),())))
  | .inr r=>some r
noncomputable def R07_SameView.F:ByteArray×ByteArray×ByteArray×Int×Int×(List tNodeT)×(List Int)×Bool×(List tAggT)×ByteArray×ByteArray×ByteArray×Int×Int×(List tNodeT)×(List Int)×Bool×(List tAggT)×Unit→Option (Bool×Unit):=stk R07_SameView.B
theorem R07_SameView.eq:R07_SameView.F=R07_SameView.B:=stk_eq _
theorem R07_SameView.ev (x:TS R07_SameView.si):evF cR07_Ints inl0 (Tryz.f126.body.getD .skip) Tryz.f126.results.toList R07_SameView.h R07_SameView.si R07_SameView.so x=R07_SameView.B x:=by kernel_rfl
theorem R07_SameView.fn:FnOk PP 126 (Tryz.f126.body.getD .skip) Tryz.f126.results.toList Tryz.f126.ntmps:=fnOk_mk (by kernel_rfl) (by kernel_rfl) (by kernel_rfl) (by kernel_rfl)
theorem R07_SameView.ok:SpecOk PP 126 ⟨2,R07_SameView.si,R07_SameView.so,R07_SameView.F⟩:=fn_stk cxR07_Ints (inl0_ok _ _) mixed R07_SameView.fn R07_SameView.h (by kernel_rfl) R07_SameView.ev
noncomputable def spR07_SameView:List (Nat×List (Nat×AK)×Lv.Spec):=(126,[],⟨2,R07_SameView.si,R07_SameView.so,R07_SameView.F⟩)::spR07_Ints
noncomputable abbrev cR07_SameView:Cx:=⟨tabAt tab0,eqAt eqs0,specAt spR07_SameView,0,specPAt sq0⟩
theorem cxR07_SameView:CxOk PP cR07_SameView:=cxR07_Ints.consS [] R07_SameView.fn.enters R07_SameView.ok
/-! levee/leveeref07.Same -/
def R07_Same.si:Sh:=⟨[(0,.v true [.int .i64,.str,.sl 97 tColumn,.sl 104 (.sl 202 tNode),.str,.str,.str,.int .i64,.int .i64,.sl 202 tNode,.sl 3 (.int .i64),.bool,.sl 206 tAgg]),(1,.v true [.int .i64,.str,.sl 97 tColumn,.sl 104 (.sl 202 tNode),.str,.str,.str,.int .i64,.int .i64,.sl 202 tNode,.sl 3 (.int .i64),.bool,.sl 206 tAgg])],[],[],0,[]⟩
def R07_Same.so:Sh:=⟨[(0,.v false [.bool])],[],[],1000,[]⟩
def R07_Same.h:H:=.n
noncomputable def R07_Same.B:Int×ByteArray×(List tColumnT)×(List (List tNodeT))×ByteArray×ByteArray×ByteArray×Int×Int×(List tNodeT)×(List Int)×Bool×(List tAggT)×Int×ByteArray×(List tColumnT)×(List (List tNodeT))×ByteArray×ByteArray×ByteArray×Int×Int×(List tNodeT)×(List Int)×Bool×(List tAggT)×Unit→Option (Bool×Unit):=fun (p0_0,p0_1,p0_2,p0_3,p0_4,p0_5,p0_6,p0_7,p0_8,p0_9,p0_10,p0_11,p0_12,p1_0,p1_1,p1_2,p1_3,p1_4,p1_5,p1_6,p1_7,p1_8,p1_9,p1_10,p1_11,p1_12,_)=>
  (bif (p0_0==p1_0) then
  Option.bind (R07_SameTable.F (p0_1,p0_2,p0_3,p1_1,p1_2,p1_3,())) fun y1=>
  (bif y1.1 then
  Option.bind (R07_SameView.F (p0_4,p0_5,p0_6,p0_7,p0_8,p0_9,p0_10,p0_11,p0_12,p1_4,p1_5,p1_6,p1_7,p1_8,p1_9,p1_10,p1_11,p1_12,())) fun y2=>
  some (y2.1,())
  else
  some (false,()))
  else
  some (false,()))
noncomputable def R07_Same.F:Int×ByteArray×(List tColumnT)×(List (List tNodeT))×ByteArray×ByteArray×ByteArray×Int×Int×(List tNodeT)×(List Int)×Bool×(List tAggT)×Int×ByteArray×(List tColumnT)×(List (List tNodeT))×ByteArray×ByteArray×ByteArray×Int×Int×(List tNodeT)×(List Int)×Bool×(List tAggT)×Unit→Option (Bool×Unit):=stk R07_Same.B
theorem R07_Same.eq:R07_Same.F=R07_Same.B:=stk_eq _
theorem R07_Same.ev (x:TS R07_Same.si):evF cR07_SameView inl0 (Tryz.f87.body.getD .skip) Tryz.f87.results.toList R07_Same.h R07_Same.si R07_Same.so x=R07_Same.B x:=by kernel_rfl
theorem R07_Same.fn:FnOk PP 87 (Tryz.f87.body.getD .skip) Tryz.f87.results.toList Tryz.f87.ntmps:=fnOk_mk (by kernel_rfl) (by kernel_rfl) (by kernel_rfl) (by kernel_rfl)
theorem R07_Same.ok:SpecOk PP 87 ⟨2,R07_Same.si,R07_Same.so,R07_Same.F⟩:=fn_stk cxR07_SameView (inl0_ok _ _) mixed R07_Same.fn R07_Same.h (by kernel_rfl) R07_Same.ev
noncomputable def spR07_Same:List (Nat×List (Nat×AK)×Lv.Spec):=(87,[],⟨2,R07_Same.si,R07_Same.so,R07_Same.F⟩)::spR07_SameView
noncomputable abbrev cR07_Same:Cx:=⟨tabAt tab0,eqAt eqs0,specAt spR07_Same,0,specPAt sq0⟩
theorem cxR07_Same:CxOk PP cR07_Same:=cxR07_SameView.consS [] R07_Same.fn.enters R07_Same.ok
/-! levee/leveeref07.Print -/
def R07_Print.si:Sh:=⟨[(0,.v true [.int .i64,.str,.sl 97 tColumn,.sl 104 (.sl 202 tNode),.str,.str,.str,.int .i64,.int .i64,.sl 202 tNode,.sl 3 (.int .i64),.bool,.sl 206 tAgg])],[],[],0,[]⟩
def R07_Print.so:Sh:=⟨[(0,.v false [.str])],[],[],1000,[]⟩
def R07_Print.h:H:=(.s none .n (.s none .n (.s (some ⟨[(3,.v false [.str])],[],[1],0,[]⟩) .n .n)))
noncomputable def R07_Print.B:Int×ByteArray×(List tColumnT)×(List (List tNodeT))×ByteArray×ByteArray×ByteArray×Int×Int×(List tNodeT)×(List Int)×Bool×(List tAggT)×Unit→Option (ByteArray×Unit):=fun (p0_0,p0_1,p0_2,p0_3,p0_4,p0_5,p0_6,p0_7,p0_8,p0_9,p0_10,p0_11,p0_12,_)=>
  Option.bind (R07_viewText.F (p0_4,p0_5,p0_6,p0_7,p0_8,p0_9,p0_10,p0_11,p0_12,())) fun y1=>
  Option.bind (
  (bif (p0_0==(0:Int)) then
  Option.bind (R07_tableText.F (p0_1,p0_2,p0_3,())) fun y2=>
  some (.inl (y2.1,()))
  else
  some (.inl (y1.1,()))):Option ((ByteArray×Unit)⊕_)) fun r3=>match r3 with
  | .inl (x3_3,_)=>
  ((bif (decide ((x3_3.size:Int)>(20000:Int))) then
  some ((⟨#[]⟩:ByteArray),())
  else
  Option.bind (R07_Parse.F (x3_3,())) fun y4=>
  (bif (y4.2.2.2.2.2.2.2.2.1 !=(0:Int)) then
  some ((⟨#[]⟩:ByteArray),())
  else
  Option.bind (R07_Same.F (p0_0,p0_1,p0_2,p0_3,p0_4,p0_5,p0_6,p0_7,p0_8,p0_9,p0_10,p0_11,p0_12,y4.1,y4.2.1,y4.2.2.2.2.2.2.2.2.2.1,y4.2.2.2.2.2.2.2.2.2.2.1,y4.2.2.1,y4.2.2.2.1,y4.2.2.2.2.1,y4.2.2.2.2.2.1,y4.2.2.2.2.2.2.1,y4.2.2.2.2.2.2.2.2.2.2.2.1,y4.2.2.2.2.2.2.2.2.2.2.2.2.1,y4.2.2.2.2.2.2.2.1,y4.2.2.2.2.2.2.2.2.2.2.2.2.2.1,())) fun y5=>
  (bif (!y5.1) then
  some ((⟨#[]⟩:ByteArray),())
  else
  some (x3_3,())))))
  | .inr r=>some r
noncomputable def R07_Print.F:Int×ByteArray×(List tColumnT)×(List (List tNodeT))×ByteArray×ByteArray×ByteArray×Int×Int×(List tNodeT)×(List Int)×Bool×(List tAggT)×Unit→Option (ByteArray×Unit):=stk R07_Print.B
theorem R07_Print.eq:R07_Print.F=R07_Print.B:=stk_eq _
theorem R07_Print.ev (x:TS R07_Print.si):evF cR07_Same inl0 (Tryz.f46.body.getD .skip) Tryz.f46.results.toList R07_Print.h R07_Print.si R07_Print.so x=R07_Print.B x:=by kernel_rfl
theorem R07_Print.fn:FnOk PP 46 (Tryz.f46.body.getD .skip) Tryz.f46.results.toList Tryz.f46.ntmps:=fnOk_mk (by kernel_rfl) (by kernel_rfl) (by kernel_rfl) (by kernel_rfl)
theorem R07_Print.ok:SpecOk PP 46 ⟨1,R07_Print.si,R07_Print.so,R07_Print.F⟩:=fn_stk cxR07_Same (inl0_ok _ _) mixed R07_Print.fn R07_Print.h (by kernel_rfl) R07_Print.ev
noncomputable def spR07_Print:List (Nat×List (Nat×AK)×Lv.Spec):=(46,[],⟨1,R07_Print.si,R07_Print.so,R07_Print.F⟩)::spR07_Same
noncomputable abbrev cR07_Print:Cx:=⟨tabAt tab0,eqAt eqs0,specAt spR07_Print,0,specPAt sq0⟩
theorem cxR07_Print:CxOk PP cR07_Print:=cxR07_Same.consS [] R07_Print.fn.enters R07_Print.ok
/-! levee/leveeref09.Big -/
def R09_Big.si:Sh:=⟨[(0,.v false [.sl 110 tDef])],[],[],0,[]⟩
def R09_Big.so:Sh:=⟨[(0,.v false [.bool])],[],[],1000,[]⟩
def R09_Big.h:H:=(.s none .n (.s none .n (.s (some ⟨[(3,.v false [.int .i64])],[],[0],0,[]⟩) (.s none .n (.b (.l ⟨[(3,.v false [.int .i64]),(4,.v false [.int .i64])],[],[0],0,[]⟩ (.s none .n (.s none (.b (.s (some ⟨[],[],[0,3,4],0,[]⟩) .n .n)) .n))))) (.s none .n (.s (some ⟨[(5,.v false [.int .i64])],[],[0,3],0,[]⟩) (.s none .n (.b (.l ⟨[(5,.v false [.int .i64]),(6,.v false [.int .i64])],[],[0,3],0,[]⟩ .n))) .n)))))
noncomputable def R09_Big.B:(List tDefT)×Unit→Option (Bool×Unit):=fun (p0,_)=>
  Option.bind (
  loopM (S:=Int×Int×Unit) (fun (x3,x4,_)=>
  (bif (decide (x4<(p0.length:Int))) then
  Option.bind (
  bif (decide (0≤x4)&&decide (x4<(p0.length:Int))) then
  let e1:tDefT:=(List.getD p0 (Int.toNat x4) tDef.z)
  Option.bind (R07_Big.F (e1.1,e1.2.1.1,e1.2.1.2.1,e1.2.1.2.2,e1.2.2.1,e1.2.2.2.1,e1.2.2.2.2.1,e1.2.2.2.2.2.1.1,e1.2.2.2.2.2.1.2,e1.2.2.2.2.2.2.1,e1.2.2.2.2.2.2.2.1,e1.2.2.2.2.2.2.2.2.1,e1.2.2.2.2.2.2.2.2.2,())) fun y2=>
  (bif y2.1 then
  some (.inr (.inr (.inr (true,()))))
  else
  bif (decide (0≤x4)&&decide (x4<(p0.length:Int))) then
  let e3:tDefT:=(List.getD p0 (Int.toNat x4) tDef.z)
  Option.bind (R07_Print.F (e3.1,e3.2.1.1,e3.2.1.2.1,e3.2.1.2.2,e3.2.2.1,e3.2.2.2.1,e3.2.2.2.2.1,e3.2.2.2.2.2.1.1,e3.2.2.2.2.2.1.2,e3.2.2.2.2.2.2.1,e3.2.2.2.2.2.2.2.1,e3.2.2.2.2.2.2.2.2.1,e3.2.2.2.2.2.2.2.2.2,())) fun y4=>
  (bif (decide ((y4.1.size:Int)>(2000:Int))) then
  some (.inr (.inr (.inr (true,()))))
  else
  some (.inl (())))
  else none)
  else none:Option ((Unit)⊕_)) fun r5=>match r5 with
  | .inl (_)=>
  (bif (decide (0≤x4)&&decide (x4<(p0.length:Int))) then
  let e6:tDefT:=(List.getD p0 (Int.toNat x4) tDef.z)
  bif (decide (0≤x4)&&decide (x4<(p0.length:Int))) then
  let e7:tDefT:=(List.getD p0 (Int.toNat x4) tDef.z)
  let e8:Int:=(IntKind.i64.wrap ((e6.2.1.2.1.length:Int)+(e7.2.2.2.2.2.2.2.1.length:Int)))
  let e9:Int:=(IntKind.i64.wrap (x3+e8))
  let e10:Int:=(IntKind.i64.wrap (x4+(1:Int)))
  some (.inl (e9,e10,()))
  else none
  else none)
  | .inr r=>some r
  else
  some (.inr (.inl (x3,()))))) ((0:Int),(0:Int),()):Option ((Int×Unit)⊕_)) fun r11=>match r11 with
  | .inl (x3_11,_)=>
  (Option.bind (
  loopM (S:=Int×Int×Unit) (fun (x5,x6,_)=>
  (bif (decide (x6<(p0.length:Int))) then
  bif (decide (0≤x6)&&decide (x6<(p0.length:Int))) then
  let e12:tDefT:=(List.getD p0 (Int.toNat x6) tDef.z)
  (bif (!(e12.2.2.2.2.1.toList==(⟨#[]⟩:ByteArray).toList)) then
  let e13:Int:=(IntKind.i64.wrap (x5+(1:Int)))
  let e14:Int:=(IntKind.i64.wrap (x6+(1:Int)))
  some (.inl (e13,e14,()))
  else
  let e15:Int:=(IntKind.i64.wrap (x6+(1:Int)))
  some (.inl (x5,e15,())))
  else none
  else
  some (.inr (.inl (x5,()))))) ((0:Int),(0:Int),()):Option ((Int×Unit)⊕_)) fun r16=>match r16 with
  | .inl (x5_16,_)=>
  ((bif (decide ((p0.length:Int)>(22:Int))) then
  some (true,())
  else
  (bif (decide (x3_11>(200:Int))) then
  some (true,())
  else
  some ((decide (x5_16>(6:Int))),()))))
  | .inr r=>some r)
  | .inr r=>some r
noncomputable def R09_Big.F:(List tDefT)×Unit→Option (Bool×Unit):=stk R09_Big.B
theorem R09_Big.eq:R09_Big.F=R09_Big.B:=stk_eq _
theorem R09_Big.ev (x:TS R09_Big.si):evF cR07_Print inl0 (Tryz.f19.body.getD .skip) Tryz.f19.results.toList R09_Big.h R09_Big.si R09_Big.so x=R09_Big.B x:=by kernel_rfl
theorem R09_Big.fn:FnOk PP 19 (Tryz.f19.body.getD .skip) Tryz.f19.results.toList Tryz.f19.ntmps:=fnOk_mk (by kernel_rfl) (by kernel_rfl) (by kernel_rfl) (by kernel_rfl)
theorem R09_Big.ok:SpecOk PP 19 ⟨1,R09_Big.si,R09_Big.so,R09_Big.F⟩:=fn_stk cxR07_Print (inl0_ok _ _) mixed R09_Big.fn R09_Big.h (by kernel_rfl) R09_Big.ev
noncomputable def spR09_Big:List (Nat×List (Nat×AK)×Lv.Spec):=(19,[],⟨1,R09_Big.si,R09_Big.so,R09_Big.F⟩)::spR07_Print
noncomputable abbrev cR09_Big:Cx:=⟨tabAt tab0,eqAt eqs0,specAt spR09_Big,0,specPAt sq0⟩
theorem cxR09_Big:CxOk PP cR09_Big:=cxR07_Print.consS [] R09_Big.fn.enters R09_Big.ok
/-! levee/leveeref02.Short -/
def R02_Short.si:Sh:=⟨[(0,.v false [.sl 27 tValue])],[],[],0,[]⟩
def R02_Short.so:Sh:=⟨[(0,.v false [.bool])],[],[],1000,[]⟩
def R02_Short.h:H:=(.s none .n (.s (some ⟨[],[],[0],0,[]⟩) (.s none .n (.b (.l ⟨[(3,.v false [.int .i64])],[],[0],0,[]⟩ .n))) .n))
noncomputable def R02_Short.B:(List tValueT)×Unit→Option (Bool×Unit):=fun (p0,_)=>
  Option.bind (
  loopM (S:=Int×Unit) (fun (x3,_)=>
  (bif (decide (x3<(p0.length:Int))) then
  bif (decide (0≤x3)&&decide (x3<(p0.length:Int))) then
  let e1:tValueT:=(List.getD p0 (Int.toNat x3) tValue.z)
  (bif (decide ((e1.2.2.size:Int)>(1000:Int))) then
  some (.inr (.inr (false,())))
  else
  let e2:Int:=(IntKind.i64.wrap (x3+(1:Int)))
  some (.inl (e2,())))
  else none
  else
  some (.inr (.inl (()))))) ((0:Int),()):Option ((Unit)⊕_)) fun r3=>match r3 with
  | .inl (_)=>
  (some ((decide ((p0.length:Int)≤(40:Int))),()))
  | .inr r=>some r
noncomputable def R02_Short.F:(List tValueT)×Unit→Option (Bool×Unit):=stk R02_Short.B
theorem R02_Short.eq:R02_Short.F=R02_Short.B:=stk_eq _
theorem R02_Short.ev (x:TS R02_Short.si):evF cR09_Big inl0 (Tryz.f22.body.getD .skip) Tryz.f22.results.toList R02_Short.h R02_Short.si R02_Short.so x=R02_Short.B x:=by kernel_rfl
theorem R02_Short.fn:FnOk PP 22 (Tryz.f22.body.getD .skip) Tryz.f22.results.toList Tryz.f22.ntmps:=fnOk_mk (by kernel_rfl) (by kernel_rfl) (by kernel_rfl) (by kernel_rfl)
theorem R02_Short.ok:SpecOk PP 22 ⟨1,R02_Short.si,R02_Short.so,R02_Short.F⟩:=fn_stk cxR09_Big (inl0_ok _ _) mixed R02_Short.fn R02_Short.h (by kernel_rfl) R02_Short.ev
noncomputable def spR02_Short:List (Nat×List (Nat×AK)×Lv.Spec):=(22,[],⟨1,R02_Short.si,R02_Short.so,R02_Short.F⟩)::spR09_Big
noncomputable abbrev cR02_Short:Cx:=⟨tabAt tab0,eqAt eqs0,specAt spR02_Short,0,specPAt sq0⟩
theorem cxR02_Short:CxOk PP cR02_Short:=cxR09_Big.consS [] R02_Short.fn.enters R02_Short.ok
/-! levee/leveeref16.Small -/
def R16_Small.si:Sh:=⟨[(0,.v true [.str,.sl 77 tRec])],[],[],0,[]⟩
def R16_Small.so:Sh:=⟨[(0,.v false [.bool])],[],[],1000,[]⟩
def R16_Small.h:H:=(.s none .n (.s (some ⟨[],[],[1],0,[]⟩) (.s none .n (.b (.l ⟨[(3,.v false [.int .i64])],[],[1],0,[]⟩ .n))) .n))
noncomputable def R16_Small.B:ByteArray×(List tRecT)×Unit→Option (Bool×Unit):=fun (p0_0,p0_1,_)=>
  Option.bind (
  loopM (S:=Int×Unit) (fun (x3,_)=>
  (bif (decide (x3<(p0_1.length:Int))) then
  bif (decide (0≤x3)&&decide (x3<(p0_1.length:Int))) then
  let e1:tRecT:=(List.getD p0_1 (Int.toNat x3) tRec.z)
  Option.bind (R02_Short.F (e1.1,())) fun y2=>
  (bif (!y2.1) then
  some (.inr (.inr (false,())))
  else
  let e3:Int:=(IntKind.i64.wrap (x3+(1:Int)))
  some (.inl (e3,())))
  else none
  else
  some (.inr (.inl (()))))) ((0:Int),()):Option ((Unit)⊕_)) fun r4=>match r4 with
  | .inl (_)=>
  ((bif (decide ((p0_1.length:Int)≤(60:Int))) then
  some ((decide ((p0_0.size:Int)≤(100:Int))),())
  else
  some (false,())))
  | .inr r=>some r
noncomputable def R16_Small.F:ByteArray×(List tRecT)×Unit→Option (Bool×Unit):=stk R16_Small.B
theorem R16_Small.eq:R16_Small.F=R16_Small.B:=stk_eq _
theorem R16_Small.ev (x:TS R16_Small.si):evF cR02_Short inl0 (Tryz.f47.body.getD .skip) Tryz.f47.results.toList R16_Small.h R16_Small.si R16_Small.so x=R16_Small.B x:=by kernel_rfl
theorem R16_Small.fn:FnOk PP 47 (Tryz.f47.body.getD .skip) Tryz.f47.results.toList Tryz.f47.ntmps:=fnOk_mk (by kernel_rfl) (by kernel_rfl) (by kernel_rfl) (by kernel_rfl)
theorem R16_Small.ok:SpecOk PP 47 ⟨1,R16_Small.si,R16_Small.so,R16_Small.F⟩:=fn_stk cxR02_Short (inl0_ok _ _) mixed R16_Small.fn R16_Small.h (by kernel_rfl) R16_Small.ev
noncomputable def spR16_Small:List (Nat×List (Nat×AK)×Lv.Spec):=(47,[],⟨1,R16_Small.si,R16_Small.so,R16_Small.F⟩)::spR02_Short
noncomputable abbrev cR16_Small:Cx:=⟨tabAt tab0,eqAt eqs0,specAt spR16_Small,0,specPAt sq0⟩
theorem cxR16_Small:CxOk PP cR16_Small:=cxR02_Short.consS [] R16_Small.fn.enters R16_Small.ok
/-! levee/leveeref20.Small -/
def R20_Small.si:Sh:=⟨[(0,.v false [.sl 74 tRel])],[],[],0,[]⟩
def R20_Small.so:Sh:=⟨[(0,.v false [.bool])],[],[],1000,[]⟩
def R20_Small.h:H:=(.s none .n (.s (some ⟨[],[],[0],0,[]⟩) (.s none .n (.b (.l ⟨[(3,.v false [.int .i64])],[],[0],0,[]⟩ .n))) .n))
noncomputable def R20_Small.B:(List tRelT)×Unit→Option (Bool×Unit):=fun (p0,_)=>
  Option.bind (
  loopM (S:=Int×Unit) (fun (x3,_)=>
  (bif (decide (x3<(p0.length:Int))) then
  bif (decide (0≤x3)&&decide (x3<(p0.length:Int))) then
  let e1:tRelT:=(List.getD p0 (Int.toNat x3) tRel.z)
  Option.bind (R16_Small.F (e1.1,e1.2,())) fun y2=>
  (bif (!y2.1) then
  some (.inr (.inr (false,())))
  else
  bif (decide (0≤x3)&&decide (x3<(p0.length:Int))) then
  let e3:tRelT:=(List.getD p0 (Int.toNat x3) tRel.z)
  (bif (decide ((e3.2.length:Int)>(20:Int))) then
  some (.inr (.inr (false,())))
  else
  let e4:Int:=(IntKind.i64.wrap (x3+(1:Int)))
  some (.inl (e4,())))
  else none)
  else none
  else
  some (.inr (.inl (()))))) ((0:Int),()):Option ((Unit)⊕_)) fun r5=>match r5 with
  | .inl (_)=>
  (some ((decide ((p0.length:Int)≤(8:Int))),()))
  | .inr r=>some r
noncomputable def R20_Small.F:(List tRelT)×Unit→Option (Bool×Unit):=stk R20_Small.B
theorem R20_Small.eq:R20_Small.F=R20_Small.B:=stk_eq _
theorem R20_Small.ev (x:TS R20_Small.si):evF cR16_Small inl0 (Tryz.f20.body.getD .skip) Tryz.f20.results.toList R20_Small.h R20_Small.si R20_Small.so x=R20_Small.B x:=by kernel_rfl
theorem R20_Small.fn:FnOk PP 20 (Tryz.f20.body.getD .skip) Tryz.f20.results.toList Tryz.f20.ntmps:=fnOk_mk (by kernel_rfl) (by kernel_rfl) (by kernel_rfl) (by kernel_rfl)
theorem R20_Small.ok:SpecOk PP 20 ⟨1,R20_Small.si,R20_Small.so,R20_Small.F⟩:=fn_stk cxR16_Small (inl0_ok _ _) mixed R20_Small.fn R20_Small.h (by kernel_rfl) R20_Small.ev
noncomputable def spR20_Small:List (Nat×List (Nat×AK)×Lv.Spec):=(20,[],⟨1,R20_Small.si,R20_Small.so,R20_Small.F⟩)::spR16_Small
noncomputable abbrev cR20_Small:Cx:=⟨tabAt tab0,eqAt eqs0,specAt spR20_Small,0,specPAt sq0⟩
theorem cxR20_Small:CxOk PP cR20_Small:=cxR16_Small.consS [] R20_Small.fn.enters R20_Small.ok
/-! levee/leveeref05.Small -/
def R05_Small.si:Sh:=⟨[(0,.v false [.sl 171 tRec])],[],[],0,[]⟩
def R05_Small.so:Sh:=⟨[(0,.v false [.bool])],[],[],1000,[]⟩
def R05_Small.h:H:=(.s none .n (.s (some ⟨[],[],[0],0,[]⟩) (.s none .n (.b (.l ⟨[(3,.v false [.int .i64])],[],[0],0,[]⟩ .n))) .n))
noncomputable def R05_Small.B:(List tRecT)×Unit→Option (Bool×Unit):=fun (p0,_)=>
  Option.bind (
  loopM (S:=Int×Unit) (fun (x3,_)=>
  (bif (decide (x3<(p0.length:Int))) then
  bif (decide (0≤x3)&&decide (x3<(p0.length:Int))) then
  let e1:tRecT:=(List.getD p0 (Int.toNat x3) tRec.z)
  Option.bind (R02_Short.F (e1.1,())) fun y2=>
  (bif (!y2.1) then
  some (.inr (.inr (false,())))
  else
  let e3:Int:=(IntKind.i64.wrap (x3+(1:Int)))
  some (.inl (e3,())))
  else none
  else
  some (.inr (.inl (()))))) ((0:Int),()):Option ((Unit)⊕_)) fun r4=>match r4 with
  | .inl (_)=>
  (some ((decide ((p0.length:Int)≤(60:Int))),()))
  | .inr r=>some r
noncomputable def R05_Small.F:(List tRecT)×Unit→Option (Bool×Unit):=stk R05_Small.B
theorem R05_Small.eq:R05_Small.F=R05_Small.B:=stk_eq _
theorem R05_Small.ev (x:TS R05_Small.si):evF cR20_Small inl0 (Tryz.f49.body.getD .skip) Tryz.f49.results.toList R05_Small.h R05_Small.si R05_Small.so x=R05_Small.B x:=by kernel_rfl
theorem R05_Small.fn:FnOk PP 49 (Tryz.f49.body.getD .skip) Tryz.f49.results.toList Tryz.f49.ntmps:=fnOk_mk (by kernel_rfl) (by kernel_rfl) (by kernel_rfl) (by kernel_rfl)
theorem R05_Small.ok:SpecOk PP 49 ⟨1,R05_Small.si,R05_Small.so,R05_Small.F⟩:=fn_stk cxR20_Small (inl0_ok _ _) mixed R05_Small.fn R05_Small.h (by kernel_rfl) R05_Small.ev
noncomputable def spR05_Small:List (Nat×List (Nat×AK)×Lv.Spec):=(49,[],⟨1,R05_Small.si,R05_Small.so,R05_Small.F⟩)::spR20_Small
noncomputable abbrev cR05_Small:Cx:=⟨tabAt tab0,eqAt eqs0,specAt spR05_Small,0,specPAt sq0⟩
theorem cxR05_Small:CxOk PP cR05_Small:=cxR20_Small.consS [] R05_Small.fn.enters R05_Small.ok
/-! levee/leveeref10.Low -/
def R10_Low.si:Sh:=⟨[(0,.v false [.sl 171 tRec])],[],[],0,[]⟩
def R10_Low.so:Sh:=⟨[(0,.v false [.bool])],[],[],1000,[]⟩
def R10_Low.h:H:=(.s none .n (.s (some ⟨[],[],[0],0,[]⟩) (.s none .n (.b (.l ⟨[(3,.v false [.int .i64])],[],[0],0,[]⟩ .n))) .n))
noncomputable def R10_Low.B:(List tRecT)×Unit→Option (Bool×Unit):=fun (p0,_)=>
  Option.bind (
  loopM (S:=Int×Unit) (fun (x3,_)=>
  (bif (decide (x3<(p0.length:Int))) then
  bif (decide (0≤x3)&&decide (x3<(p0.length:Int))) then
  let e1:tRecT:=(List.getD p0 (Int.toNat x3) tRec.z)
  (bif (decide (e1.2>(1000:Int))) then
  some (.inr (.inr (false,())))
  else
  bif (decide (0≤x3)&&decide (x3<(p0.length:Int))) then
  let e2:tRecT:=(List.getD p0 (Int.toNat x3) tRec.z)
  (bif (decide (e2.2<(-1000:Int))) then
  some (.inr (.inr (false,())))
  else
  let e3:Int:=(IntKind.i64.wrap (x3+(1:Int)))
  some (.inl (e3,())))
  else none)
  else none
  else
  some (.inr (.inl (()))))) ((0:Int),()):Option ((Unit)⊕_)) fun r4=>match r4 with
  | .inl (_)=>
  (Option.bind (R05_Small.F (p0,())) fun y5=>
  some (y5.1,()))
  | .inr r=>some r
noncomputable def R10_Low.F:(List tRecT)×Unit→Option (Bool×Unit):=stk R10_Low.B
theorem R10_Low.eq:R10_Low.F=R10_Low.B:=stk_eq _
theorem R10_Low.ev (x:TS R10_Low.si):evF cR05_Small inl0 (Tryz.f48.body.getD .skip) Tryz.f48.results.toList R10_Low.h R10_Low.si R10_Low.so x=R10_Low.B x:=by kernel_rfl
theorem R10_Low.fn:FnOk PP 48 (Tryz.f48.body.getD .skip) Tryz.f48.results.toList Tryz.f48.ntmps:=fnOk_mk (by kernel_rfl) (by kernel_rfl) (by kernel_rfl) (by kernel_rfl)
theorem R10_Low.ok:SpecOk PP 48 ⟨1,R10_Low.si,R10_Low.so,R10_Low.F⟩:=fn_stk cxR05_Small (inl0_ok _ _) mixed R10_Low.fn R10_Low.h (by kernel_rfl) R10_Low.ev
noncomputable def spR10_Low:List (Nat×List (Nat×AK)×Lv.Spec):=(48,[],⟨1,R10_Low.si,R10_Low.so,R10_Low.F⟩)::spR05_Small
noncomputable abbrev cR10_Low:Cx:=⟨tabAt tab0,eqAt eqs0,specAt spR10_Low,0,specPAt sq0⟩
theorem cxR10_Low:CxOk PP cR10_Low:=cxR05_Small.consS [] R10_Low.fn.enters R10_Low.ok
/-! levee/leveeref12.Small -/
def R12_Small.si:Sh:=⟨[(0,.v false [.sl 123 tLook])],[],[],0,[]⟩
def R12_Small.so:Sh:=⟨[(0,.v false [.bool])],[],[],1000,[]⟩
def R12_Small.h:H:=(.s none .n (.s (some ⟨[],[],[0],0,[]⟩) (.s none .n (.b (.l ⟨[(3,.v false [.int .i64])],[],[0],0,[]⟩ .n))) .n))
noncomputable def R12_Small.B:(List tLookT)×Unit→Option (Bool×Unit):=fun (p0,_)=>
  Option.bind (
  loopM (S:=Int×Unit) (fun (x3,_)=>
  (bif (decide (x3<(p0.length:Int))) then
  bif (decide (0≤x3)&&decide (x3<(p0.length:Int))) then
  let e1:tLookT:=(List.getD p0 (Int.toNat x3) tLook.z)
  (bif (decide ((e1.2.length:Int)>(12:Int))) then
  some (.inr (.inr (false,())))
  else
  bif (decide (0≤x3)&&decide (x3<(p0.length:Int))) then
  let e2:tLookT:=(List.getD p0 (Int.toNat x3) tLook.z)
  Option.bind (R10_Low.F (e2.2,())) fun y3=>
  (bif (!y3.1) then
  some (.inr (.inr (false,())))
  else
  let e4:Int:=(IntKind.i64.wrap (x3+(1:Int)))
  some (.inl (e4,())))
  else none)
  else none
  else
  some (.inr (.inl (()))))) ((0:Int),()):Option ((Unit)⊕_)) fun r5=>match r5 with
  | .inl (_)=>
  (some ((decide ((p0.length:Int)≤(6:Int))),()))
  | .inr r=>some r
noncomputable def R12_Small.F:(List tLookT)×Unit→Option (Bool×Unit):=stk R12_Small.B
theorem R12_Small.eq:R12_Small.F=R12_Small.B:=stk_eq _
theorem R12_Small.ev (x:TS R12_Small.si):evF cR10_Low inl0 (Tryz.f21.body.getD .skip) Tryz.f21.results.toList R12_Small.h R12_Small.si R12_Small.so x=R12_Small.B x:=by kernel_rfl
theorem R12_Small.fn:FnOk PP 21 (Tryz.f21.body.getD .skip) Tryz.f21.results.toList Tryz.f21.ntmps:=fnOk_mk (by kernel_rfl) (by kernel_rfl) (by kernel_rfl) (by kernel_rfl)
theorem R12_Small.ok:SpecOk PP 21 ⟨1,R12_Small.si,R12_Small.so,R12_Small.F⟩:=fn_stk cxR10_Low (inl0_ok _ _) mixed R12_Small.fn R12_Small.h (by kernel_rfl) R12_Small.ev
noncomputable def spR12_Small:List (Nat×List (Nat×AK)×Lv.Spec):=(21,[],⟨1,R12_Small.si,R12_Small.so,R12_Small.F⟩)::spR10_Low
noncomputable abbrev cR12_Small:Cx:=⟨tabAt tab0,eqAt eqs0,specAt spR12_Small,0,specPAt sq0⟩
theorem cxR12_Small:CxOk PP cR12_Small:=cxR10_Low.consS [] R12_Small.fn.enters R12_Small.ok
/-! levee/leveelaw21.small -/
def L21_small.si:Sh:=⟨[(0,.v true [.sl 110 tDef,.sl 74 tRel,.sl 123 tLook,.int .i64,.int .i64,.str,.int .i64,.int .i64,.str])],[],[],0,[]⟩
def L21_small.so:Sh:=⟨[(0,.v false [.bool])],[],[],1000,[]⟩
def L21_small.h:H:=.n
noncomputable def L21_small.B:(List tDefT)×(List tRelT)×(List tLookT)×Int×Int×ByteArray×Int×Int×ByteArray×Unit→Option (Bool×Unit):=fun (p0_0,p0_1,p0_2,p0_3,p0_4,p0_5,p0_6,p0_7,p0_8,_)=>
  Option.bind (R09_Big.F (p0_0,())) fun y1=>
  (bif (!y1.1) then
  Option.bind (R20_Small.F (p0_1,())) fun y2=>
  (bif y2.1 then
  Option.bind (R12_Small.F (p0_2,())) fun y3=>
  some (y3.1,())
  else
  some (false,()))
  else
  some (false,()))
noncomputable def L21_small.F:(List tDefT)×(List tRelT)×(List tLookT)×Int×Int×ByteArray×Int×Int×ByteArray×Unit→Option (Bool×Unit):=stk L21_small.B
theorem L21_small.eq:L21_small.F=L21_small.B:=stk_eq _
theorem L21_small.ev (x:TS L21_small.si):evF cR12_Small inl0 (Tryz.f6.body.getD .skip) Tryz.f6.results.toList L21_small.h L21_small.si L21_small.so x=L21_small.B x:=by kernel_rfl
theorem L21_small.fn:FnOk PP 6 (Tryz.f6.body.getD .skip) Tryz.f6.results.toList Tryz.f6.ntmps:=fnOk_mk (by kernel_rfl) (by kernel_rfl) (by kernel_rfl) (by kernel_rfl)
theorem L21_small.ok:SpecOk PP 6 ⟨1,L21_small.si,L21_small.so,L21_small.F⟩:=fn_stk cxR12_Small (inl0_ok _ _) mixed L21_small.fn L21_small.h (by kernel_rfl) L21_small.ev
noncomputable def spL21_small:List (Nat×List (Nat×AK)×Lv.Spec):=(6,[],⟨1,L21_small.si,L21_small.so,L21_small.F⟩)::spR12_Small
noncomputable abbrev cL21_small:Cx:=⟨tabAt tab0,eqAt eqs0,specAt spL21_small,0,specPAt sq0⟩
theorem cxL21_small:CxOk PP cL21_small:=cxR12_Small.consS [] L21_small.fn.enters L21_small.ok
/-! levee/leveeref21.Short -/
def R21_Short.si:Sh:=⟨[(0,.v true [.int .i64,.str,.sl 27 tValue])],[],[],0,[]⟩
def R21_Short.so:Sh:=⟨[(0,.v false [.bool])],[],[],1000,[]⟩
def R21_Short.h:H:=.n
noncomputable def R21_Short.B:Int×ByteArray×(List tValueT)×Unit→Option (Bool×Unit):=fun (p0_0,p0_1,p0_2,_)=>
  Option.bind (R02_Short.F (p0_2,())) fun y1=>
  (bif y1.1 then
  some ((decide ((p0_1.size:Int)≤(100:Int))),())
  else
  some (false,()))
noncomputable def R21_Short.F:Int×ByteArray×(List tValueT)×Unit→Option (Bool×Unit):=stk R21_Short.B
theorem R21_Short.eq:R21_Short.F=R21_Short.B:=stk_eq _
theorem R21_Short.ev (x:TS R21_Short.si):evF cL21_small inl0 (Tryz.f23.body.getD .skip) Tryz.f23.results.toList R21_Short.h R21_Short.si R21_Short.so x=R21_Short.B x:=by kernel_rfl
theorem R21_Short.fn:FnOk PP 23 (Tryz.f23.body.getD .skip) Tryz.f23.results.toList Tryz.f23.ntmps:=fnOk_mk (by kernel_rfl) (by kernel_rfl) (by kernel_rfl) (by kernel_rfl)
theorem R21_Short.ok:SpecOk PP 23 ⟨1,R21_Short.si,R21_Short.so,R21_Short.F⟩:=fn_stk cxL21_small (inl0_ok _ _) mixed R21_Short.fn R21_Short.h (by kernel_rfl) R21_Short.ev
noncomputable def spR21_Short:List (Nat×List (Nat×AK)×Lv.Spec):=(23,[],⟨1,R21_Short.si,R21_Short.so,R21_Short.F⟩)::spL21_small
noncomputable abbrev cR21_Short:Cx:=⟨tabAt tab0,eqAt eqs0,specAt spR21_Short,0,specPAt sq0⟩
theorem cxR21_Short:CxOk PP cR21_Short:=cxL21_small.consS [] R21_Short.fn.enters R21_Short.ok
/-! levee/leveeref20.Few -/
def R20_Few.si:Sh:=⟨[(0,.v true [.sl 143 tRead,.sl 128 tRange,.sl 126 tLook])],[],[],0,[]⟩
def R20_Few.so:Sh:=⟨[(0,.v false [.bool])],[],[],1000,[]⟩
def R20_Few.h:H:=(.s none .n (.s (some ⟨[],[],[1],0,[]⟩) (.s none .n (.b (.l ⟨[(3,.v false [.int .i64])],[],[1],0,[]⟩ .n))) (.s (some ⟨[],[],[1],0,[]⟩) (.s none .n (.b (.l ⟨[(4,.v false [.int .i64])],[],[1],0,[]⟩ .n))) .n)))
noncomputable def R20_Few.B:(List tReadT)×(List tRangeT)×(List tLookT)×Unit→Option (Bool×Unit):=fun (p0_0,p0_1,p0_2,_)=>
  Option.bind (
  loopM (S:=Int×Unit) (fun (x3,_)=>
  (bif (decide (x3<(p0_2.length:Int))) then
  bif (decide (0≤x3)&&decide (x3<(p0_2.length:Int))) then
  let e1:tLookT:=(List.getD p0_2 (Int.toNat x3) tLook.z)
  Option.bind (R05_Small.F (e1.2,())) fun y2=>
  (bif (!y2.1) then
  some (.inr (.inr (false,())))
  else
  let e3:Int:=(IntKind.i64.wrap (x3+(1:Int)))
  some (.inl (e3,())))
  else none
  else
  some (.inr (.inl (()))))) ((0:Int),()):Option ((Unit)⊕_)) fun r4=>match r4 with
  | .inl (_)=>
  (Option.bind (
  loopM (S:=Int×Unit) (fun (x4,_)=>
  (bif (decide (x4<(p0_1.length:Int))) then
  bif (decide (0≤x4)&&decide (x4<(p0_1.length:Int))) then
  let e5:tRangeT:=(List.getD p0_1 (Int.toNat x4) tRange.z)
  (bif (decide ((e5.2.2.2.length:Int)>(60:Int))) then
  some (.inr (.inr (false,())))
  else
  let e6:Int:=(IntKind.i64.wrap (x4+(1:Int)))
  some (.inl (e6,())))
  else none
  else
  some (.inr (.inl (()))))) ((0:Int),()):Option ((Unit)⊕_)) fun r7=>match r7 with
  | .inl (_)=>
  ((bif (decide ((p0_0.length:Int)≤(60:Int))) then
  (bif (decide ((p0_1.length:Int)≤(60:Int))) then
  some ((decide ((p0_2.length:Int)≤(60:Int))),())
  else
  some (false,()))
  else
  some (false,())))
  | .inr r=>some r)
  | .inr r=>some r
noncomputable def R20_Few.F:(List tReadT)×(List tRangeT)×(List tLookT)×Unit→Option (Bool×Unit):=stk R20_Few.B
theorem R20_Few.eq:R20_Few.F=R20_Few.B:=stk_eq _
theorem R20_Few.ev (x:TS R20_Few.si):evF cR21_Short inl0 (Tryz.f24.body.getD .skip) Tryz.f24.results.toList R20_Few.h R20_Few.si R20_Few.so x=R20_Few.B x:=by kernel_rfl
theorem R20_Few.fn:FnOk PP 24 (Tryz.f24.body.getD .skip) Tryz.f24.results.toList Tryz.f24.ntmps:=fnOk_mk (by kernel_rfl) (by kernel_rfl) (by kernel_rfl) (by kernel_rfl)
theorem R20_Few.ok:SpecOk PP 24 ⟨1,R20_Few.si,R20_Few.so,R20_Few.F⟩:=fn_stk cxR21_Short (inl0_ok _ _) mixed R20_Few.fn R20_Few.h (by kernel_rfl) R20_Few.ev
noncomputable def spR20_Few:List (Nat×List (Nat×AK)×Lv.Spec):=(24,[],⟨1,R20_Few.si,R20_Few.so,R20_Few.F⟩)::spR21_Short
noncomputable abbrev cR20_Few:Cx:=⟨tabAt tab0,eqAt eqs0,specAt spR20_Few,0,specPAt sq0⟩
theorem cxR20_Few:CxOk PP cR20_Few:=cxR21_Short.consS [] R20_Few.fn.enters R20_Few.ok
/-! levee/leveeref21.Small -/
def R21_Small.si:Sh:=⟨[(0,.v true [.sl 143 tRead,.sl 128 tRange,.sl 126 tLook,.sl 68 tWrite,.sl 56 tStmt,.sl 9 .str])],[],[],0,[]⟩
def R21_Small.so:Sh:=⟨[(0,.v false [.bool])],[],[],1000,[]⟩
def R21_Small.h:H:=(.s none .n (.s (some ⟨[],[],[1],0,[]⟩) (.s none .n (.b (.l ⟨[(3,.v false [.int .i64])],[],[1],0,[]⟩ .n))) (.s (some ⟨[],[],[1],0,[]⟩) (.s none .n (.b (.l ⟨[(4,.v false [.int .i64])],[],[1],0,[]⟩ .n))) .n)))
noncomputable def R21_Small.B:(List tReadT)×(List tRangeT)×(List tLookT)×(List tWriteT)×(List tStmtT)×(List ByteArray)×Unit→Option (Bool×Unit):=fun (p0_0,p0_1,p0_2,p0_3,p0_4,p0_5,_)=>
  Option.bind (
  loopM (S:=Int×Unit) (fun (x3,_)=>
  (bif (decide (x3<(p0_3.length:Int))) then
  bif (decide (0≤x3)&&decide (x3<(p0_3.length:Int))) then
  let e1:tWriteT:=(List.getD p0_3 (Int.toNat x3) tWrite.z)
  Option.bind (R02_Short.F (e1.2.2,())) fun y2=>
  (bif (!y2.1) then
  some (.inr (.inr (false,())))
  else
  bif (decide (0≤x3)&&decide (x3<(p0_3.length:Int))) then
  let e3:tWriteT:=(List.getD p0_3 (Int.toNat x3) tWrite.z)
  (bif (decide ((e3.1.size:Int)>(100:Int))) then
  some (.inr (.inr (false,())))
  else
  let e4:Int:=(IntKind.i64.wrap (x3+(1:Int)))
  some (.inl (e4,())))
  else none)
  else none
  else
  some (.inr (.inl (()))))) ((0:Int),()):Option ((Unit)⊕_)) fun r5=>match r5 with
  | .inl (_)=>
  (Option.bind (
  loopM (S:=Int×Unit) (fun (x4,_)=>
  (bif (decide (x4<(p0_4.length:Int))) then
  bif (decide (0≤x4)&&decide (x4<(p0_4.length:Int))) then
  let e6:tStmtT:=(List.getD p0_4 (Int.toNat x4) tStmt.z)
  Option.bind (R21_Short.F (e6.1,e6.2.1,e6.2.2,())) fun y7=>
  (bif (!y7.1) then
  some (.inr (.inr (false,())))
  else
  let e8:Int:=(IntKind.i64.wrap (x4+(1:Int)))
  some (.inl (e8,())))
  else none
  else
  some (.inr (.inl (()))))) ((0:Int),()):Option ((Unit)⊕_)) fun r9=>match r9 with
  | .inl (_)=>
  (Option.bind (R20_Few.F (p0_0,p0_1,p0_2,())) fun y10=>
  (bif y10.1 then
  (bif (decide ((p0_3.length:Int)≤(60:Int))) then
  (bif (decide ((p0_4.length:Int)≤(60:Int))) then
  some ((decide ((p0_5.length:Int)≤(60:Int))),())
  else
  some (false,()))
  else
  some (false,()))
  else
  some (false,())))
  | .inr r=>some r)
  | .inr r=>some r
noncomputable def R21_Small.F:(List tReadT)×(List tRangeT)×(List tLookT)×(List tWriteT)×(List tStmtT)×(List ByteArray)×Unit→Option (Bool×Unit):=stk R21_Small.B
theorem R21_Small.eq:R21_Small.F=R21_Small.B:=stk_eq _
theorem R21_Small.ev (x:TS R21_Small.si):evF cR20_Few inl0 (Tryz.f7.body.getD .skip) Tryz.f7.results.toList R21_Small.h R21_Small.si R21_Small.so x=R21_Small.B x:=by kernel_rfl
theorem R21_Small.fn:FnOk PP 7 (Tryz.f7.body.getD .skip) Tryz.f7.results.toList Tryz.f7.ntmps:=fnOk_mk (by kernel_rfl) (by kernel_rfl) (by kernel_rfl) (by kernel_rfl)
theorem R21_Small.ok:SpecOk PP 7 ⟨1,R21_Small.si,R21_Small.so,R21_Small.F⟩:=fn_stk cxR20_Few (inl0_ok _ _) mixed R21_Small.fn R21_Small.h (by kernel_rfl) R21_Small.ev
noncomputable def spR21_Small:List (Nat×List (Nat×AK)×Lv.Spec):=(7,[],⟨1,R21_Small.si,R21_Small.so,R21_Small.F⟩)::spR20_Few
noncomputable abbrev cR21_Small:Cx:=⟨tabAt tab0,eqAt eqs0,specAt spR21_Small,0,specPAt sq0⟩
theorem cxR21_Small:CxOk PP cR21_Small:=cxR20_Few.consS [] R21_Small.fn.enters R21_Small.ok
/-! levee/leveelaw21.TxnScans -/
def L21_TxnScans.si:Sh:=⟨[(0,.v true [.sl 110 tDef,.sl 74 tRel,.sl 123 tLook,.int .i64,.int .i64,.str,.int .i64,.int .i64,.str]),(1,.v true [.sl 143 tRead,.sl 128 tRange,.sl 126 tLook,.sl 68 tWrite,.sl 56 tStmt,.sl 9 .str]),(2,.v false [.str])],[],[],0,[]⟩
def L21_TxnScans.so:Sh:=⟨[(0,.v false [.bool])],[],[],1000,[]⟩
def L21_TxnScans.h:H:=(.s none .n (.s none (.s (some ⟨[(28,.v false [.bool])],[],[2,3,4],0,[]⟩) .n .n) (.s none .n (.s none (.s none .n (.b (.l ⟨[(8,.v false [.int .i64])],[],[2,3,4,7],0,[]⟩ (.s none .n (.s none (.b (.s none .n (.s none .n (.s none .n (.s (some ⟨[(10,.v false [.sl 27 tValue]),(108,.v false [.bool])],[],[2,3,4,7,8],0,[]⟩) .n .n))))) .n))))) .n))))
noncomputable def L21_TxnScans.B:(List tDefT)×(List tRelT)×(List tLookT)×Int×Int×ByteArray×Int×Int×ByteArray×(List tReadT)×(List tRangeT)×(List tLookT)×(List tWriteT)×(List tStmtT)×(List ByteArray)×ByteArray×Unit→Option (Bool×Unit):=fun (p0_0,p0_1,p0_2,p0_3,p0_4,p0_5,p0_6,p0_7,p0_8,p1_0,p1_1,p1_2,p1_3,p1_4,p1_5,p2,_)=>
  Option.bind (
  Option.bind (L21_fixed.F (())) fun y1=>
  (bif (!y1.1) then
  some (.inl (true,()))
  else
  Option.bind (L21_small.F (p0_0,p0_1,p0_2,p0_3,p0_4,p0_5,p0_6,p0_7,p0_8,())) fun y2=>
  (bif (!y2.1) then
  some (.inl (true,()))
  else
  Option.bind (R21_Small.F (p1_0,p1_1,p1_2,p1_3,p1_4,p1_5,())) fun y3=>
  (bif (!y3.1) then
  some (.inl (true,()))
  else
  some (.inl ((decide ((p2.size:Int)>(100:Int))),()))))):Option ((Bool×Unit)⊕_)) fun r4=>match r4 with
  | .inl (x28_4,_)=>
  ((bif x28_4 then
  Option.bind (L21_fixed.F (())) fun y5=>
  some (y5.1,())
  else
  Option.bind (txn_Rows.F (p0_1,p1_3,p2,p0_3,p0_4,p0_5,p0_6,p0_7,p0_8,())) fun y6=>
  loopM (S:=Int×Unit) (fun (x8,_)=>
  (bif (decide (x8<(y6.1.length:Int))) then
  bif (decide (0≤x8)&&decide (x8<(y6.1.length:Int))) then
  let e7:(List tValueT):=(List.getD y6.1 (Int.toNat x8) [])
  (bif ((e7.length:Int)==(0:Int)) then
  some (.inr (false,()))
  else
  bif (decide (0≤x8)&&decide (x8<(y6.1.length:Int))) then
  let e8:(List tValueT):=(List.getD y6.1 (Int.toNat x8) [])
  bif (decide (0≤(0:Int))&&decide ((0:Int)<(e8.length:Int))) then
  let e9:tValueT:=(List.getD e8 0 tValue.z)
  Option.bind (txn_Row.F (p0_1,p1_3,p2,e9.1,e9.2.1,e9.2.2,())) fun y10=>
  Option.bind (
  (bif (!y10.1) then
  some (.inl (y10.2.1,true,()))
  else
  bif (decide (0≤x8)&&decide (x8<(y6.1.length:Int))) then
  let e11:(List tValueT):=(List.getD y6.1 (Int.toNat x8) [])
  Option.bind (R02_Same.F (y10.2.1,e11,())) fun y12=>
  (bif (!y12.1) then
  some (.inl (y10.2.1,true,()))
  else
  Option.bind (R01_Compare.F (e9.1,e9.2.1,e9.2.2,p0_3,p0_4,p0_5,())) fun y13=>
  (bif (decide (y13.1<(0:Int))) then
  some (.inl (y10.2.1,true,()))
  else
  Option.bind (R01_Compare.F (e9.1,e9.2.1,e9.2.2,p0_6,p0_7,p0_8,())) fun y14=>
  (bif (decide (y14.1≥(0:Int))) then
  some (.inl (y10.2.1,true,()))
  else
  (bif (decide (x8>(0:Int))) then
  let e15:Int:=(IntKind.i64.wrap (x8-(1:Int)))
  bif (decide (0≤e15)&&decide (e15<(y6.1.length:Int))) then
  let e16:(List tValueT):=(List.getD y6.1 (Int.toNat e15) [])
  bif (decide (0≤(0:Int))&&decide ((0:Int)<(e16.length:Int))) then
  let e17:tValueT:=(List.getD e16 0 tValue.z)
  Option.bind (R01_Compare.F (e17.1,e17.2.1,e17.2.2,e9.1,e9.2.1,e9.2.2,())) fun y18=>
  some (.inl (y10.2.1,(decide (y18.1≥(0:Int))),()))
  else none
  else none
  else
  some (.inl (y10.2.1,false,()))))))
  else none):Option (((List tValueT)×Bool×Unit)⊕_)) fun r19=>match r19 with
  | .inl (x10_19,x108_19,_)=>
  ((bif x108_19 then
  some (.inr (false,()))
  else
  let e20:Int:=(IntKind.i64.wrap (x8+(1:Int)))
  some (.inl (e20,()))))
  | .inr r=>some r
  else none
  else none)
  else none
  else
  some (.inr (true,())))) ((0:Int),())))
  | .inr r=>some r
noncomputable def L21_TxnScans.F:(List tDefT)×(List tRelT)×(List tLookT)×Int×Int×ByteArray×Int×Int×ByteArray×(List tReadT)×(List tRangeT)×(List tLookT)×(List tWriteT)×(List tStmtT)×(List ByteArray)×ByteArray×Unit→Option (Bool×Unit):=stk L21_TxnScans.B
theorem L21_TxnScans.eq:L21_TxnScans.F=L21_TxnScans.B:=stk_eq _
theorem L21_TxnScans.ev (x:TS L21_TxnScans.si):evF cR21_Small inl0 (Tryz.f3.body.getD .skip) Tryz.f3.results.toList L21_TxnScans.h L21_TxnScans.si L21_TxnScans.so x=L21_TxnScans.B x:=by kernel_rfl
theorem L21_TxnScans.fn:FnOk PP 3 (Tryz.f3.body.getD .skip) Tryz.f3.results.toList Tryz.f3.ntmps:=fnOk_mk (by kernel_rfl) (by kernel_rfl) (by kernel_rfl) (by kernel_rfl)
theorem L21_TxnScans.ok:SpecOk PP 3 ⟨3,L21_TxnScans.si,L21_TxnScans.so,L21_TxnScans.F⟩:=fn_stk cxR21_Small (inl0_ok _ _) mixed L21_TxnScans.fn L21_TxnScans.h (by kernel_rfl) L21_TxnScans.ev
noncomputable def spL21_TxnScans:List (Nat×List (Nat×AK)×Lv.Spec):=(3,[],⟨3,L21_TxnScans.si,L21_TxnScans.so,L21_TxnScans.F⟩)::spR21_Small
noncomputable abbrev cL21_TxnScans:Cx:=⟨tabAt tab0,eqAt eqs0,specAt spL21_TxnScans,0,specPAt sq0⟩
theorem cxL21_TxnScans:CxOk PP cL21_TxnScans:=cxR21_Small.consS [] L21_TxnScans.fn.enters L21_TxnScans.ok
end Go.Proofs.Ytniojllnooblcaa
end
