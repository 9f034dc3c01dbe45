import Derived.Test.YtleadolkcmagfaaGreatDoorDB
set_option linter.all false
set_option linter.unusedVariables false
set_option linter.unusedSimpArgs false
set_option linter.unusedSectionVars false
set_option maxRecDepth 100000
namespace Go.Proofs.Ytleadolkcmagfaa
open Go Lv Go.Proofs Go.RowKit Go.Shelf
def R09_Name.si:Sh:=⟨[(0,.v true [.int .i64,.str,.sl 41 tColumn,.sl 32 (.sl 78 tNode),.str,.str,.str,.int .i64,.int .i64,.sl 78 tNode,.sl 3 (.int .i64),.bool,.sl 66 tAgg])],[],[],0,[]⟩
def R09_Name.so:Sh:=⟨[(0,.v false [.str])],[],[],1000,[]⟩
def R09_Name.h:H:=.n
noncomputable def R09_Name.B:Int×ByteArray×(List tColumnT)×(List (List tNodeT))×ByteArray×ByteArray×ByteArray×Int×Int×(List tNodeT)×(List Int)×Bool×(List tAggT)×Unit→Option (ByteArray×Unit):=fun (p0_0,p0_1,p0_2,p0_3,p0_4,p0_5,p0_6,p0_7,p0_8,p0_9,p0_10,p0_11,p0_12,_)=>
  (bif (p0_0==(0:Int)) then
  some (p0_1,())
  else
  some (p0_4,()))
noncomputable def R09_Name.F:Int×ByteArray×(List tColumnT)×(List (List tNodeT))×ByteArray×ByteArray×ByteArray×Int×Int×(List tNodeT)×(List Int)×Bool×(List tAggT)×Unit→Option (ByteArray×Unit):=stk R09_Name.B
theorem R09_Name.ev (x:TS R09_Name.si):evF cddl_May inl0 (Tryz.f13.body.getD .skip) Tryz.f13.results.toList R09_Name.h R09_Name.si R09_Name.so x=R09_Name.B x:=by kernel_rfl
theorem R09_Name.fn:FnOk PP 13 (Tryz.f13.body.getD .skip) Tryz.f13.results.toList Tryz.f13.ntmps:=fnOk_mk (by kernel_rfl) (by kernel_rfl) (by kernel_rfl) (by kernel_rfl)
theorem R09_Name.ok:SpecOk PP 13 ⟨1,R09_Name.si,R09_Name.so,R09_Name.F⟩:=fn_stk cxddl_May (inl0_ok _ _) mixed R09_Name.fn R09_Name.h (by kernel_rfl) R09_Name.ev
noncomputable def spR09_Name:List (Nat×List (Nat×AK)×Lv.Spec):=(13,[],⟨1,R09_Name.si,R09_Name.so,R09_Name.F⟩)::spddl_May
noncomputable abbrev cR09_Name:Cx:=⟨tabAt tab0,eqAt eqs0,specAt spR09_Name,159,specPAt sqddl_parser_view⟩
theorem cxR09_Name:CxOk PP cR09_Name:=cxddl_May.consS [] R09_Name.fn.enters R09_Name.ok
def R09_Same.si:Sh:=⟨[(0,.v false [.sl 38 tDef]),(1,.v false [.sl 38 tDef])],[],[],0,[]⟩
def R09_Same.so:Sh:=⟨[(0,.v false [.bool])],[],[],1000,[]⟩
def R09_Same.h:H:=(.s none .n (.s none .n (.s none (.s none .n (.b (.l ⟨[(5,.v false [.int .i64])],[],[0,1],0,[]⟩ .n))) .n)))
noncomputable def R09_Same.B:(List tDefT)×(List tDefT)×Unit→Option (Bool×Unit):=fun (p0,p1,_)=>
  (bif ((p0.length:Int) !=(p1.length:Int)) then
  some (false,())
  else
  loopM (S:=Int×Unit) (fun (x5,_)=>
  (bif (decide (x5<(p0.length:Int))) then
  bif (decide (0≤x5)&&decide (x5<(p0.length:Int))) then
  let e1:tDefT:=(List.getD p0 (Int.toNat x5) tDef.z)
  bif (decide (0≤x5)&&decide (x5<(p1.length:Int))) then
  let e2:tDefT:=(List.getD p1 (Int.toNat x5) tDef.z)
  Option.bind (R07_Same.F (e1.1,e1.2.1.1,e1.2.1.2.1,e1.2.1.2.2,e1.2.2.1,e1.2.2.2.1,e1.2.2.2.2.1,e1.2.2.2.2.2.1.1,e1.2.2.2.2.2.1.2,e1.2.2.2.2.2.2.1,e1.2.2.2.2.2.2.2.1,e1.2.2.2.2.2.2.2.2.1,e1.2.2.2.2.2.2.2.2.2,e2.1,e2.2.1.1,e2.2.1.2.1,e2.2.1.2.2,e2.2.2.1,e2.2.2.2.1,e2.2.2.2.2.1,e2.2.2.2.2.2.1.1,e2.2.2.2.2.2.1.2,e2.2.2.2.2.2.2.1,e2.2.2.2.2.2.2.2.1,e2.2.2.2.2.2.2.2.2.1,e2.2.2.2.2.2.2.2.2.2,())) fun y3=>
  (bif (!y3.1) then
  some (.inr (false,()))
  else
  let e4:Int:=(IntKind.i64.wrap (x5+(1:Int)))
  some (.inl (e4,())))
  else none
  else none
  else
  some (.inr (true,())))) ((0:Int),()))
noncomputable def R09_Same.F:(List tDefT)×(List tDefT)×Unit→Option (Bool×Unit):=stk R09_Same.B
theorem R09_Same.ev (x:TS R09_Same.si):evF cR09_Name inl0 (Tryz.f16.body.getD .skip) Tryz.f16.results.toList R09_Same.h R09_Same.si R09_Same.so x=R09_Same.B x:=by kernel_rfl
theorem R09_Same.fn:FnOk PP 16 (Tryz.f16.body.getD .skip) Tryz.f16.results.toList Tryz.f16.ntmps:=fnOk_mk (by kernel_rfl) (by kernel_rfl) (by kernel_rfl) (by kernel_rfl)
theorem R09_Same.ok:SpecOk PP 16 ⟨2,R09_Same.si,R09_Same.so,R09_Same.F⟩:=fn_stk cxR09_Name (inl0_ok _ _) mixed R09_Same.fn R09_Same.h (by kernel_rfl) R09_Same.ev
noncomputable def spR09_Same:List (Nat×List (Nat×AK)×Lv.Spec):=(16,[],⟨2,R09_Same.si,R09_Same.so,R09_Same.F⟩)::spR09_Name
noncomputable abbrev cR09_Same:Cx:=⟨tabAt tab0,eqAt eqs0,specAt spR09_Same,159,specPAt sqddl_parser_view⟩
theorem cxR09_Same:CxOk PP cR09_Same:=cxR09_Name.consS [] R09_Same.fn.enters R09_Same.ok
def R09_Bools.si:Sh:=⟨[(0,.v false [.sl 4 .bool]),(1,.v false [.sl 4 .bool])],[],[],0,[]⟩
def R09_Bools.so:Sh:=⟨[(0,.v false [.bool])],[],[],1000,[]⟩
def R09_Bools.h:H:=(.s none .n (.s none .n (.s none (.s none .n (.b (.l ⟨[(5,.v false [.int .i64])],[],[0,1],0,[]⟩ .n))) .n)))
noncomputable def R09_Bools.B:(List Bool)×(List Bool)×Unit→Option (Bool×Unit):=fun (p0,p1,_)=>
  (bif ((p0.length:Int) !=(p1.length:Int)) then
  some (false,())
  else
  loopM (S:=Int×Unit) (fun (x5,_)=>
  (bif (decide (x5<(p0.length:Int))) then
  bif (decide (0≤x5)&&decide (x5<(p0.length:Int))) then
  let e1:Bool:=(List.getD p0 (Int.toNat x5) false)
  bif (decide (0≤x5)&&decide (x5<(p1.length:Int))) then
  let e2:Bool:=(List.getD p1 (Int.toNat x5) false)
  (bif (!(e1==e2)) then
  some (.inr (false,()))
  else
  let e3:Int:=(IntKind.i64.wrap (x5+(1:Int)))
  some (.inl (e3,())))
  else none
  else none
  else
  some (.inr (true,())))) ((0:Int),()))
noncomputable def R09_Bools.F:(List Bool)×(List Bool)×Unit→Option (Bool×Unit):=stk R09_Bools.B
theorem R09_Bools.eq:R09_Bools.F=R09_Bools.B:=stk_eq _
theorem R09_Bools.ev (x:TS R09_Bools.si):evF cR09_Same inl0 (Tryz.f18.body.getD .skip) Tryz.f18.results.toList R09_Bools.h R09_Bools.si R09_Bools.so x=R09_Bools.B x:=by kernel_rfl
theorem R09_Bools.fn:FnOk PP 18 (Tryz.f18.body.getD .skip) Tryz.f18.results.toList Tryz.f18.ntmps:=fnOk_mk (by kernel_rfl) (by kernel_rfl) (by kernel_rfl) (by kernel_rfl)
theorem R09_Bools.ok:SpecOk PP 18 ⟨2,R09_Bools.si,R09_Bools.so,R09_Bools.F⟩:=fn_stk cxR09_Same (inl0_ok _ _) mixed R09_Bools.fn R09_Bools.h (by kernel_rfl) R09_Bools.ev
noncomputable def spR09_Bools:List (Nat×List (Nat×AK)×Lv.Spec):=(18,[],⟨2,R09_Bools.si,R09_Bools.so,R09_Bools.F⟩)::spR09_Same
noncomputable abbrev cR09_Bools:Cx:=⟨tabAt tab0,eqAt eqs0,specAt spR09_Bools,159,specPAt sqddl_parser_view⟩
theorem cxR09_Bools:CxOk PP cR09_Bools:=cxR09_Same.consS [] R09_Bools.fn.enters R09_Bools.ok
def R09_Big.si:Sh:=⟨[(0,.v false [.sl 38 tDef])],[],[],0,[]⟩
def R09_Big.so:Sh:=⟨[(0,.v false [.bool])],[],[],1000,[]⟩
def R09_Big.h:H:=(.s none .n (.s none .n (.s (some ⟨[(3,.v false [.int .i64])],[],[0],0,[]⟩) (.s none .n (.b (.l ⟨[(3,.v false [.int .i64]),(4,.v false [.int .i64])],[],[0],0,[]⟩ (.s none .n (.s none (.b (.s (some ⟨[],[],[0,3,4],0,[]⟩) .n .n)) .n))))) (.s none .n (.s (some ⟨[(5,.v false [.int .i64])],[],[0,3],0,[]⟩) (.s none .n (.b (.l ⟨[(5,.v false [.int .i64]),(6,.v false [.int .i64])],[],[0,3],0,[]⟩ .n))) .n)))))
noncomputable def R09_Big.B:(List tDefT)×Unit→Option (Bool×Unit):=fun (p0,_)=>
  Option.bind (
  loopM (S:=Int×Int×Unit) (fun (x3,x4,_)=>
  (bif (decide (x4<(p0.length:Int))) then
  Option.bind (
  bif (decide (0≤x4)&&decide (x4<(p0.length:Int))) then
  let e1:tDefT:=(List.getD p0 (Int.toNat x4) tDef.z)
  Option.bind (R07_Big.F (e1.1,e1.2.1.1,e1.2.1.2.1,e1.2.1.2.2,e1.2.2.1,e1.2.2.2.1,e1.2.2.2.2.1,e1.2.2.2.2.2.1.1,e1.2.2.2.2.2.1.2,e1.2.2.2.2.2.2.1,e1.2.2.2.2.2.2.2.1,e1.2.2.2.2.2.2.2.2.1,e1.2.2.2.2.2.2.2.2.2,())) fun y2=>
  (bif y2.1 then
  some (.inr (.inr (.inr (true,()))))
  else
  bif (decide (0≤x4)&&decide (x4<(p0.length:Int))) then
  let e3:tDefT:=(List.getD p0 (Int.toNat x4) tDef.z)
  Option.bind (R07_Print.F (e3.1,e3.2.1.1,e3.2.1.2.1,e3.2.1.2.2,e3.2.2.1,e3.2.2.2.1,e3.2.2.2.2.1,e3.2.2.2.2.2.1.1,e3.2.2.2.2.2.1.2,e3.2.2.2.2.2.2.1,e3.2.2.2.2.2.2.2.1,e3.2.2.2.2.2.2.2.2.1,e3.2.2.2.2.2.2.2.2.2,())) fun y4=>
  (bif (decide ((y4.1.size:Int)>(2000:Int))) then
  some (.inr (.inr (.inr (true,()))))
  else
  some (.inl (())))
  else none)
  else none:Option ((Unit)⊕_)) fun r5=>match r5 with
  | .inl (_)=>
  (bif (decide (0≤x4)&&decide (x4<(p0.length:Int))) then
  let e6:tDefT:=(List.getD p0 (Int.toNat x4) tDef.z)
  bif (decide (0≤x4)&&decide (x4<(p0.length:Int))) then
  let e7:tDefT:=(List.getD p0 (Int.toNat x4) tDef.z)
  let e8:Int:=(IntKind.i64.wrap ((e6.2.1.2.1.length:Int)+(e7.2.2.2.2.2.2.2.1.length:Int)))
  let e9:Int:=(IntKind.i64.wrap (x3+e8))
  let e10:Int:=(IntKind.i64.wrap (x4+(1:Int)))
  some (.inl (e9,e10,()))
  else none
  else none)
  | .inr r=>some r
  else
  some (.inr (.inl (x3,()))))) ((0:Int),(0:Int),()):Option ((Int×Unit)⊕_)) fun r11=>match r11 with
  | .inl (x3_11,_)=>
  (Option.bind (
  loopM (S:=Int×Int×Unit) (fun (x5,x6,_)=>
  (bif (decide (x6<(p0.length:Int))) then
  bif (decide (0≤x6)&&decide (x6<(p0.length:Int))) then
  let e12:tDefT:=(List.getD p0 (Int.toNat x6) tDef.z)
  (bif (!(e12.2.2.2.2.1.toList==(⟨#[]⟩:ByteArray).toList)) then
  let e13:Int:=(IntKind.i64.wrap (x5+(1:Int)))
  let e14:Int:=(IntKind.i64.wrap (x6+(1:Int)))
  some (.inl (e13,e14,()))
  else
  let e15:Int:=(IntKind.i64.wrap (x6+(1:Int)))
  some (.inl (x5,e15,())))
  else none
  else
  some (.inr (.inl (x5,()))))) ((0:Int),(0:Int),()):Option ((Int×Unit)⊕_)) fun r16=>match r16 with
  | .inl (x5_16,_)=>
  ((bif (decide ((p0.length:Int)>(22:Int))) then
  some (true,())
  else
  (bif (decide (x3_11>(200:Int))) then
  some (true,())
  else
  some ((decide (x5_16>(6:Int))),()))))
  | .inr r=>some r)
  | .inr r=>some r
noncomputable def R09_Big.F:(List tDefT)×Unit→Option (Bool×Unit):=stk R09_Big.B
theorem R09_Big.ev (x:TS R09_Big.si):evF cR09_Bools inl0 (Tryz.f9.body.getD .skip) Tryz.f9.results.toList R09_Big.h R09_Big.si R09_Big.so x=R09_Big.B x:=by kernel_rfl
theorem R09_Big.fn:FnOk PP 9 (Tryz.f9.body.getD .skip) Tryz.f9.results.toList Tryz.f9.ntmps:=fnOk_mk (by kernel_rfl) (by kernel_rfl) (by kernel_rfl) (by kernel_rfl)
theorem R09_Big.ok:SpecOk PP 9 ⟨1,R09_Big.si,R09_Big.so,R09_Big.F⟩:=fn_stk cxR09_Bools (inl0_ok _ _) mixed R09_Big.fn R09_Big.h (by kernel_rfl) R09_Big.ev
noncomputable def spR09_Big:List (Nat×List (Nat×AK)×Lv.Spec):=(9,[],⟨1,R09_Big.si,R09_Big.so,R09_Big.F⟩)::spR09_Bools
noncomputable abbrev cR09_Big:Cx:=⟨tabAt tab0,eqAt eqs0,specAt spR09_Big,159,specPAt sqddl_parser_view⟩
theorem cxR09_Big:CxOk PP cR09_Big:=cxR09_Bools.consS [] R09_Big.fn.enters R09_Big.ok
def L09_table.si:Sh:=⟨[(0,.v false [.str]),(1,.v false [.str])],[],[],0,[]⟩
def L09_table.so:Sh:=⟨[(0,.v true [.int .i64,.str,.ref 1000,.sl 32 (.sl 78 tNode),.str,.str,.str,.int .i64,.int .i64,.sl 78 tNode,.sl 3 (.int .i64),.bool,.sl 66 tAgg])],[(1000,false,.arr 41 tColumn)],[],1001,[]⟩
def L09_table.h:H:=.n
noncomputable def L09_table.B:ByteArray×ByteArray×Unit→Option (Int×ByteArray×(List (List tNodeT))×ByteArray×ByteArray×ByteArray×Int×Int×(List tNodeT)×(List Int)×Bool×(List tAggT)×(List tColumnT)×Unit):=fun (p0,p1,_)=>
  some ((0:Int),p0,([]:List (List tNodeT)),(⟨#[]⟩:ByteArray),(⟨#[]⟩:ByteArray),(⟨#[]⟩:ByteArray),(0:Int),(0:Int),([]:List tNodeT),([]:List Int),false,([]:List tAggT),[((⟨#[107]⟩:ByteArray),((2:Int),(false,(false,((⟨#[]⟩:ByteArray),(0:Int)))))),((⟨#[97]⟩:ByteArray),((2:Int),(true,(false,(p1,(0:Int))))))],())
noncomputable def L09_table.F:ByteArray×ByteArray×Unit→Option (Int×ByteArray×(List (List tNodeT))×ByteArray×ByteArray×ByteArray×Int×Int×(List tNodeT)×(List Int)×Bool×(List tAggT)×(List tColumnT)×Unit):=stk L09_table.B
theorem L09_table.eq:L09_table.F=L09_table.B:=stk_eq _
theorem L09_table.ev (x:TS L09_table.si):evF cR09_Big inl0 (Tryz.f19.body.getD .skip) Tryz.f19.results.toList L09_table.h L09_table.si L09_table.so x=L09_table.B x:=by kernel_rfl
theorem L09_table.fn:FnOk PP 19 (Tryz.f19.body.getD .skip) Tryz.f19.results.toList Tryz.f19.ntmps:=fnOk_mk (by kernel_rfl) (by kernel_rfl) (by kernel_rfl) (by kernel_rfl)
theorem L09_table.ok:SpecOk PP 19 ⟨2,L09_table.si,L09_table.so,L09_table.F⟩:=fn_stk cxR09_Big (inl0_ok _ _) mixed L09_table.fn L09_table.h (by kernel_rfl) L09_table.ev
noncomputable def spL09_table:List (Nat×List (Nat×AK)×Lv.Spec):=(19,[],⟨2,L09_table.si,L09_table.so,L09_table.F⟩)::spR09_Big
noncomputable abbrev cL09_table:Cx:=⟨tabAt tab0,eqAt eqs0,specAt spL09_table,159,specPAt sqddl_parser_view⟩
theorem cxL09_table:CxOk PP cL09_table:=cxR09_Big.consS [] L09_table.fn.enters L09_table.ok
def schema_Name.si:Sh:=⟨[(0,.v true [.int .i64,.str,.sl 41 tColumn,.sl 32 (.sl 78 tNode),.str,.str,.str,.int .i64,.int .i64,.sl 78 tNode,.sl 3 (.int .i64),.bool,.sl 66 tAgg])],[],[],0,[]⟩
def schema_Name.so:Sh:=⟨[(0,.v false [.str])],[],[],1000,[]⟩
def schema_Name.h:H:=.n
noncomputable def schema_Name.B:Int×ByteArray×(List tColumnT)×(List (List tNodeT))×ByteArray×ByteArray×ByteArray×Int×Int×(List tNodeT)×(List Int)×Bool×(List tAggT)×Unit→Option (ByteArray×Unit):=fun (p0_0,p0_1,p0_2,p0_3,p0_4,p0_5,p0_6,p0_7,p0_8,p0_9,p0_10,p0_11,p0_12,_)=>
  (bif (p0_0==(0:Int)) then
  some (p0_1,())
  else
  some (p0_4,()))
noncomputable def schema_Name.F:Int×ByteArray×(List tColumnT)×(List (List tNodeT))×ByteArray×ByteArray×ByteArray×Int×Int×(List tNodeT)×(List Int)×Bool×(List tAggT)×Unit→Option (ByteArray×Unit):=stk schema_Name.B
theorem schema_Name.eq:schema_Name.F=schema_Name.B:=stk_eq _
theorem schema_Name.ev (x:TS schema_Name.si):evF cL09_table inl0 (Tryz.f25.body.getD .skip) Tryz.f25.results.toList schema_Name.h schema_Name.si schema_Name.so x=schema_Name.B x:=by kernel_rfl
theorem schema_Name.fn:FnOk PP 25 (Tryz.f25.body.getD .skip) Tryz.f25.results.toList Tryz.f25.ntmps:=fnOk_mk (by kernel_rfl) (by kernel_rfl) (by kernel_rfl) (by kernel_rfl)
theorem schema_Name.ok:SpecOk PP 25 ⟨1,schema_Name.si,schema_Name.so,schema_Name.F⟩:=fn_stk cxL09_table (inl0_ok _ _) mixed schema_Name.fn schema_Name.h (by kernel_rfl) schema_Name.ev
noncomputable def spschema_Name:List (Nat×List (Nat×AK)×Lv.Spec):=(25,[],⟨1,schema_Name.si,schema_Name.so,schema_Name.F⟩)::spL09_table
noncomputable abbrev cschema_Name:Cx:=⟨tabAt tab0,eqAt eqs0,specAt spschema_Name,159,specPAt sqddl_parser_view⟩
theorem cxschema_Name:CxOk PP cschema_Name:=cxL09_table.consS [] schema_Name.fn.enters schema_Name.ok
def schema_Find.si:Sh:=⟨[(0,.v false [.sl 38 tDef]),(1,.v false [.str])],[],[],0,[]⟩
def schema_Find.so:Sh:=⟨[(0,.v false [.int .i64])],[],[],1000,[]⟩
def schema_Find.h:H:=.n
noncomputable def schema_Find.B:(List tDefT)×ByteArray×Unit→Option (Int×Unit):=fun (p0,p1,_)=>
  loopM (S:=Int×Unit) (fun (x8,_)=>
  (bif (decide (x8<(p0.length:Int))) then
  Option.bind (
  bif (decide (0≤x8)&&decide (x8<(p0.length:Int))) then
  let e1:tDefT:=(List.getD p0 (Int.toNat x8) tDef.z)
  Option.bind (schema_Name.F (e1.1,e1.2.1.1,e1.2.1.2.1,e1.2.1.2.2,e1.2.2.1,e1.2.2.2.1,e1.2.2.2.2.1,e1.2.2.2.2.2.1.1,e1.2.2.2.2.2.1.2,e1.2.2.2.2.2.2.1,e1.2.2.2.2.2.2.2.1,e1.2.2.2.2.2.2.2.2.1,e1.2.2.2.2.2.2.2.2.2,())) fun y2=>
  some (.inl ((y2.1.toList==p1.toList),()))
  else none:Option ((Bool×Unit)⊕_)) fun r3=>match r3 with
  | .inl (x16_3,_)=>
  ((bif x16_3 then
  some (.inr (x8,()))
  else
  let e4:Int:=(IntKind.i64.wrap (x8+(1:Int)))
  some (.inl (e4,()))))
  | .inr r=>some r
  else
  some (.inr ((-1:Int),())))) ((0:Int),())
noncomputable def schema_Find.F:(List tDefT)×ByteArray×Unit→Option (Int×Unit):=stk schema_Find.B
theorem schema_Find.eq:schema_Find.F=schema_Find.B:=stk_eq _
noncomputable def schema_Find.ins:Nat→List (Option Slot)→Heap→Option (Code×List ResultVar×H):=fun g xs hp=>bif Nat.beq g 23&&cloK xs hp 1 24 then some (Tryz.f23.body.getD .skip,Tryz.f23.results.toList,(.s none .n (.s none (.s none .n (.b (.l ⟨[(8,.v false [.int .i64])],[],[0,1,7],0,[]⟩ (.s none .n (.s none .n (.s none (.b (.s none .n (.s (some ⟨[(16,.v false [.bool])],[],[0,1,5,7,8],0,[]⟩) .n .n))) .n)))))) .n))) else bif Nat.beq g 24 then some (Tryz.f24.body.getD .skip,Tryz.f24.results.toList,.n) else none
theorem schema_Find.ins_ok:∀n xs hp code res h,schema_Find.ins n xs hp=some (code,res,h)→∃nt,FnOk PP n code res nt:=by
  intro n xs hp code res h e
  unfold schema_Find.ins at e
  cases e0:(Nat.beq n 23&&cloK xs hp 1 24) with
  |true=>rw [e0] at e;cases e;rw [Nat.eq_of_beq_eq_true (Bool.and_eq_true_iff.1 e0).1];exact ⟨_,fnOk_mk (by kernel_rfl) (by kernel_rfl) (by kernel_rfl) (by kernel_rfl)⟩
  |false=>
  rw [e0] at e
  cases e1:(Nat.beq n 24) with
  |true=>rw [e1] at e;cases e;rw [Nat.eq_of_beq_eq_true e1];exact ⟨_,fnOk_mk (by kernel_rfl) (by kernel_rfl) (by kernel_rfl) (by kernel_rfl)⟩
  |false=>
  rw [e1] at e
  cases e
theorem schema_Find.ev (x:TS schema_Find.si):evF cschema_Name (inlS cschema_Name schema_Find.ins (inlS cschema_Name schema_Find.ins (inlS cschema_Name schema_Find.ins inl0))) (Tryz.f11.body.getD .skip) Tryz.f11.results.toList schema_Find.h schema_Find.si schema_Find.so x=schema_Find.B x:=by kernel_rfl
theorem schema_Find.fn:FnOk PP 11 (Tryz.f11.body.getD .skip) Tryz.f11.results.toList Tryz.f11.ntmps:=fnOk_mk (by kernel_rfl) (by kernel_rfl) (by kernel_rfl) (by kernel_rfl)
theorem schema_Find.ok:SpecOk PP 11 ⟨2,schema_Find.si,schema_Find.so,schema_Find.F⟩:=fn_stk cxschema_Name (inlS_ok cxschema_Name (inlS_ok cxschema_Name (inlS_ok cxschema_Name (inl0_ok _ _) (drawnOk cxschema_Name mixed) schema_Find.ins_ok) (drawnOk cxschema_Name mixed) schema_Find.ins_ok) (drawnOk cxschema_Name mixed) schema_Find.ins_ok) mixed schema_Find.fn schema_Find.h (by kernel_rfl) schema_Find.ev
noncomputable def spschema_Find:List (Nat×List (Nat×AK)×Lv.Spec):=(11,[],⟨2,schema_Find.si,schema_Find.so,schema_Find.F⟩)::spschema_Name
noncomputable abbrev cschema_Find:Cx:=⟨tabAt tab0,eqAt eqs0,specAt spschema_Find,159,specPAt sqddl_parser_view⟩
theorem cxschema_Find:CxOk PP cschema_Find:=cxschema_Name.consS [] schema_Find.fn.enters schema_Find.ok
def math_bits_Mul32.si:Sh:=⟨[(0,.v false [.int .u32]),(1,.v false [.int .u32])],[],[],0,[]⟩
def math_bits_Mul32.so:Sh:=⟨[(0,.tup [(false,[.int .u32]),(false,[.int .u32])])],[],[],1000,[]⟩
def math_bits_Mul32.h:H:=.n
noncomputable def math_bits_Mul32.B:Int×Int×Unit→Option (Int×Int×Unit):=fun (p0,p1,_)=>
  let e1:Int:=(IntKind.u64.wrap ((IntKind.u64.wrap (p0))*(IntKind.u64.wrap (p1))))
  bif (!decide ((32:Int)<0)) then
  some ((IntKind.u32.wrap ((Int.fdiv e1 (2^min (Int.toNat (32:Int)) IntKind.u64.bits)))),(IntKind.u32.wrap (e1)),())
  else none
noncomputable def math_bits_Mul32.F:Int×Int×Unit→Option (Int×Int×Unit):=stk math_bits_Mul32.B
theorem math_bits_Mul32.ev (x:TS math_bits_Mul32.si):evF cschema_Find inl0 (Tryz.f85.body.getD .skip) Tryz.f85.results.toList math_bits_Mul32.h math_bits_Mul32.si math_bits_Mul32.so x=math_bits_Mul32.B x:=by kernel_rfl
theorem math_bits_Mul32.fn:FnOk PP 85 (Tryz.f85.body.getD .skip) Tryz.f85.results.toList Tryz.f85.ntmps:=fnOk_mk (by kernel_rfl) (by kernel_rfl) (by kernel_rfl) (by kernel_rfl)
theorem math_bits_Mul32.ok:SpecOk PP 85 ⟨2,math_bits_Mul32.si,math_bits_Mul32.so,math_bits_Mul32.F⟩:=fn_stk cxschema_Find (inl0_ok _ _) mixed math_bits_Mul32.fn math_bits_Mul32.h (by kernel_rfl) math_bits_Mul32.ev
noncomputable def spmath_bits_Mul32:List (Nat×List (Nat×AK)×Lv.Spec):=(85,[],⟨2,math_bits_Mul32.si,math_bits_Mul32.so,math_bits_Mul32.F⟩)::spschema_Find
noncomputable abbrev cmath_bits_Mul32:Cx:=⟨tabAt tab0,eqAt eqs0,specAt spmath_bits_Mul32,159,specPAt sqddl_parser_view⟩
theorem cxmath_bits_Mul32:CxOk PP cmath_bits_Mul32:=cxschema_Find.consS [] math_bits_Mul32.fn.enters math_bits_Mul32.ok
def math_bits_Mul64.si:Sh:=⟨[(0,.v false [.int .u64]),(1,.v false [.int .u64])],[],[],0,[]⟩
def math_bits_Mul64.so:Sh:=⟨[(0,.tup [(false,[.int .u64]),(false,[.int .u64])])],[],[],1000,[]⟩
def math_bits_Mul64.h:H:=.n
noncomputable def math_bits_Mul64.B:Int×Int×Unit→Option (Int×Int×Unit):=fun (p0,p1,_)=>
  let e1:Int:=(IntKind.u64.wrap (((BitVec.ofInt IntKind.u64.bits p0&&&BitVec.ofInt IntKind.u64.bits (4294967295:Int)).toNat:Nat)))
  bif (!decide ((32:Int)<0)) then
  let e2:Int:=(IntKind.u64.wrap (((BitVec.ofInt IntKind.u64.bits p1&&&BitVec.ofInt IntKind.u64.bits (4294967295:Int)).toNat:Nat)))
  bif (!decide ((32:Int)<0)) then
  let e3:Int:=(IntKind.u64.wrap (e1*e2))
  let e4:Int:=(IntKind.u64.wrap ((Int.fdiv p0 (2^min (Int.toNat (32:Int)) IntKind.u64.bits))*e2))
  bif (!decide ((32:Int)<0)) then
  let e5:Int:=(IntKind.u64.wrap (e4+(Int.fdiv e3 (2^min (Int.toNat (32:Int)) IntKind.u64.bits))))
  let e6:Int:=(IntKind.u64.wrap (((BitVec.ofInt IntKind.u64.bits e5&&&BitVec.ofInt IntKind.u64.bits (4294967295:Int)).toNat:Nat)))
  bif (!decide ((32:Int)<0)) then
  let e7:Int:=(IntKind.u64.wrap (e1*(Int.fdiv p1 (2^min (Int.toNat (32:Int)) IntKind.u64.bits))))
  let e8:Int:=(IntKind.u64.wrap (e6+e7))
  let e9:Int:=(IntKind.u64.wrap ((Int.fdiv p0 (2^min (Int.toNat (32:Int)) IntKind.u64.bits))*(Int.fdiv p1 (2^min (Int.toNat (32:Int)) IntKind.u64.bits))))
  let e10:Int:=(IntKind.u64.wrap (e9+(Int.fdiv e5 (2^min (Int.toNat (32:Int)) IntKind.u64.bits))))
  bif (!decide ((32:Int)<0)) then
  let e11:Int:=(IntKind.u64.wrap (e10+(Int.fdiv e8 (2^min (Int.toNat (32:Int)) IntKind.u64.bits))))
  let e12:Int:=(IntKind.u64.wrap (p0*p1))
  some (e11,e12,())
  else none
  else none
  else none
  else none
  else none
noncomputable def math_bits_Mul64.F:Int×Int×Unit→Option (Int×Int×Unit):=stk math_bits_Mul64.B
theorem math_bits_Mul64.eq:math_bits_Mul64.F=math_bits_Mul64.B:=stk_eq _
theorem math_bits_Mul64.ev (x:TS math_bits_Mul64.si):evF cmath_bits_Mul32 inl0 (Tryz.f86.body.getD .skip) Tryz.f86.results.toList math_bits_Mul64.h math_bits_Mul64.si math_bits_Mul64.so x=math_bits_Mul64.B x:=by kernel_rfl
theorem math_bits_Mul64.fn:FnOk PP 86 (Tryz.f86.body.getD .skip) Tryz.f86.results.toList Tryz.f86.ntmps:=fnOk_mk (by kernel_rfl) (by kernel_rfl) (by kernel_rfl) (by kernel_rfl)
theorem math_bits_Mul64.ok:SpecOk PP 86 ⟨2,math_bits_Mul64.si,math_bits_Mul64.so,math_bits_Mul64.F⟩:=fn_stk cxmath_bits_Mul32 (inl0_ok _ _) mixed math_bits_Mul64.fn math_bits_Mul64.h (by kernel_rfl) math_bits_Mul64.ev
noncomputable def spmath_bits_Mul64:List (Nat×List (Nat×AK)×Lv.Spec):=(86,[],⟨2,math_bits_Mul64.si,math_bits_Mul64.so,math_bits_Mul64.F⟩)::spmath_bits_Mul32
noncomputable abbrev cmath_bits_Mul64:Cx:=⟨tabAt tab0,eqAt eqs0,specAt spmath_bits_Mul64,159,specPAt sqddl_parser_view⟩
theorem cxmath_bits_Mul64:CxOk PP cmath_bits_Mul64:=cxmath_bits_Mul32.consS [] math_bits_Mul64.fn.enters math_bits_Mul64.ok
def math_bits_Mul.si:Sh:=⟨[(0,.v false [.int .u64]),(1,.v false [.int .u64])],[],[],0,[]⟩
def math_bits_Mul.so:Sh:=⟨[(0,.tup [(false,[.int .u64]),(false,[.int .u64])])],[],[],1000,[]⟩
def math_bits_Mul.h:H:=.n
noncomputable def math_bits_Mul.B:Int×Int×Unit→Option (Int×Int×Unit):=fun (p0,p1,_)=>
  Option.bind (math_bits_Mul64.F (p0,p1,())) fun y1=>
  some (y1.1,y1.2.1,())
noncomputable def math_bits_Mul.F:Int×Int×Unit→Option (Int×Int×Unit):=stk math_bits_Mul.B
theorem math_bits_Mul.eq:math_bits_Mul.F=math_bits_Mul.B:=stk_eq _
theorem math_bits_Mul.ev (x:TS math_bits_Mul.si):evF cmath_bits_Mul64 inl0 (Tryz.f58.body.getD .skip) Tryz.f58.results.toList math_bits_Mul.h math_bits_Mul.si math_bits_Mul.so x=math_bits_Mul.B x:=by kernel_rfl
theorem math_bits_Mul.fn:FnOk PP 58 (Tryz.f58.body.getD .skip) Tryz.f58.results.toList Tryz.f58.ntmps:=fnOk_mk (by kernel_rfl) (by kernel_rfl) (by kernel_rfl) (by kernel_rfl)
theorem math_bits_Mul.ok:SpecOk PP 58 ⟨2,math_bits_Mul.si,math_bits_Mul.so,math_bits_Mul.F⟩:=fn_stk cxmath_bits_Mul64 (inl0_ok _ _) mixed math_bits_Mul.fn math_bits_Mul.h (by kernel_rfl) math_bits_Mul.ev
noncomputable def spmath_bits_Mul:List (Nat×List (Nat×AK)×Lv.Spec):=(58,[],⟨2,math_bits_Mul.si,math_bits_Mul.so,math_bits_Mul.F⟩)::spmath_bits_Mul64
noncomputable abbrev cmath_bits_Mul:Cx:=⟨tabAt tab0,eqAt eqs0,specAt spmath_bits_Mul,159,specPAt sqddl_parser_view⟩
theorem cxmath_bits_Mul:CxOk PP cmath_bits_Mul:=cxmath_bits_Mul64.consS [] math_bits_Mul.fn.enters math_bits_Mul.ok
def slices_Repeat_sl_bool_bool.si:Sh:=⟨[(0,.v false [.sl 4 .bool]),(1,.v false [.int .i64])],[],[],0,[]⟩
def slices_Repeat_sl_bool_bool.so:Sh:=⟨[(0,.v false [.ref 1000])],[(1000,false,.arr 4 .bool)],[],1001,[]⟩
def slices_Repeat_sl_bool_bool.h:H:=(.s none .n (.s (some ⟨[],[],[0,1],0,[]⟩) .n (.s none .n (.s (some ⟨[],[],[0,6],0,[]⟩) .n (.s none .n (.s none .n (.s none (.b (.l ⟨[(7,.v false [.ref 0]),(8,.v false [.int .i64])],[(0,true,.arr 4 .bool)],[],1,[]⟩ .n)) .n)))))))
noncomputable def slices_Repeat_sl_bool_bool.B:(List Bool)×Int×Unit→Option ((List Bool)×Unit):=fun (p0,p1,_)=>
  Option.bind (
  (bif (decide (p1<(0:Int))) then
  none
  else
  some (.inl (()))):Option ((Unit)⊕_)) fun r1=>match r1 with
  | .inl (_)=>
  (Option.bind (math_bits_Mul.F ((IntKind.u64.wrap ((p0.length:Int))),(IntKind.u64.wrap (p1)),())) fun y2=>
  Option.bind (
  (bif (decide (y2.1>(0:Int))) then
  none
  else
  (bif (decide (y2.2.1>(9223372036854775807:Int))) then
  none
  else
  some (.inl (())))):Option ((Unit)⊕_)) fun r3=>match r3 with
  | .inl (_)=>
  (bif (decide (0≤(IntKind.i64.wrap (y2.2.1)))&&(decide ((IntKind.i64.wrap (y2.2.1))=(IntKind.i64.wrap (y2.2.1)))&&Nat.ble (Int.toNat (IntKind.i64.wrap (y2.2.1))) 140737488355328)) then
  loopM (S:=Int×(List Bool)×Unit) (fun (x8,o7_0,_)=>
  (bif (decide (x8<(o7_0.length:Int))) then
  bif (decide (0≤x8)&&(decide (x8≤(o7_0.length:Int))&&decide ((o7_0.length:Int)≤(o7_0.length:Int)))) then
  bif (decide (0≤(0:Int))&&(decide ((0:Int)≤x8)&&decide (x8≤(o7_0.length:Int)))) then
  let e4:Int:=(IntKind.i64.wrap (x8+((Nat.min (List.length (List.take (Int.toNat x8-Int.toNat (0:Int):Nat) (List.drop (Int.toNat (0:Int)) o7_0))) (Int.toNat (o7_0.length:Int)-Int.toNat x8:Nat)):Int)))
  some (.inl (e4,(List.take (Int.toNat x8) o7_0++List.take (Nat.min (List.length (List.take (Int.toNat x8-Int.toNat (0:Int):Nat) (List.drop (Int.toNat (0:Int)) o7_0))) (Int.toNat (o7_0.length:Int)-Int.toNat x8:Nat)) (List.take (Int.toNat x8-Int.toNat (0:Int):Nat) (List.drop (Int.toNat (0:Int)) o7_0))++List.drop ((Int.toNat x8)+(Nat.min (List.length (List.take (Int.toNat x8-Int.toNat (0:Int):Nat) (List.drop (Int.toNat (0:Int)) o7_0))) (Int.toNat (o7_0.length:Int)-Int.toNat x8:Nat))) o7_0),()))
  else none
  else none
  else
  some (.inr (o7_0,())))) (((Nat.min (List.length p0) (List.replicate (Int.toNat (IntKind.i64.wrap (y2.2.1))) false).length):Int),(List.take 0 (List.replicate (Int.toNat (IntKind.i64.wrap (y2.2.1))) false)++List.take (Nat.min (List.length p0) (List.replicate (Int.toNat (IntKind.i64.wrap (y2.2.1))) false).length) p0++List.drop (0+(Nat.min (List.length p0) (List.replicate (Int.toNat (IntKind.i64.wrap (y2.2.1))) false).length)) (List.replicate (Int.toNat (IntKind.i64.wrap (y2.2.1))) false)),())
  else none)
  | .inr r=>some r)
  | .inr r=>some r
noncomputable def slices_Repeat_sl_bool_bool.F:(List Bool)×Int×Unit→Option ((List Bool)×Unit):=stk slices_Repeat_sl_bool_bool.B
theorem slices_Repeat_sl_bool_bool.eq:slices_Repeat_sl_bool_bool.F=slices_Repeat_sl_bool_bool.B:=stk_eq _
theorem slices_Repeat_sl_bool_bool.ev (x:TS slices_Repeat_sl_bool_bool.si):evF cmath_bits_Mul inl0 (Tryz.f37.body.getD .skip) Tryz.f37.results.toList slices_Repeat_sl_bool_bool.h slices_Repeat_sl_bool_bool.si slices_Repeat_sl_bool_bool.so x=slices_Repeat_sl_bool_bool.B x:=by kernel_rfl
theorem slices_Repeat_sl_bool_bool.fn:FnOk PP 37 (Tryz.f37.body.getD .skip) Tryz.f37.results.toList Tryz.f37.ntmps:=fnOk_mk (by kernel_rfl) (by kernel_rfl) (by kernel_rfl) (by kernel_rfl)
theorem slices_Repeat_sl_bool_bool.ok:SpecOk PP 37 ⟨2,slices_Repeat_sl_bool_bool.si,slices_Repeat_sl_bool_bool.so,slices_Repeat_sl_bool_bool.F⟩:=fn_stk cxmath_bits_Mul (inl0_ok _ _) mixed slices_Repeat_sl_bool_bool.fn slices_Repeat_sl_bool_bool.h (by kernel_rfl) slices_Repeat_sl_bool_bool.ev
noncomputable def spslices_Repeat_sl_bool_bool:List (Nat×List (Nat×AK)×Lv.Spec):=(37,[],⟨2,slices_Repeat_sl_bool_bool.si,slices_Repeat_sl_bool_bool.so,slices_Repeat_sl_bool_bool.F⟩)::spmath_bits_Mul
noncomputable abbrev cslices_Repeat_sl_bool_bool:Cx:=⟨tabAt tab0,eqAt eqs0,specAt spslices_Repeat_sl_bool_bool,159,specPAt sqddl_parser_view⟩
theorem cxslices_Repeat_sl_bool_bool:CxOk PP cslices_Repeat_sl_bool_bool:=cxmath_bits_Mul.consS [] slices_Repeat_sl_bool_bool.fn.enters slices_Repeat_sl_bool_bool.ok
def schema_Joined.si:Sh:=⟨[(0,.v false [.sl 38 tDef]),(1,.v true [.str,.str,.str,.int .i64,.int .i64,.sl 78 tNode,.sl 3 (.int .i64),.bool,.sl 66 tAgg])],[],[],0,[]⟩
def schema_Joined.so:Sh:=⟨[(0,.v false [.ref 1000])],[(1000,false,.arr 3 (.int .i64))],[],1001,[]⟩
def schema_Joined.h:H:=.n
def schema_Cols.si:Sh:=⟨[(0,.v false [.sl 38 tDef]),(1,.v true [.int .i64,.str,.sl 41 tColumn,.sl 32 (.sl 78 tNode),.str,.str,.str,.int .i64,.int .i64,.sl 78 tNode,.sl 3 (.int .i64),.bool,.sl 66 tAgg])],[],[],0,[]⟩
def schema_Cols.so:Sh:=⟨[(0,.tup [(false,[.ref 1000]),(false,[.ref 1001])])],[(1000,false,.arr 3 (.int .i64)),(1001,false,.arr 4 .bool)],[],1002,[]⟩
def schema_Cols.h:H:=(.s none .n (.s none .n (.s none .n (.s (some ⟨[(6,.v false [.ref 0])],[(0,false,.arr 3 (.int .i64))],[0,3],1,[]⟩) (.s none .n (.c (.s none (.s none .n (.b (.l ⟨[(6,.v false [.ref 0]),(7,.v false [.ref 1]),(23,.v false [.int .i64])],[(0,false,.arr 3 (.int .i64)),(1,false,.arr 4 .bool)],[21,22],2,[]⟩ .n))) .n) .n)) (.s none .n (.s (some ⟨[(6,.v false [.ref 0])],[(0,false,.arr 3 (.int .i64))],[3,10],1,[]⟩) (.s none .n (.b (.l ⟨[(6,.v false [.ref 0]),(48,.v false [.int .i64])],[(0,false,.arr 3 (.int .i64))],[3,10,46,47],1,[]⟩ .n))) (.s (some ⟨[(6,.v false [.ref 0])],[(0,false,.arr 3 (.int .i64))],[],1,[]⟩) (.s none .n (.b (.l ⟨[(6,.v false [.ref 0]),(64,.v false [.int .i64])],[(0,false,.arr 3 (.int .i64))],[10,62,63],1,[]⟩ .n))) .n)))))))
noncomputable def schema_Cols.b (f:TS schema_Joined.si→Option (TS schema_Joined.so)):(List tDefT)×Int×ByteArray×(List tColumnT)×(List (List tNodeT))×ByteArray×ByteArray×ByteArray×Int×Int×(List tNodeT)×(List Int)×Bool×(List tAggT)×Unit→Option ((List Int)×(List Bool)×Unit):=fun (p0,p1_0,p1_1,p1_2,p1_3,p1_4,p1_5,p1_6,p1_7,p1_8,p1_9,p1_10,p1_11,p1_12,_)=>
  Option.bind (
  (bif (p1_0==(0:Int)) then
  loopM (S:=Int×(List Int)×(List Bool)×Unit) (fun (x23,o6_0,o7_0,_)=>
  (bif (decide (x23<(p1_2.length:Int))) then
  bif (decide (0≤x23)&&decide (x23<(p1_2.length:Int))) then
  let e1:tColumnT:=(List.getD p1_2 (Int.toNat x23) tColumn.z)
  bif (Nat.ble (o6_0.length+ [e1.2.1].length) 17592186044416) then
  bif (Nat.ble (o7_0.length+ [e1.2.2.1].length) 140737488355328) then
  let e2:Int:=(IntKind.i64.wrap (x23+(1:Int)))
  some (.inl (e2,(o6_0++ [e1.2.1]),(o7_0++ [e1.2.2.1]),()))
  else none
  else none
  else none
  else
  some (.inr (.inr (o6_0,o7_0,()))))) ((0:Int),[],[],())
  else
  some (.inl ([],()))):Option (((List Int)×Unit)⊕_)) fun r3=>match r3 with
  | .inl (o6_0_3,_)=>
  (Option.bind (f (p0,p1_4,p1_5,p1_6,p1_7,p1_8,p1_9,p1_10,p1_11,p1_12,())) fun y4=>
  Option.bind (
  loopM (S:=Int×(List Int)×Unit) (fun (x48,o6_0,_)=>
  (bif (decide (x48<(p1_10.length:Int))) then
  bif (decide (0≤x48)&&decide (x48<(p1_10.length:Int))) then
  let e5:Int:=(List.getD p1_10 (Int.toNat x48) (0:Int))
  bif (decide (0≤e5)&&decide (e5<(y4.1.length:Int))) then
  let e6:Int:=(List.getD y4.1 (Int.toNat e5) (0:Int))
  bif (Nat.ble (o6_0.length+ [e6].length) 17592186044416) then
  let e7:Int:=(IntKind.i64.wrap (x48+(1:Int)))
  some (.inl (e7,(o6_0++ [e6]),()))
  else none
  else none
  else none
  else
  some (.inr (.inl (o6_0,()))))) ((0:Int),o6_0_3,()):Option (((List Int)×Unit)⊕_)) fun r8=>match r8 with
  | .inl (o6_0_8,_)=>
  (Option.bind (
  loopM (S:=Int×(List Int)×Unit) (fun (x64,o6_0,_)=>
  (bif (decide (x64<(p1_12.length:Int))) then
  bif (decide (0≤x64)&&decide (x64<(p1_12.length:Int))) then
  let e9:tAggT:=(List.getD p1_12 (Int.toNat x64) tAgg.z)
  (bif (e9.1==(2:Int)) then
  bif (decide (0≤e9.2)&&decide (e9.2<(y4.1.length:Int))) then
  let e10:Int:=(List.getD y4.1 (Int.toNat e9.2) (0:Int))
  bif (Nat.ble (o6_0.length+ [e10].length) 17592186044416) then
  let e11:Int:=(IntKind.i64.wrap (x64+(1:Int)))
  some (.inl (e11,(o6_0++ [e10]),()))
  else none
  else none
  else
  (bif (e9.1==(3:Int)) then
  bif (decide (0≤e9.2)&&decide (e9.2<(y4.1.length:Int))) then
  let e12:Int:=(List.getD y4.1 (Int.toNat e9.2) (0:Int))
  bif (Nat.ble (o6_0.length+ [e12].length) 17592186044416) then
  let e13:Int:=(IntKind.i64.wrap (x64+(1:Int)))
  some (.inl (e13,(o6_0++ [e12]),()))
  else none
  else none
  else
  bif (Nat.ble (o6_0.length+ [(2:Int)].length) 17592186044416) then
  let e14:Int:=(IntKind.i64.wrap (x64+(1:Int)))
  some (.inl (e14,(o6_0++ [(2:Int)]),()))
  else none))
  else none
  else
  some (.inr (.inl (o6_0,()))))) ((0:Int),o6_0_8,()):Option (((List Int)×Unit)⊕_)) fun r15=>match r15 with
  | .inl (o6_0_15,_)=>
  (Option.bind (slices_Repeat_sl_bool_bool.F ([true],(o6_0_15.length:Int),())) fun y16=>
  some (o6_0_15,y16.1,()))
  | .inr r=>some r)
  | .inr r=>some r)
  | .inr r=>some r
theorem schema_Cols.fn:FnOk PP 26 (Tryz.f26.body.getD .skip) Tryz.f26.results.toList Tryz.f26.ntmps:=fnOk_mk (by kernel_rfl) (by kernel_rfl) (by kernel_rfl) (by kernel_rfl)
noncomputable def schema_Joined.b (f:TS schema_Cols.si→Option (TS schema_Cols.so)):(List tDefT)×ByteArray×ByteArray×ByteArray×Int×Int×(List tNodeT)×(List Int)×Bool×(List tAggT)×Unit→Option ((List Int)×Unit):=fun (p0,p1_0,p1_1,p1_2,p1_3,p1_4,p1_5,p1_6,p1_7,p1_8,_)=>
  Option.bind (schema_Find.F (p0,p1_1,())) fun y1=>
  bif (decide (0≤y1.1)&&decide (y1.1<(p0.length:Int))) then
  let e2:tDefT:=(List.getD p0 (Int.toNat y1.1) tDef.z)
  Option.bind (f (p0,e2.1,e2.2.1.1,e2.2.1.2.1,e2.2.1.2.2,e2.2.2.1,e2.2.2.2.1,e2.2.2.2.2.1,e2.2.2.2.2.2.1.1,e2.2.2.2.2.2.1.2,e2.2.2.2.2.2.2.1,e2.2.2.2.2.2.2.2.1,e2.2.2.2.2.2.2.2.2.1,e2.2.2.2.2.2.2.2.2.2,())) fun y3=>
  (bif (!(p1_2.toList==(⟨#[]⟩:ByteArray).toList)) then
  Option.bind (schema_Find.F (p0,p1_2,())) fun y4=>
  bif (decide (0≤y4.1)&&decide (y4.1<(p0.length:Int))) then
  let e5:tDefT:=(List.getD p0 (Int.toNat y4.1) tDef.z)
  Option.bind (f (p0,e5.1,e5.2.1.1,e5.2.1.2.1,e5.2.1.2.2,e5.2.2.1,e5.2.2.2.1,e5.2.2.2.2.1,e5.2.2.2.2.2.1.1,e5.2.2.2.2.2.1.2,e5.2.2.2.2.2.2.1,e5.2.2.2.2.2.2.2.1,e5.2.2.2.2.2.2.2.2.1,e5.2.2.2.2.2.2.2.2.2,())) fun y6=>
  bif (Nat.ble (y3.1.length+y6.1.length) 17592186044416) then
  some ((y3.1++y6.1),())
  else none
  else none
  else
  some (y3.1,()))
  else none
theorem schema_Joined.fn:FnOk PP 36 (Tryz.f36.body.getD .skip) Tryz.f36.results.toList Tryz.f36.ntmps:=fnOk_mk (by kernel_rfl) (by kernel_rfl) (by kernel_rfl) (by kernel_rfl)
noncomputable abbrev schema_Cols.c (f:TS schema_Joined.si→Option (TS schema_Joined.so)):Cx:=⟨tabAt tab0,eqAt eqs0,specAt ((36,[],⟨2,schema_Joined.si,schema_Joined.so,f⟩)::spslices_Repeat_sl_bool_bool),159,specPAt sqddl_parser_view⟩
theorem schema_Cols.ev (f:TS schema_Joined.si→Option (TS schema_Joined.so)) (x:TS schema_Cols.si):evF (schema_Cols.c f) inl0 (Tryz.f26.body.getD .skip) Tryz.f26.results.toList schema_Cols.h schema_Cols.si schema_Cols.so x=schema_Cols.b f x:=by kernel_rfl
theorem schema_Cols.step (f:TS schema_Joined.si→Option (TS schema_Joined.so)) (hf:SpecOk PP 36 ⟨2,schema_Joined.si,schema_Joined.so,f⟩):SpecOk PP 26 ⟨2,schema_Cols.si,schema_Cols.so,schema_Cols.b f⟩:=fn_ok (cxslices_Repeat_sl_bool_bool.consS [] schema_Joined.fn.enters hf) (inl0_ok _ _) mixed schema_Cols.fn schema_Cols.h (by kernel_rfl) (schema_Cols.ev f)
noncomputable abbrev schema_Joined.c (f:TS schema_Cols.si→Option (TS schema_Cols.so)):Cx:=⟨tabAt tab0,eqAt eqs0,specAt ((26,[],⟨2,schema_Cols.si,schema_Cols.so,f⟩)::spslices_Repeat_sl_bool_bool),159,specPAt sqddl_parser_view⟩
theorem schema_Joined.ev (f:TS schema_Cols.si→Option (TS schema_Cols.so)) (x:TS schema_Joined.si):evF (schema_Joined.c f) inl0 (Tryz.f36.body.getD .skip) Tryz.f36.results.toList schema_Joined.h schema_Joined.si schema_Joined.so x=schema_Joined.b f x:=by kernel_rfl
theorem schema_Joined.step (f:TS schema_Cols.si→Option (TS schema_Cols.so)) (hf:SpecOk PP 26 ⟨2,schema_Cols.si,schema_Cols.so,f⟩):SpecOk PP 36 ⟨2,schema_Joined.si,schema_Joined.so,schema_Joined.b f⟩:=fn_ok (cxslices_Repeat_sl_bool_bool.consS [] schema_Cols.fn.enters hf) (inl0_ok _ _) mixed schema_Joined.fn schema_Joined.h (by kernel_rfl) (schema_Joined.ev f)
noncomputable def schema_Cols.r:Nat→TS schema_Cols.si→Option (TS schema_Cols.so)
  |0=>fun _=>none
  |n+1=>schema_Cols.b (schema_Joined.b (schema_Cols.r n))
theorem schema_Cols.r_ok:∀n,SpecOk PP 26 ⟨2,schema_Cols.si,schema_Cols.so,schema_Cols.r n⟩
  |0=>fun _ _ h=>by cases h
  |n+1=>schema_Cols.step _ (schema_Joined.step _ (schema_Cols.r_ok n))
noncomputable def schema_Cols.F:TS schema_Cols.si→Option (TS schema_Cols.so):=stk (schema_Cols.r 64)
theorem schema_Cols.eq:schema_Cols.F=schema_Cols.r 64:=stk_eq _
theorem schema_Cols.ok:SpecOk PP 26 ⟨2,schema_Cols.si,schema_Cols.so,schema_Cols.F⟩:=by
  rw [schema_Cols.eq]
  exact schema_Cols.r_ok 64
noncomputable def spschema_Cols:List (Nat×List (Nat×AK)×Lv.Spec):=(26,[],⟨2,schema_Cols.si,schema_Cols.so,schema_Cols.F⟩)::spslices_Repeat_sl_bool_bool
noncomputable abbrev cschema_Cols:Cx:=⟨tabAt tab0,eqAt eqs0,specAt spschema_Cols,159,specPAt sqddl_parser_view⟩
theorem cxschema_Cols:CxOk PP cschema_Cols:=cxslices_Repeat_sl_bool_bool.consS [] schema_Cols.fn.enters schema_Cols.ok
noncomputable def schema_Joined.F:TS schema_Joined.si→Option (TS schema_Joined.so):=stk (schema_Joined.b (schema_Cols.r 64))
theorem schema_Joined.eq:schema_Joined.F=schema_Joined.b (schema_Cols.r 64):=stk_eq _
theorem schema_Joined.ok:SpecOk PP 36 ⟨2,schema_Joined.si,schema_Joined.so,schema_Joined.F⟩:=by
  rw [schema_Joined.eq]
  exact schema_Joined.step _ (schema_Cols.r_ok 64)
noncomputable def spschema_Joined:List (Nat×List (Nat×AK)×Lv.Spec):=(36,[],⟨2,schema_Joined.si,schema_Joined.so,schema_Joined.F⟩)::spschema_Cols
noncomputable abbrev cschema_Joined:Cx:=⟨tabAt tab0,eqAt eqs0,specAt spschema_Joined,159,specPAt sqddl_parser_view⟩
theorem cxschema_Joined:CxOk PP cschema_Joined:=cxschema_Cols.consS [] schema_Joined.fn.enters schema_Joined.ok
def expr_takes.si:Sh:=⟨[(0,.v false [.int .i64])],[],[],0,[]⟩
def expr_takes.so:Sh:=⟨[(0,.v false [.int .i64])],[],[],1000,[]⟩
def expr_takes.h:H:=(.s none .n (.s none (.s none .n (.b (.s (some ⟨[(4,.v false [.bool])],[],[3],0,[]⟩) .n (.c .n (.s (some ⟨[(7,.v false [.bool])],[],[3],0,[]⟩) .n .n))))) .n))
noncomputable def expr_takes.B:Int×Unit→Option (Int×Unit):=fun (p0,_)=>
  Option.bind (
  (bif (p0==(0:Int)) then
  some (.inl ((p0==(0:Int)),()))
  else
  some (.inl ((p0==(1:Int)),()))):Option ((Bool×Unit)⊕_)) fun r1=>match r1 with
  | .inl (x4_1,_)=>
  ((bif x4_1 then
  some ((0:Int),())
  else
  Option.bind (
  (bif (p0==(9:Int)) then
  some (.inl ((p0==(9:Int)),()))
  else
  some (.inl ((p0==(10:Int)),()))):Option ((Bool×Unit)⊕_)) fun r2=>match r2 with
  | .inl (x7_2,_)=>
  ((bif x7_2 then
  some ((1:Int),())
  else
  (bif (p0==(2:Int)) then
  (bif (p0==(2:Int)) then
  some ((2:Int),())
  else
  some ((-1:Int),()))
  else
  (bif (p0==(3:Int)) then
  (bif (p0==(3:Int)) then
  some ((2:Int),())
  else
  some ((-1:Int),()))
  else
  (bif (p0==(4:Int)) then
  (bif (p0==(4:Int)) then
  some ((2:Int),())
  else
  some ((-1:Int),()))
  else
  (bif (p0==(5:Int)) then
  (bif (p0==(5:Int)) then
  some ((2:Int),())
  else
  some ((-1:Int),()))
  else
  (bif (p0==(6:Int)) then
  (bif (p0==(6:Int)) then
  some ((2:Int),())
  else
  some ((-1:Int),()))
  else
  (bif (p0==(7:Int)) then
  (bif (p0==(7:Int)) then
  some ((2:Int),())
  else
  some ((-1:Int),()))
  else
  (bif (p0==(8:Int)) then
  some ((2:Int),())
  else
  some ((-1:Int),()))))))))))
  | .inr r=>some r))
  | .inr r=>some r
noncomputable def expr_takes.F:Int×Unit→Option (Int×Unit):=stk expr_takes.B
theorem expr_takes.eq:expr_takes.F=expr_takes.B:=stk_eq _
theorem expr_takes.ev (x:TS expr_takes.si):evF cschema_Joined inl0 (Tryz.f144.body.getD .skip) Tryz.f144.results.toList expr_takes.h expr_takes.si expr_takes.so x=expr_takes.B x:=by kernel_rfl
theorem expr_takes.fn:FnOk PP 144 (Tryz.f144.body.getD .skip) Tryz.f144.results.toList Tryz.f144.ntmps:=fnOk_mk (by kernel_rfl) (by kernel_rfl) (by kernel_rfl) (by kernel_rfl)
theorem expr_takes.ok:SpecOk PP 144 ⟨1,expr_takes.si,expr_takes.so,expr_takes.F⟩:=fn_stk cxschema_Joined (inl0_ok _ _) mixed expr_takes.fn expr_takes.h (by kernel_rfl) expr_takes.ev
noncomputable def spexpr_takes:List (Nat×List (Nat×AK)×Lv.Spec):=(144,[],⟨1,expr_takes.si,expr_takes.so,expr_takes.F⟩)::spschema_Joined
noncomputable abbrev cexpr_takes:Cx:=⟨tabAt tab0,eqAt eqs0,specAt spexpr_takes,159,specPAt sqddl_parser_view⟩
theorem cxexpr_takes:CxOk PP cexpr_takes:=cxschema_Joined.consS [] expr_takes.fn.enters expr_takes.ok
def expr_stack_int_pop.si:Sh:=⟨[(0,.v false [.ptr 0 0])],[(0,true,.box 172 [.ref 1,.bool,.sl 3 (.int .i64)]),(1,true,.arr 3 (.int .i64))],[],2,[]⟩
def expr_stack_int_pop.so:Sh:=⟨[(0,.v false [.int .i64])],[(0,true,.box 172 [.ref 1001,.bool,.sl 3 (.int .i64)]),(1001,false,.arr 3 (.int .i64))],[],1002,[(0,0)]⟩
def expr_stack_int_pop.h:H:=.n
noncomputable def expr_stack_int_pop.B:Bool×(List Int)×(List Int)×Unit→Option (Int×Bool×(List Int)×(List Int)×Unit):=fun (o0_1,o0_2,o0_0,_)=>
  (bif ((o0_0.length:Int)==(0:Int)) then
  some ((0:Int),false,o0_2,o0_0,())
  else
  let e1:Int:=(IntKind.i64.wrap ((o0_0.length:Int)-(1:Int)))
  bif (decide (0≤e1)&&decide (e1<(o0_0.length:Int))) then
  let e2:Int:=(List.getD o0_0 (Int.toNat e1) (0:Int))
  let e3:Int:=(IntKind.i64.wrap ((o0_0.length:Int)-(1:Int)))
  bif (decide (0≤(0:Int))&&(decide ((0:Int)≤e3)&&decide (e3≤(o0_0.length:Int)))) then
  some (e2,o0_1,o0_2,(List.take (Int.toNat e3) o0_0),())
  else none
  else none)
noncomputable def expr_stack_int_pop.F:Bool×(List Int)×(List Int)×Unit→Option (Int×Bool×(List Int)×(List Int)×Unit):=stk expr_stack_int_pop.B
theorem expr_stack_int_pop.eq:expr_stack_int_pop.F=expr_stack_int_pop.B:=stk_eq _
theorem expr_stack_int_pop.ev (x:TS expr_stack_int_pop.si):evF cexpr_takes inl0 (Tryz.f145.body.getD .skip) Tryz.f145.results.toList expr_stack_int_pop.h expr_stack_int_pop.si expr_stack_int_pop.so x=expr_stack_int_pop.B x:=by kernel_rfl
theorem expr_stack_int_pop.fn:FnOk PP 145 (Tryz.f145.body.getD .skip) Tryz.f145.results.toList Tryz.f145.ntmps:=fnOk_mk (by kernel_rfl) (by kernel_rfl) (by kernel_rfl) (by kernel_rfl)
theorem expr_stack_int_pop.ok:SpecOk PP 145 ⟨1,expr_stack_int_pop.si,expr_stack_int_pop.so,expr_stack_int_pop.F⟩:=fn_stk cxexpr_takes (inl0_ok _ _) mixed expr_stack_int_pop.fn expr_stack_int_pop.h (by kernel_rfl) expr_stack_int_pop.ev
noncomputable def spexpr_stack_int_pop:List (Nat×List (Nat×AK)×Lv.Spec):=(145,[],⟨1,expr_stack_int_pop.si,expr_stack_int_pop.so,expr_stack_int_pop.F⟩)::spexpr_takes
noncomputable abbrev cexpr_stack_int_pop:Cx:=⟨tabAt tab0,eqAt eqs0,specAt spexpr_stack_int_pop,159,specPAt sqddl_parser_view⟩
theorem cxexpr_stack_int_pop:CxOk PP cexpr_stack_int_pop:=cxexpr_takes.consS [] expr_stack_int_pop.fn.enters expr_stack_int_pop.ok
def expr_stack_int_push.si:Sh:=⟨[(0,.v false [.ptr 0 0]),(1,.v false [.int .i64])],[(0,true,.box 172 [.ref 1,.bool,.sl 3 (.int .i64)]),(1,true,.arr 3 (.int .i64))],[],2,[]⟩
def expr_stack_int_push.so:Sh:=⟨[(0,.tup [])],[(0,true,.box 172 [.ref 1001,.bool,.sl 3 (.int .i64)]),(1001,false,.arr 3 (.int .i64))],[],1002,[(0,0)]⟩
def expr_stack_int_push.h:H:=.n
noncomputable def expr_stack_int_push.B:Int×Bool×(List Int)×(List Int)×Unit→Option (Bool×(List Int)×(List Int)×Unit):=fun (p1,o0_1,o0_2,o0_0,_)=>
  bif (Nat.ble (o0_0.length+ [p1].length) 17592186044416) then
  some (o0_1,o0_2,(o0_0++ [p1]),())
  else none
noncomputable def expr_stack_int_push.F:Int×Bool×(List Int)×(List Int)×Unit→Option (Bool×(List Int)×(List Int)×Unit):=stk expr_stack_int_push.B
theorem expr_stack_int_push.eq:expr_stack_int_push.F=expr_stack_int_push.B:=stk_eq _
theorem expr_stack_int_push.ev (x:TS expr_stack_int_push.si):evF cexpr_stack_int_pop inl0 (Tryz.f146.body.getD .skip) Tryz.f146.results.toList expr_stack_int_push.h expr_stack_int_push.si expr_stack_int_push.so x=expr_stack_int_push.B x:=by kernel_rfl
theorem expr_stack_int_push.fn:FnOk PP 146 (Tryz.f146.body.getD .skip) Tryz.f146.results.toList Tryz.f146.ntmps:=fnOk_mk (by kernel_rfl) (by kernel_rfl) (by kernel_rfl) (by kernel_rfl)
theorem expr_stack_int_push.ok:SpecOk PP 146 ⟨2,expr_stack_int_push.si,expr_stack_int_push.so,expr_stack_int_push.F⟩:=fn_stk cxexpr_stack_int_pop (inl0_ok _ _) mixed expr_stack_int_push.fn expr_stack_int_push.h (by kernel_rfl) expr_stack_int_push.ev
noncomputable def spexpr_stack_int_push:List (Nat×List (Nat×AK)×Lv.Spec):=(146,[],⟨2,expr_stack_int_push.si,expr_stack_int_push.so,expr_stack_int_push.F⟩)::spexpr_stack_int_pop
noncomputable abbrev cexpr_stack_int_push:Cx:=⟨tabAt tab0,eqAt eqs0,specAt spexpr_stack_int_push,159,specPAt sqddl_parser_view⟩
theorem cxexpr_stack_int_push:CxOk PP cexpr_stack_int_push:=cxexpr_stack_int_pop.consS [] expr_stack_int_push.fn.enters expr_stack_int_push.ok
def expr_all.si:Sh:=⟨[(0,.v false [.int .i64]),(1,.v false [.sl 3 (.int .i64)])],[],[],0,[]⟩
def expr_all.so:Sh:=⟨[(0,.v false [.bool])],[],[],1000,[]⟩
def expr_all.h:H:=(.s none .n (.s none (.s none .n (.b (.l ⟨[(9,.v false [.int .i64])],[],[0,7,8],0,[]⟩ .n))) .n))
noncomputable def expr_all.B:Int×(List Int)×Unit→Option (Bool×Unit):=fun (p0,p1,_)=>
  loopM (S:=Int×Unit) (fun (x9,_)=>
  (bif (decide (x9<(p1.length:Int))) then
  bif (decide (0≤x9)&&decide (x9<(p1.length:Int))) then
  let e1:Int:=(List.getD p1 (Int.toNat x9) (0:Int))
  (bif (e1 !=p0) then
  (bif (e1 !=(0:Int)) then
  some (.inr (false,()))
  else
  let e2:Int:=(IntKind.i64.wrap (x9+(1:Int)))
  some (.inl (e2,())))
  else
  let e3:Int:=(IntKind.i64.wrap (x9+(1:Int)))
  some (.inl (e3,())))
  else none
  else
  some (.inr (true,())))) ((0:Int),())
noncomputable def expr_all.F:Int×(List Int)×Unit→Option (Bool×Unit):=stk expr_all.B
theorem expr_all.eq:expr_all.F=expr_all.B:=stk_eq _
theorem expr_all.ev (x:TS expr_all.si):evF cexpr_stack_int_push inl0 (Tryz.f164.body.getD .skip) Tryz.f164.results.toList expr_all.h expr_all.si expr_all.so x=expr_all.B x:=by kernel_rfl
theorem expr_all.fn:FnOk PP 164 (Tryz.f164.body.getD .skip) Tryz.f164.results.toList Tryz.f164.ntmps:=fnOk_mk (by kernel_rfl) (by kernel_rfl) (by kernel_rfl) (by kernel_rfl)
theorem expr_all.ok:SpecOk PP 164 ⟨2,expr_all.si,expr_all.so,expr_all.F⟩:=fn_stk cxexpr_stack_int_push (inl0_ok _ _) mixed expr_all.fn expr_all.h (by kernel_rfl) expr_all.ev
noncomputable def spexpr_all:List (Nat×List (Nat×AK)×Lv.Spec):=(164,[],⟨2,expr_all.si,expr_all.so,expr_all.F⟩)::spexpr_stack_int_push
noncomputable abbrev cexpr_all:Cx:=⟨tabAt tab0,eqAt eqs0,specAt spexpr_all,159,specPAt sqddl_parser_view⟩
theorem cxexpr_all:CxOk PP cexpr_all:=cxexpr_stack_int_push.consS [] expr_all.fn.enters expr_all.ok
def expr_leaves.si:Sh:=⟨[(0,.v false [.int .i64]),(1,.v false [.sl 3 (.int .i64)])],[],[],0,[]⟩
def expr_leaves.so:Sh:=⟨[(0,.tup [(false,[.int .i64]),(false,[.bool])])],[],[],1000,[]⟩
def expr_leaves.h:H:=(.s none .n (.s none (.s none .n (.b (.s (some ⟨[(7,.v false [.bool])],[],[1,6],0,[]⟩) .n (.c .n (.s (some ⟨[(13,.v false [.bool])],[],[1,6],0,[]⟩) .n .n))))) .n))
noncomputable def expr_leaves.B:Int×(List Int)×Unit→Option (Int×Bool×Unit):=fun (p0,p1,_)=>
  Option.bind (
  (bif (p0==(2:Int)) then
  some (.inl ((p0==(2:Int)),()))
  else
  (bif (p0==(3:Int)) then
  some (.inl ((p0==(3:Int)),()))
  else
  some (.inl ((p0==(4:Int)),())))):Option ((Bool×Unit)⊕_)) fun r1=>match r1 with
  | .inl (x7_1,_)=>
  ((bif x7_1 then
  Option.bind (expr_all.F ((2:Int),p1,())) fun y2=>
  some ((2:Int),y2.1,())
  else
  Option.bind (
  (bif (p0==(5:Int)) then
  some (.inl ((p0==(5:Int)),()))
  else
  some (.inl ((p0==(6:Int)),()))):Option ((Bool×Unit)⊕_)) fun r3=>match r3 with
  | .inl (x13_3,_)=>
  ((bif x13_3 then
  bif (decide (0≤(0:Int))&&decide ((0:Int)<(p1.length:Int))) then
  let e4:Int:=(List.getD p1 0 (0:Int))
  bif (decide (0≤(1:Int))&&decide ((1:Int)<(p1.length:Int))) then
  let e5:Int:=(List.getD p1 1 (0:Int))
  (bif (e4==e5) then
  some ((1:Int),true,())
  else
  bif (decide (0≤(0:Int))&&decide ((0:Int)<(p1.length:Int))) then
  let e6:Int:=(List.getD p1 0 (0:Int))
  (bif (e6==(0:Int)) then
  some ((1:Int),true,())
  else
  bif (decide (0≤(1:Int))&&decide ((1:Int)<(p1.length:Int))) then
  let e7:Int:=(List.getD p1 1 (0:Int))
  some ((1:Int),(e7==(0:Int)),())
  else none)
  else none)
  else none
  else none
  else
  (bif (p0==(7:Int)) then
  (bif (p0==(7:Int)) then
  Option.bind (expr_all.F ((1:Int),p1,())) fun y8=>
  some ((1:Int),y8.1,())
  else
  some ((1:Int),true,()))
  else
  (bif (p0==(8:Int)) then
  (bif (p0==(8:Int)) then
  Option.bind (expr_all.F ((1:Int),p1,())) fun y9=>
  some ((1:Int),y9.1,())
  else
  some ((1:Int),true,()))
  else
  (bif (p0==(9:Int)) then
  Option.bind (expr_all.F ((1:Int),p1,())) fun y10=>
  some ((1:Int),y10.1,())
  else
  some ((1:Int),true,()))))))
  | .inr r=>some r))
  | .inr r=>some r
noncomputable def expr_leaves.F:Int×(List Int)×Unit→Option (Int×Bool×Unit):=stk expr_leaves.B
theorem expr_leaves.eq:expr_leaves.F=expr_leaves.B:=stk_eq _
theorem expr_leaves.ev (x:TS expr_leaves.si):evF cexpr_all inl0 (Tryz.f148.body.getD .skip) Tryz.f148.results.toList expr_leaves.h expr_leaves.si expr_leaves.so x=expr_leaves.B x:=by kernel_rfl
theorem expr_leaves.fn:FnOk PP 148 (Tryz.f148.body.getD .skip) Tryz.f148.results.toList Tryz.f148.ntmps:=fnOk_mk (by kernel_rfl) (by kernel_rfl) (by kernel_rfl) (by kernel_rfl)
theorem expr_leaves.ok:SpecOk PP 148 ⟨2,expr_leaves.si,expr_leaves.so,expr_leaves.F⟩:=fn_stk cxexpr_all (inl0_ok _ _) mixed expr_leaves.fn expr_leaves.h (by kernel_rfl) expr_leaves.ev
noncomputable def spexpr_leaves:List (Nat×List (Nat×AK)×Lv.Spec):=(148,[],⟨2,expr_leaves.si,expr_leaves.so,expr_leaves.F⟩)::spexpr_all
noncomputable abbrev cexpr_leaves:Cx:=⟨tabAt tab0,eqAt eqs0,specAt spexpr_leaves,159,specPAt sqddl_parser_view⟩
theorem cxexpr_leaves:CxOk PP cexpr_leaves:=cxexpr_all.consS [] expr_leaves.fn.enters expr_leaves.ok
def expr_typer_step.si:Sh:=⟨[(0,.v false [.ptr 0 0]),(1,.v true [.int .i64,.int .i64,.int .i64,.int .i64,.str])],[(0,true,.box 172 [.ref 1,.bool,.sl 3 (.int .i64)]),(1,true,.arr 3 (.int .i64))],[],2,[]⟩
def expr_typer_step.so:Sh:=⟨[(0,.v false [.bool])],[(0,true,.box 172 [.ref 1001,.bool,.sl 3 (.int .i64)]),(1001,false,.arr 3 (.int .i64))],[],1002,[(0,0)]⟩
def expr_typer_step.h:H:=(.s none .n (.s none .n (.s (some ⟨[(0,.v false [.ptr 1 0]),(5,.v false [.ref 0])],[(0,false,.arr 3 (.int .i64)),(1,true,.box 172 [.ref 2,.bool,.sl 3 (.int .i64)]),(2,false,.arr 3 (.int .i64))],[3],3,[]⟩) (.s none .n (.b (.l ⟨[(0,.v false [.ptr 1 0]),(5,.v false [.ref 0]),(11,.v false [.int .i64])],[(0,false,.arr 3 (.int .i64)),(1,true,.box 172 [.ref 2,.bool,.sl 3 (.int .i64)]),(2,false,.arr 3 (.int .i64))],[3,10],3,[]⟩ .n))) (.s none (.b (.s (some ⟨[(21,.v false [.bool])],[],[0,3,5],0,[]⟩) .n (.c .n (.s none .n (.c (.s none (.s (some ⟨[(72,.v false [.bool])],[],[0,3],0,[]⟩) .n .n) .n) .n))))) .n))))
noncomputable def expr_typer_step.B:Int×Int×Int×Int×ByteArray×Bool×(List Int)×(List Int)×Unit→Option (Bool×Bool×(List Int)×(List Int)×Unit):=fun (p1_0,p1_1,p1_2,p1_3,p1_4,o0_1,o0_2,o0_0,_)=>
  Option.bind (
  Option.bind (expr_takes.F (p1_0,())) fun y1=>
  loopM (S:=Int×(List Int)×Bool×(List Int)×(List Int)×Unit) (fun (x11,o5_0,o0_0_1,o0_0_2,o0_0_0,_)=>
  (bif (decide (x11<y1.1)) then
  Option.bind (expr_stack_int_pop.F (o0_0_1,o0_0_2,o0_0_0,())) fun y2=>
  bif (Nat.ble (o5_0.length+ [y2.1].length) 17592186044416) then
  let e3:Int:=(IntKind.i64.wrap (x11+(1:Int)))
  some (.inl (e3,(o5_0++ [y2.1]),y2.2.1,y2.2.2.1,y2.2.2.2.1,()))
  else none
  else
  some (.inr (.inl (o5_0,o0_0_1,o0_0_2,o0_0_0,()))))) ((0:Int),[],o0_1,o0_2,o0_0,()):Option (((List Int)×Bool×(List Int)×(List Int)×Unit)⊕_)) fun r4=>match r4 with
  | .inl (o5_0_4,o0_0_1_4,o0_0_2_4,o0_0_0_4,_)=>
  (Option.bind (
  (bif (!o0_0_1_4) then
  some (.inl (true,()))
  else
  Option.bind (expr_takes.F (p1_0,())) fun y5=>
  some (.inl ((decide (y5.1<(0:Int))),()))):Option ((Bool×Unit)⊕_)) fun r6=>match r6 with
  | .inl (x21_6,_)=>
  ((bif x21_6 then
  some (false,o0_0_1_4,o0_0_2_4,o0_0_0_4,())
  else
  (bif (p1_0==(0:Int)) then
  Option.bind (
  (bif (decide (p1_1<(0:Int))) then
  some (.inl (true,()))
  else
  (bif (decide (p1_1≥(o0_0_2_4.length:Int))) then
  some (.inl (true,()))
  else
  bif (decide (0≤p1_1)&&decide (p1_1<(o0_0_2_4.length:Int))) then
  let e7:Int:=(List.getD o0_0_2_4 (Int.toNat p1_1) (0:Int))
  (bif (decide (e7<(1:Int))) then
  some (.inl (true,()))
  else
  bif (decide (0≤p1_1)&&decide (p1_1<(o0_0_2_4.length:Int))) then
  let e8:Int:=(List.getD o0_0_2_4 (Int.toNat p1_1) (0:Int))
  some (.inl ((decide (e8>(3:Int))),()))
  else none)
  else none)):Option ((Bool×Unit)⊕_)) fun r9=>match r9 with
  | .inl (x72_9,_)=>
  ((bif x72_9 then
  some (false,o0_0_1_4,o0_0_2_4,o0_0_0_4,())
  else
  bif (decide (0≤p1_1)&&decide (p1_1<(o0_0_2_4.length:Int))) then
  let e10:Int:=(List.getD o0_0_2_4 (Int.toNat p1_1) (0:Int))
  Option.bind (expr_stack_int_push.F (e10,o0_0_1_4,o0_0_2_4,o0_0_0_4,())) fun y11=>
  some (true,y11.1,y11.2.1,y11.2.2.1,())
  else none))
  | .inr r=>some r
  else
  (bif (p1_0==(1:Int)) then
  Option.bind (expr_stack_int_push.F (p1_2,o0_0_1_4,o0_0_2_4,o0_0_0_4,())) fun y12=>
  Option.bind (value_May.F (p1_2,p1_3,p1_4,())) fun y13=>
  some (y13.1,y12.1,y12.2.1,y12.2.2.1,())
  else
  Option.bind (expr_leaves.F (p1_0,o5_0_4,())) fun y14=>
  Option.bind (expr_stack_int_push.F (y14.1,o0_0_1_4,o0_0_2_4,o0_0_0_4,())) fun y15=>
  some (y14.2.1,y15.1,y15.2.1,y15.2.2.1,())))))
  | .inr r=>some r)
  | .inr r=>some r
noncomputable def expr_typer_step.F:Int×Int×Int×Int×ByteArray×Bool×(List Int)×(List Int)×Unit→Option (Bool×Bool×(List Int)×(List Int)×Unit):=stk expr_typer_step.B
theorem expr_typer_step.eq:expr_typer_step.F=expr_typer_step.B:=stk_eq _
theorem expr_typer_step.ev (x:TS expr_typer_step.si):evF cexpr_leaves inl0 (Tryz.f119.body.getD .skip) Tryz.f119.results.toList expr_typer_step.h expr_typer_step.si expr_typer_step.so x=expr_typer_step.B x:=by kernel_rfl
theorem expr_typer_step.fn:FnOk PP 119 (Tryz.f119.body.getD .skip) Tryz.f119.results.toList Tryz.f119.ntmps:=fnOk_mk (by kernel_rfl) (by kernel_rfl) (by kernel_rfl) (by kernel_rfl)
theorem expr_typer_step.ok:SpecOk PP 119 ⟨2,expr_typer_step.si,expr_typer_step.so,expr_typer_step.F⟩:=fn_stk cxexpr_leaves (inl0_ok _ _) mixed expr_typer_step.fn expr_typer_step.h (by kernel_rfl) expr_typer_step.ev
noncomputable def spexpr_typer_step:List (Nat×List (Nat×AK)×Lv.Spec):=(119,[],⟨2,expr_typer_step.si,expr_typer_step.so,expr_typer_step.F⟩)::spexpr_leaves
noncomputable abbrev cexpr_typer_step:Cx:=⟨tabAt tab0,eqAt eqs0,specAt spexpr_typer_step,159,specPAt sqddl_parser_view⟩
theorem cxexpr_typer_step:CxOk PP cexpr_typer_step:=cxexpr_leaves.consS [] expr_typer_step.fn.enters expr_typer_step.ok
def expr_stack_int_one.si:Sh:=⟨[(0,.v false [.ptr 0 0])],[(0,true,.box 172 [.ref 1,.bool,.sl 3 (.int .i64)]),(1,true,.arr 3 (.int .i64))],[],2,[]⟩
def expr_stack_int_one.so:Sh:=⟨[(0,.tup [(false,[.int .i64]),(false,[.bool])])],[(0,true,.box 172 [.ref 1001,.bool,.sl 3 (.int .i64)]),(1001,false,.arr 3 (.int .i64))],[],1002,[(0,0)]⟩
def expr_stack_int_one.h:H:=.n
noncomputable def expr_stack_int_one.B:Bool×(List Int)×(List Int)×Unit→Option (Int×Bool×Bool×(List Int)×(List Int)×Unit):=fun (o0_1,o0_2,o0_0,_)=>
  (bif (!o0_1) then
  some ((0:Int),false,o0_1,o0_2,o0_0,())
  else
  (bif ((o0_0.length:Int) !=(1:Int)) then
  some ((0:Int),false,o0_1,o0_2,o0_0,())
  else
  bif (decide (0≤(0:Int))&&decide ((0:Int)<(o0_0.length:Int))) then
  let e1:Int:=(List.getD o0_0 0 (0:Int))
  some (e1,true,o0_1,o0_2,o0_0,())
  else none))
noncomputable def expr_stack_int_one.F:Bool×(List Int)×(List Int)×Unit→Option (Int×Bool×Bool×(List Int)×(List Int)×Unit):=stk expr_stack_int_one.B
theorem expr_stack_int_one.eq:expr_stack_int_one.F=expr_stack_int_one.B:=stk_eq _
theorem expr_stack_int_one.ev (x:TS expr_stack_int_one.si):evF cexpr_typer_step inl0 (Tryz.f120.body.getD .skip) Tryz.f120.results.toList expr_stack_int_one.h expr_stack_int_one.si expr_stack_int_one.so x=expr_stack_int_one.B x:=by kernel_rfl
theorem expr_stack_int_one.fn:FnOk PP 120 (Tryz.f120.body.getD .skip) Tryz.f120.results.toList Tryz.f120.ntmps:=fnOk_mk (by kernel_rfl) (by kernel_rfl) (by kernel_rfl) (by kernel_rfl)
theorem expr_stack_int_one.ok:SpecOk PP 120 ⟨1,expr_stack_int_one.si,expr_stack_int_one.so,expr_stack_int_one.F⟩:=fn_stk cxexpr_typer_step (inl0_ok _ _) mixed expr_stack_int_one.fn expr_stack_int_one.h (by kernel_rfl) expr_stack_int_one.ev
noncomputable def spexpr_stack_int_one:List (Nat×List (Nat×AK)×Lv.Spec):=(120,[],⟨1,expr_stack_int_one.si,expr_stack_int_one.so,expr_stack_int_one.F⟩)::spexpr_typer_step
noncomputable abbrev cexpr_stack_int_one:Cx:=⟨tabAt tab0,eqAt eqs0,specAt spexpr_stack_int_one,159,specPAt sqddl_parser_view⟩
theorem cxexpr_stack_int_one:CxOk PP cexpr_stack_int_one:=cxexpr_typer_step.consS [] expr_stack_int_one.fn.enters expr_stack_int_one.ok
def expr_Type.si:Sh:=⟨[(0,.v false [.sl 78 tNode]),(1,.v false [.sl 3 (.int .i64)])],[],[],0,[]⟩
def expr_Type.so:Sh:=⟨[(0,.tup [(false,[.int .i64]),(false,[.int .i64])])],[],[],1000,[]⟩
def expr_Type.h:H:=(.s none .n (.s none .n (.s none .n (.s none .n (.s (some ⟨[(6,.v false [.ptr 0 0])],[(0,true,.box 172 [.ref 1,.bool,.sl 3 (.int .i64)]),(1,false,.arr 3 (.int .i64))],[],2,[]⟩) (.s none .n (.b (.l ⟨[(6,.v false [.ptr 0 0]),(23,.v false [.int .i64])],[(0,true,.box 172 [.ref 1,.bool,.sl 3 (.int .i64)]),(1,false,.arr 3 (.int .i64))],[21,22],2,[]⟩ .n))) .n)))))
noncomputable def expr_Type.B:(List tNodeT)×(List Int)×Unit→Option (Int×Int×Unit):=fun (p0,p1,_)=>
  (bif (decide ((p0.length:Int)>(100:Int))) then
  some ((0:Int),(1:Int),())
  else
  Option.bind (
  loopM (S:=Int×Bool×(List Int)×(List Int)×Unit) (fun (x23,o6_0_1,o6_0_2,o6_0_0,_)=>
  (bif (decide (x23<(p0.length:Int))) then
  bif (decide (0≤x23)&&decide (x23<(p0.length:Int))) then
  let e1:tNodeT:=(List.getD p0 (Int.toNat x23) tNode.z)
  Option.bind (expr_typer_step.F (e1.1,e1.2.1,e1.2.2.1,e1.2.2.2.1,e1.2.2.2.2,o6_0_1,o6_0_2,o6_0_0,())) fun y2=>
  (bif (!y2.1) then
  some (.inr (.inr ((0:Int),(30:Int),())))
  else
  let e3:Int:=(IntKind.i64.wrap (x23+(1:Int)))
  some (.inl (e3,y2.2.1,y2.2.2.1,y2.2.2.2.1,())))
  else none
  else
  some (.inr (.inl (o6_0_1,o6_0_2,o6_0_0,()))))) ((0:Int),true,p1,[],()):Option ((Bool×(List Int)×(List Int)×Unit)⊕_)) fun r4=>match r4 with
  | .inl (o6_0_1_4,o6_0_2_4,o6_0_0_4,_)=>
  (Option.bind (expr_stack_int_one.F (o6_0_1_4,o6_0_2_4,o6_0_0_4,())) fun y5=>
  (bif y5.2.1 then
  some (y5.1,(0:Int),())
  else
  some ((0:Int),(30:Int),())))
  | .inr r=>some r)
noncomputable def expr_Type.F:(List tNodeT)×(List Int)×Unit→Option (Int×Int×Unit):=stk expr_Type.B
theorem expr_Type.eq:expr_Type.F=expr_Type.B:=stk_eq _
theorem expr_Type.ev (x:TS expr_Type.si):evF cexpr_stack_int_one inl0 (Tryz.f84.body.getD .skip) Tryz.f84.results.toList expr_Type.h expr_Type.si expr_Type.so x=expr_Type.B x:=by kernel_rfl
theorem expr_Type.fn:FnOk PP 84 (Tryz.f84.body.getD .skip) Tryz.f84.results.toList Tryz.f84.ntmps:=fnOk_mk (by kernel_rfl) (by kernel_rfl) (by kernel_rfl) (by kernel_rfl)
theorem expr_Type.ok:SpecOk PP 84 ⟨2,expr_Type.si,expr_Type.so,expr_Type.F⟩:=fn_stk cxexpr_stack_int_one (inl0_ok _ _) mixed expr_Type.fn expr_Type.h (by kernel_rfl) expr_Type.ev
noncomputable def spexpr_Type:List (Nat×List (Nat×AK)×Lv.Spec):=(84,[],⟨2,expr_Type.si,expr_Type.so,expr_Type.F⟩)::spexpr_stack_int_one
noncomputable abbrev cexpr_Type:Cx:=⟨tabAt tab0,eqAt eqs0,specAt spexpr_Type,159,specPAt sqddl_parser_view⟩
theorem cxexpr_Type:CxOk PP cexpr_Type:=cxexpr_stack_int_one.consS [] expr_Type.fn.enters expr_Type.ok
def schema_truth.si:Sh:=⟨[(0,.v false [.sl 78 tNode]),(1,.v false [.sl 3 (.int .i64)])],[],[],0,[]⟩
def schema_truth.so:Sh:=⟨[(0,.v false [.bool])],[],[],1000,[]⟩
def schema_truth.h:H:=.n
noncomputable def schema_truth.B:(List tNodeT)×(List Int)×Unit→Option (Bool×Unit):=fun (p0,p1,_)=>
  Option.bind (expr_Type.F (p0,p1,())) fun y1=>
  (bif (y1.2.1==(0:Int)) then
  (bif (y1.1==(1:Int)) then
  some (true,())
  else
  some ((y1.1==(0:Int)),()))
  else
  some (false,()))
noncomputable def schema_truth.F:(List tNodeT)×(List Int)×Unit→Option (Bool×Unit):=stk schema_truth.B
theorem schema_truth.eq:schema_truth.F=schema_truth.B:=stk_eq _
theorem schema_truth.ev (x:TS schema_truth.si):evF cexpr_Type inl0 (Tryz.f57.body.getD .skip) Tryz.f57.results.toList schema_truth.h schema_truth.si schema_truth.so x=schema_truth.B x:=by kernel_rfl
theorem schema_truth.fn:FnOk PP 57 (Tryz.f57.body.getD .skip) Tryz.f57.results.toList Tryz.f57.ntmps:=fnOk_mk (by kernel_rfl) (by kernel_rfl) (by kernel_rfl) (by kernel_rfl)
theorem schema_truth.ok:SpecOk PP 57 ⟨2,schema_truth.si,schema_truth.so,schema_truth.F⟩:=fn_stk cxexpr_Type (inl0_ok _ _) mixed schema_truth.fn schema_truth.h (by kernel_rfl) schema_truth.ev
noncomputable def spschema_truth:List (Nat×List (Nat×AK)×Lv.Spec):=(57,[],⟨2,schema_truth.si,schema_truth.so,schema_truth.F⟩)::spexpr_Type
noncomputable abbrev cschema_truth:Cx:=⟨tabAt tab0,eqAt eqs0,specAt spschema_truth,159,specPAt sqddl_parser_view⟩
theorem cxschema_truth:CxOk PP cschema_truth:=cxexpr_Type.consS [] schema_truth.fn.enters schema_truth.ok
def schema_table.si:Sh:=⟨[(0,.v false [.sl 38 tDef]),(1,.v true [.str,.sl 41 tColumn,.sl 32 (.sl 78 tNode)])],[],[],0,[]⟩
def schema_table.so:Sh:=⟨[(0,.v false [.int .i64])],[],[],1000,[]⟩
def schema_table.h:H:=(.s none .n (.s none .n (.s (some ⟨[],[],[0,3,5],0,[]⟩) (.s none .n (.b (.l ⟨[(24,.v false [.int .i64])],[],[0,3,5,22,23],0,[]⟩ (.s none .n (.s none .n (.s none (.b (.s none .n (.s none .n (.s (some ⟨[(53,.v false [.bool])],[],[0,3,5,22,23,24],0,[]⟩) .n .n)))) .n)))))) (.s (some ⟨[],[],[3,5],0,[]⟩) (.s none .n (.b (.l ⟨[(58,.v false [.int .i64])],[],[0,3,5,56,57],0,[]⟩ (.s none .n (.s none .n (.s none (.b (.s none .n (.s none .n (.s none .n (.s (some ⟨[(12,.v false [.ptr 0 0])],[(0,true,.box 29 [.str,.sl 41 tColumn,.sl 32 (.sl 78 tNode)])],[0,3,5,11,56,57,58],1,[]⟩) .n .n))))) .n)))))) .n))))
noncomputable def schema_table.B:(List tDefT)×ByteArray×(List tColumnT)×(List (List tNodeT))×Unit→Option (Int×Unit):=fun (p0,p1_0,p1_1,p1_2,_)=>
  Option.bind (schema_Cols.F (p0,(0:Int),p1_0,p1_1,p1_2,(⟨#[]⟩:ByteArray),(⟨#[]⟩:ByteArray),(⟨#[]⟩:ByteArray),(0:Int),(0:Int),([]:List tNodeT),([]:List Int),false,([]:List tAggT),())) fun y1=>
  Option.bind (
  loopM (S:=Int×Unit) (fun (x24,_)=>
  (bif (decide (x24<(p1_1.length:Int))) then
  bif (decide (0≤x24)&&decide (x24<(p1_1.length:Int))) then
  let e2:tColumnT:=(List.getD p1_1 (Int.toNat x24) tColumn.z)
  Option.bind (
  loopM (S:=Int×Unit) (fun (x8',_)=>
  (bif (decide (x8'<(p1_1.length:Int))) then
  Option.bind (
  bif (decide (0≤x8')&&decide (x8'<(p1_1.length:Int))) then
  let e3:tColumnT:=(List.getD p1_1 (Int.toNat x8') tColumn.z)
  some (.inl ((e3.1.toList==e2.1.toList),()))
  else none:Option ((Bool×Unit)⊕_)) fun r4=>match r4 with
  | .inl (x16_4,_)=>
  ((bif x16_4 then
  Option.map Sum.inr ((bif (x8' !=x24) then
  some (.inl (true,()))
  else
  (bif (x24==(0:Int)) then
  (bif e2.2.2.1 then
  some (.inl (true,()))
  else
  (bif (e2.2.1==(1:Int)) then
  some (.inl (true,()))
  else
  some (.inl ((!(e2.2.2.2.2.1.toList==(⟨#[]⟩:ByteArray).toList)),()))))
  else
  some (.inl (false,())))))
  else
  let e5:Int:=(IntKind.i64.wrap (x8'+(1:Int)))
  some (.inl (e5,()))))
  | .inr r=>some r
  else
  Option.map Sum.inr ((bif ((-1:Int) !=x24) then
  some (.inl (true,()))
  else
  (bif (x24==(0:Int)) then
  (bif e2.2.2.1 then
  some (.inl (true,()))
  else
  (bif (e2.2.1==(1:Int)) then
  some (.inl (true,()))
  else
  some (.inl ((!(e2.2.2.2.2.1.toList==(⟨#[]⟩:ByteArray).toList)),()))))
  else
  some (.inl (false,()))))))) ((0:Int),()):Option ((Bool×Unit)⊕_)) fun r6=>match r6 with
  | .inl (x53_6,_)=>
  ((bif x53_6 then
  some (.inr (.inr ((91:Int),())))
  else
  let e7:Int:=(IntKind.i64.wrap (x24+(1:Int)))
  some (.inl (e7,()))))
  | .inr r=>some r
  else none
  else
  some (.inr (.inl (()))))) ((0:Int),()):Option ((Unit)⊕_)) fun r8=>match r8 with
  | .inl (_)=>
  (Option.bind (
  loopM (S:=Int×Unit) (fun (x58,_)=>
  (bif (decide (x58<(p1_1.length:Int))) then
  bif (decide (0≤x58)&&decide (x58<(p1_1.length:Int))) then
  let e9:tColumnT:=(List.getD p1_1 (Int.toNat x58) tColumn.z)
  (bif (e9.2.2.2.2.1.toList==(⟨#[]⟩:ByteArray).toList) then
  let e10:Int:=(IntKind.i64.wrap (x58+(1:Int)))
  some (.inl (e10,()))
  else
  Option.bind (
  (bif (!(e9.2.2.2.2.1.toList==p1_0.toList)) then
  Option.bind (schema_Find.F (p0,e9.2.2.2.2.1,())) fun y11=>
  (bif (decide (y11.1<(0:Int))) then
  some (.inr (.inr (.inr ((92:Int),()))))
  else
  bif (decide (0≤y11.1)&&decide (y11.1<(p0.length:Int))) then
  let e12:tDefT:=(List.getD p0 (Int.toNat y11.1) tDef.z)
  (bif (e12.1 !=(0:Int)) then
  some (.inr (.inr (.inr ((92:Int),()))))
  else
  bif (decide (0≤y11.1)&&decide (y11.1<(p0.length:Int))) then
  let e13:tDefT:=(List.getD p0 (Int.toNat y11.1) tDef.z)
  some (.inl (e13.2.1.1,e13.2.1.2.1,e13.2.1.2.2,()))
  else none)
  else none)
  else
  some (.inl (p1_0,p1_1,p1_2,()))):Option ((ByteArray×(List tColumnT)×(List (List tNodeT))×Unit)⊕_)) fun r14=>match r14 with
  | .inl (o12_0_0_14,o12_0_1_14,o12_0_2_14,_)=>
  (bif (decide (0≤(0:Int))&&decide ((0:Int)<(o12_0_1_14.length:Int))) then
  let e15:tColumnT:=(List.getD o12_0_1_14 0 tColumn.z)
  (bif (e15.2.1 !=e9.2.1) then
  some (.inr (.inr ((92:Int),())))
  else
  (bif (e9.2.2.2.2.2==(2:Int)) then
  (bif (!e9.2.2.1) then
  some (.inr (.inr ((92:Int),())))
  else
  let e16:Int:=(IntKind.i64.wrap (x58+(1:Int)))
  some (.inl (e16,())))
  else
  let e17:Int:=(IntKind.i64.wrap (x58+(1:Int)))
  some (.inl (e17,()))))
  else none)
  | .inr r=>some r)
  else none
  else
  some (.inr (.inl (()))))) ((0:Int),()):Option ((Unit)⊕_)) fun r18=>match r18 with
  | .inl (_)=>
  (loopM (S:=Int×(List Int)×Unit) (fun (x8,ok_1_0,_)=>
  (bif (decide (x8<(p1_2.length:Int))) then
  Option.bind (
  bif (decide (0≤x8)&&decide (x8<(p1_2.length:Int))) then
  let e19:(List tNodeT):=(List.getD p1_2 (Int.toNat x8) [])
  Option.bind (schema_truth.F (e19,ok_1_0,())) fun y20=>
  some (.inl ((!y20.1),ok_1_0,()))
  else none:Option ((Bool×(List Int)×Unit)⊕_)) fun r21=>match r21 with
  | .inl (x16_21,ok_1_0_21,_)=>
  ((bif x16_21 then
  Option.map Sum.inr ((bif (decide (x8≥(0:Int))) then
  some ((93:Int),())
  else
  some ((0:Int),())))
  else
  let e22:Int:=(IntKind.i64.wrap (x8+(1:Int)))
  some (.inl (e22,ok_1_0_21,()))))
  | .inr r=>some r
  else
  Option.map Sum.inr ((bif (decide ((-1:Int)≥(0:Int))) then
  some ((93:Int),())
  else
  some ((0:Int),()))))) ((0:Int),y1.1,()))
  | .inr r=>some r)
  | .inr r=>some r
noncomputable def schema_table.F:(List tDefT)×ByteArray×(List tColumnT)×(List (List tNodeT))×Unit→Option (Int×Unit):=stk schema_table.B
theorem schema_table.eq:schema_table.F=schema_table.B:=stk_eq _
noncomputable def schema_table.ins:Nat→List (Option Slot)→Heap→Option (Code×List ResultVar×H):=fun g xs hp=>bif Nat.beq g 53 then some (Tryz.f53.body.getD .skip,Tryz.f53.results.toList,.n) else bif Nat.beq g 54&&cloK xs hp 1 53 then some (Tryz.f54.body.getD .skip,Tryz.f54.results.toList,(.s none .n (.s none (.s none .n (.b (.l ⟨[(8,.v false [.int .i64])],[],[0,1,7],0,[]⟩ (.s none .n (.s none .n (.s none (.b (.s none .n (.s (some ⟨[(16,.v false [.bool])],[],[0,1,5,7,8],0,[]⟩) .n .n))) .n)))))) .n))) else bif Nat.beq g 55&&cloK xs hp 1 56 then some (Tryz.f55.body.getD .skip,Tryz.f55.results.toList,.n) else bif Nat.beq g 56 then some (Tryz.f56.body.getD .skip,Tryz.f56.results.toList,.n) else bif Nat.beq g 83&&cloK xs hp 1 56 then some (Tryz.f83.body.getD .skip,Tryz.f83.results.toList,(.s none .n (.s none (.s none .n (.b (.l ⟨[(8,.v false [.int .i64])],[(0,true,.box 33 [.sl 3 (.int .i64)])],[0,1,7],1,[(0,1003)]⟩ (.s none .n (.s none .n (.s none (.b (.s none .n (.s (some ⟨[(16,.v false [.bool])],[(0,true,.box 33 [.sl 3 (.int .i64)])],[0,1,5,7,8],1,[(0,1003)]⟩) .n .n))) .n)))))) .n))) else none
theorem schema_table.ins_ok:∀n xs hp code res h,schema_table.ins n xs hp=some (code,res,h)→∃nt,FnOk PP n code res nt:=by
  intro n xs hp code res h e
  unfold schema_table.ins at e
  cases e0:(Nat.beq n 53) with
  |true=>rw [e0] at e;cases e;rw [Nat.eq_of_beq_eq_true e0];exact ⟨_,fnOk_mk (by kernel_rfl) (by kernel_rfl) (by kernel_rfl) (by kernel_rfl)⟩
  |false=>
  rw [e0] at e
  cases e1:(Nat.beq n 54&&cloK xs hp 1 53) with
  |true=>rw [e1] at e;cases e;rw [Nat.eq_of_beq_eq_true (Bool.and_eq_true_iff.1 e1).1];exact ⟨_,fnOk_mk (by kernel_rfl) (by kernel_rfl) (by kernel_rfl) (by kernel_rfl)⟩
  |false=>
  rw [e1] at e
  cases e2:(Nat.beq n 55&&cloK xs hp 1 56) with
  |true=>rw [e2] at e;cases e;rw [Nat.eq_of_beq_eq_true (Bool.and_eq_true_iff.1 e2).1];exact ⟨_,fnOk_mk (by kernel_rfl) (by kernel_rfl) (by kernel_rfl) (by kernel_rfl)⟩
  |false=>
  rw [e2] at e
  cases e3:(Nat.beq n 56) with
  |true=>rw [e3] at e;cases e;rw [Nat.eq_of_beq_eq_true e3];exact ⟨_,fnOk_mk (by kernel_rfl) (by kernel_rfl) (by kernel_rfl) (by kernel_rfl)⟩
  |false=>
  rw [e3] at e
  cases e4:(Nat.beq n 83&&cloK xs hp 1 56) with
  |true=>rw [e4] at e;cases e;rw [Nat.eq_of_beq_eq_true (Bool.and_eq_true_iff.1 e4).1];exact ⟨_,fnOk_mk (by kernel_rfl) (by kernel_rfl) (by kernel_rfl) (by kernel_rfl)⟩
  |false=>
  rw [e4] at e
  cases e
theorem schema_table.ev (x:TS schema_table.si):evF cschema_truth (inlS cschema_truth schema_table.ins (inlS cschema_truth schema_table.ins (inlS cschema_truth schema_table.ins inl0))) (Tryz.f34.body.getD .skip) Tryz.f34.results.toList schema_table.h schema_table.si schema_table.so x=schema_table.B x:=by kernel_rfl
theorem schema_table.fn:FnOk PP 34 (Tryz.f34.body.getD .skip) Tryz.f34.results.toList Tryz.f34.ntmps:=fnOk_mk (by kernel_rfl) (by kernel_rfl) (by kernel_rfl) (by kernel_rfl)
theorem schema_table.ok:SpecOk PP 34 ⟨2,schema_table.si,schema_table.so,schema_table.F⟩:=fn_stk cxschema_truth (inlS_ok cxschema_truth (inlS_ok cxschema_truth (inlS_ok cxschema_truth (inl0_ok _ _) (drawnOk cxschema_truth mixed) schema_table.ins_ok) (drawnOk cxschema_truth mixed) schema_table.ins_ok) (drawnOk cxschema_truth mixed) schema_table.ins_ok) mixed schema_table.fn schema_table.h (by kernel_rfl) schema_table.ev
noncomputable def spschema_table:List (Nat×List (Nat×AK)×Lv.Spec):=(34,[],⟨2,schema_table.si,schema_table.so,schema_table.F⟩)::spschema_truth
noncomputable abbrev cschema_table:Cx:=⟨tabAt tab0,eqAt eqs0,specAt spschema_table,159,specPAt sqddl_parser_view⟩
theorem cxschema_table:CxOk PP cschema_table:=cxschema_truth.consS [] schema_table.fn.enters schema_table.ok
def schema_view.si:Sh:=⟨[(0,.v false [.sl 38 tDef]),(1,.v true [.str,.str,.str,.int .i64,.int .i64,.sl 78 tNode,.sl 3 (.int .i64),.bool,.sl 66 tAgg])],[],[],0,[]⟩
def schema_view.so:Sh:=⟨[(0,.v false [.bool])],[],[],1000,[]⟩
def schema_view.h:H:=(.s none .n (.s (some ⟨[],[],[0,3],0,[]⟩) .n (.s none .n (.s none .n (.s none .n (.s none (.s (some ⟨[(83,.v false [.bool])],[],[3,7],0,[]⟩) .n .n) (.s (some ⟨[(7,.v false [.sl 3 (.int .i64)])],[],[3],0,[]⟩) .n (.s (some ⟨[],[],[3,7],0,[]⟩) (.s none .n (.b (.l ⟨[(98,.v false [.int .i64])],[],[3,7,96,97],0,[]⟩ .n))) (.s (some ⟨[],[],[3],0,[]⟩) (.s none .n (.b (.l ⟨[(110,.v false [.int .i64])],[],[3,7,108,109],0,[]⟩ (.s none .n (.s none .n (.s none (.b (.s none .n (.s (some ⟨[(136,.v false [.bool])],[],[3,7,108,109,110],0,[]⟩) .n .n))) .n)))))) .n)))))))))
noncomputable def schema_view.B:(List tDefT)×ByteArray×ByteArray×ByteArray×Int×Int×(List tNodeT)×(List Int)×Bool×(List tAggT)×Unit→Option (Bool×Unit):=fun (p0,p1_0,p1_1,p1_2,p1_3,p1_4,p1_5,p1_6,p1_7,p1_8,_)=>
  Option.bind (
  Option.bind (schema_Find.F (p0,p1_1,())) fun y1=>
  (bif (decide (y1.1<(0:Int))) then
  some (.inr (false,()))
  else
  (bif (!(p1_2.toList==(⟨#[]⟩:ByteArray).toList)) then
  Option.bind (schema_Find.F (p0,p1_2,())) fun y2=>
  (bif (decide (y2.1<(0:Int))) then
  some (.inr (false,()))
  else
  some (.inl (())))
  else
  some (.inl (())))):Option ((Unit)⊕_)) fun r3=>match r3 with
  | .inl (_)=>
  (Option.bind (schema_Find.F (p0,p1_1,())) fun y4=>
  bif (decide (0≤y4.1)&&decide (y4.1<(p0.length:Int))) then
  let e5:tDefT:=(List.getD p0 (Int.toNat y4.1) tDef.z)
  Option.bind (schema_Cols.F (p0,e5.1,e5.2.1.1,e5.2.1.2.1,e5.2.1.2.2,e5.2.2.1,e5.2.2.2.1,e5.2.2.2.2.1,e5.2.2.2.2.2.1.1,e5.2.2.2.2.2.1.2,e5.2.2.2.2.2.2.1,e5.2.2.2.2.2.2.2.1,e5.2.2.2.2.2.2.2.2.1,e5.2.2.2.2.2.2.2.2.2,())) fun y6=>
  Option.bind (schema_Joined.F (p0,p1_0,p1_1,p1_2,p1_3,p1_4,p1_5,p1_6,p1_7,p1_8,())) fun y7=>
  bif (decide (0≤(y6.1.length:Int))&&(decide ((y6.1.length:Int)≤(y7.1.length:Int))&&decide ((y7.1.length:Int)≤(y7.1.length:Int)))) then
  Option.bind (
  (bif (!(p1_2.toList==(⟨#[]⟩:ByteArray).toList)) then
  bif (decide (0≤(0:Int))&&decide ((0:Int)<(2:Int))) then
  (bif (decide (p1_3≥(y6.1.length:Int))) then
  some (.inl (true,()))
  else
  bif (decide (0≤(1:Int))&&decide ((1:Int)<(2:Int))) then
  (bif (decide (p1_4≥((Int.toNat (y7.1.length:Int)-Int.toNat (y6.1.length:Int):Nat):Int))) then
  some (.inl (true,()))
  else
  bif (decide (0≤(0:Int))&&decide ((0:Int)<(2:Int))) then
  bif (decide (0≤p1_3)&&decide (p1_3<(y6.1.length:Int))) then
  let e8:Int:=(List.getD y6.1 (Int.toNat p1_3) (0:Int))
  bif (decide (0≤(1:Int))&&decide ((1:Int)<(2:Int))) then
  bif (decide (0≤p1_4)&&decide (p1_4<((Int.toNat (y7.1.length:Int)-Int.toNat (y6.1.length:Int):Nat):Int))) then
  let e9:Int:=(List.getD y7.1 ((Int.toNat (y6.1.length:Int))+(Int.toNat p1_4):Nat) (0:Int))
  some (.inl ((e8 !=e9),()))
  else none
  else none
  else none
  else none)
  else none)
  else none
  else
  some (.inl (false,()))):Option ((Bool×Unit)⊕_)) fun r10=>match r10 with
  | .inl (x83_10,_)=>
  ((bif x83_10 then
  some (false,())
  else
  Option.bind (
  (bif (decide ((p1_5.length:Int)>(0:Int))) then
  Option.bind (schema_truth.F (p1_5,y7.1,())) fun y11=>
  (bif (!y11.1) then
  some (.inr (false,()))
  else
  some (.inl (y7.1,())))
  else
  some (.inl (y7.1,()))):Option (((List Int)×Unit)⊕_)) fun r12=>match r12 with
  | .inl (x7_12,_)=>
  (Option.bind (
  loopM (S:=Int×Unit) (fun (x98,_)=>
  (bif (decide (x98<(p1_6.length:Int))) then
  bif (decide (0≤x98)&&decide (x98<(p1_6.length:Int))) then
  let e13:Int:=(List.getD p1_6 (Int.toNat x98) (0:Int))
  (bif (decide (e13≥(x7_12.length:Int))) then
  some (.inr (.inr (false,())))
  else
  let e14:Int:=(IntKind.i64.wrap (x98+(1:Int)))
  some (.inl (e14,())))
  else none
  else
  some (.inr (.inl (()))))) ((0:Int),()):Option ((Unit)⊕_)) fun r15=>match r15 with
  | .inl (_)=>
  (Option.bind (
  loopM (S:=Int×Unit) (fun (x110,_)=>
  (bif (decide (x110<(p1_8.length:Int))) then
  bif (decide (0≤x110)&&decide (x110<(p1_8.length:Int))) then
  let e16:tAggT:=(List.getD p1_8 (Int.toNat x110) tAgg.z)
  Option.bind (
  (bif (e16.1 !=(0:Int)) then
  (bif (decide (e16.2≥(x7_12.length:Int))) then
  some (.inl (true,()))
  else
  (bif (e16.1==(1:Int)) then
  bif (decide (0≤e16.2)&&decide (e16.2<(x7_12.length:Int))) then
  let e17:Int:=(List.getD x7_12 (Int.toNat e16.2) (0:Int))
  some (.inl ((e17 !=(2:Int)),()))
  else none
  else
  some (.inl (false,()))))
  else
  (bif (e16.1==(1:Int)) then
  bif (decide (0≤e16.2)&&decide (e16.2<(x7_12.length:Int))) then
  let e18:Int:=(List.getD x7_12 (Int.toNat e16.2) (0:Int))
  some (.inl ((e18 !=(2:Int)),()))
  else none
  else
  some (.inl (false,())))):Option ((Bool×Unit)⊕_)) fun r19=>match r19 with
  | .inl (x136_19,_)=>
  ((bif x136_19 then
  some (.inr (.inr (false,())))
  else
  let e20:Int:=(IntKind.i64.wrap (x110+(1:Int)))
  some (.inl (e20,()))))
  | .inr r=>some r
  else none
  else
  some (.inr (.inl (()))))) ((0:Int),()):Option ((Unit)⊕_)) fun r21=>match r21 with
  | .inl (_)=>
  (let e22:Int:=(IntKind.i64.wrap ((p1_6.length:Int)+(p1_8.length:Int)))
  (bif p1_7 then
  (bif (decide (e22≥(1:Int))) then
  some ((decide (e22≤(40:Int))),())
  else
  some (false,()))
  else
  (bif ((p1_8.length:Int)==(0:Int)) then
  (bif (decide (e22≥(1:Int))) then
  some ((decide (e22≤(40:Int))),())
  else
  some (false,()))
  else
  some (false,()))))
  | .inr r=>some r)
  | .inr r=>some r)
  | .inr r=>some r))
  | .inr r=>some r
  else none
  else none)
  | .inr r=>some r
noncomputable def schema_view.F:(List tDefT)×ByteArray×ByteArray×ByteArray×Int×Int×(List tNodeT)×(List Int)×Bool×(List tAggT)×Unit→Option (Bool×Unit):=stk schema_view.B
theorem schema_view.eq:schema_view.F=schema_view.B:=stk_eq _
theorem schema_view.ev (x:TS schema_view.si):evF cschema_table inl0 (Tryz.f35.body.getD .skip) Tryz.f35.results.toList schema_view.h schema_view.si schema_view.so x=schema_view.B x:=by kernel_rfl
theorem schema_view.fn:FnOk PP 35 (Tryz.f35.body.getD .skip) Tryz.f35.results.toList Tryz.f35.ntmps:=fnOk_mk (by kernel_rfl) (by kernel_rfl) (by kernel_rfl) (by kernel_rfl)
theorem schema_view.ok:SpecOk PP 35 ⟨2,schema_view.si,schema_view.so,schema_view.F⟩:=fn_stk cxschema_table (inl0_ok _ _) mixed schema_view.fn schema_view.h (by kernel_rfl) schema_view.ev
noncomputable def spschema_view:List (Nat×List (Nat×AK)×Lv.Spec):=(35,[],⟨2,schema_view.si,schema_view.so,schema_view.F⟩)::spschema_table
noncomputable abbrev cschema_view:Cx:=⟨tabAt tab0,eqAt eqs0,specAt spschema_view,159,specPAt sqddl_parser_view⟩
theorem cxschema_view:CxOk PP cschema_view:=cxschema_table.consS [] schema_view.fn.enters schema_view.ok
def schema_add.si:Sh:=⟨[(0,.v false [.sl 38 tDef]),(1,.v true [.int .i64,.str,.sl 41 tColumn,.sl 32 (.sl 78 tNode),.str,.str,.str,.int .i64,.int .i64,.sl 78 tNode,.sl 3 (.int .i64),.bool,.sl 66 tAgg])],[],[],0,[]⟩
def schema_add.so:Sh:=⟨[(0,.v false [.int .i64])],[],[],1000,[]⟩
def schema_add.h:H:=.n
noncomputable def schema_add.B:(List tDefT)×Int×ByteArray×(List tColumnT)×(List (List tNodeT))×ByteArray×ByteArray×ByteArray×Int×Int×(List tNodeT)×(List Int)×Bool×(List tAggT)×Unit→Option (Int×Unit):=fun (p0,p1_0,p1_1,p1_2,p1_3,p1_4,p1_5,p1_6,p1_7,p1_8,p1_9,p1_10,p1_11,p1_12,_)=>
  Option.bind (ddl_May.F (p1_0,p1_1,p1_2,p1_3,p1_4,p1_5,p1_6,p1_7,p1_8,p1_9,p1_10,p1_11,p1_12,())) fun y1=>
  (bif (!y1.1) then
  some ((1:Int),())
  else
  (bif (decide ((p0.length:Int)≥(20:Int))) then
  some ((95:Int),())
  else
  Option.bind (schema_Name.F (p1_0,p1_1,p1_2,p1_3,p1_4,p1_5,p1_6,p1_7,p1_8,p1_9,p1_10,p1_11,p1_12,())) fun y2=>
  Option.bind (schema_Find.F (p0,y2.1,())) fun y3=>
  (bif (decide (y3.1≥(0:Int))) then
  some ((90:Int),())
  else
  (bif (p1_0==(0:Int)) then
  Option.bind (schema_table.F (p0,p1_1,p1_2,p1_3,())) fun y4=>
  some (y4.1,())
  else
  Option.bind (schema_view.F (p0,p1_4,p1_5,p1_6,p1_7,p1_8,p1_9,p1_10,p1_11,p1_12,())) fun y5=>
  (bif (!y5.1) then
  some ((94:Int),())
  else
  some ((0:Int),()))))))
noncomputable def schema_add.F:(List tDefT)×Int×ByteArray×(List tColumnT)×(List (List tNodeT))×ByteArray×ByteArray×ByteArray×Int×Int×(List tNodeT)×(List Int)×Bool×(List tAggT)×Unit→Option (Int×Unit):=stk schema_add.B
theorem schema_add.eq:schema_add.F=schema_add.B:=stk_eq _
theorem schema_add.ev (x:TS schema_add.si):evF cschema_view inl0 (Tryz.f22.body.getD .skip) Tryz.f22.results.toList schema_add.h schema_add.si schema_add.so x=schema_add.B x:=by kernel_rfl
theorem schema_add.fn:FnOk PP 22 (Tryz.f22.body.getD .skip) Tryz.f22.results.toList Tryz.f22.ntmps:=fnOk_mk (by kernel_rfl) (by kernel_rfl) (by kernel_rfl) (by kernel_rfl)
theorem schema_add.ok:SpecOk PP 22 ⟨2,schema_add.si,schema_add.so,schema_add.F⟩:=fn_stk cxschema_view (inl0_ok _ _) mixed schema_add.fn schema_add.h (by kernel_rfl) schema_add.ev
noncomputable def spschema_add:List (Nat×List (Nat×AK)×Lv.Spec):=(22,[],⟨2,schema_add.si,schema_add.so,schema_add.F⟩)::spschema_view
noncomputable abbrev cschema_add:Cx:=⟨tabAt tab0,eqAt eqs0,specAt spschema_add,159,specPAt sqddl_parser_view⟩
theorem cxschema_add:CxOk PP cschema_add:=cxschema_view.consS [] schema_add.fn.enters schema_add.ok
def schema_May.si:Sh:=⟨[(0,.v false [.sl 38 tDef])],[],[],0,[]⟩
def schema_May.so:Sh:=⟨[(0,.v false [.bool])],[],[],1000,[]⟩
def schema_May.h:H:=(.s none .n (.s none (.s none .n (.b (.l ⟨[(7,.v false [.int .i64])],[],[0,5,6],0,[]⟩ .n))) .n))
noncomputable def schema_May.B:(List tDefT)×Unit→Option (Bool×Unit):=fun (p0,_)=>
  loopM (S:=Int×Unit) (fun (x7,_)=>
  (bif (decide (x7<(p0.length:Int))) then
  bif (decide (0≤x7)&&decide (x7<(p0.length:Int))) then
  let e1:tDefT:=(List.getD p0 (Int.toNat x7) tDef.z)
  bif (decide (0≤(0:Int))&&(decide ((0:Int)≤x7)&&decide (x7≤(p0.length:Int)))) then
  let e2:List tDefT:=(List.drop (Int.toNat (0:Int)) (List.take (Int.toNat x7) p0))
  Option.bind (schema_add.F (e2,e1.1,e1.2.1.1,e1.2.1.2.1,e1.2.1.2.2,e1.2.2.1,e1.2.2.2.1,e1.2.2.2.2.1,e1.2.2.2.2.2.1.1,e1.2.2.2.2.2.1.2,e1.2.2.2.2.2.2.1,e1.2.2.2.2.2.2.2.1,e1.2.2.2.2.2.2.2.2.1,e1.2.2.2.2.2.2.2.2.2,())) fun y3=>
  (bif (y3.1 !=(0:Int)) then
  some (.inr (false,()))
  else
  let e4:Int:=(IntKind.i64.wrap (x7+(1:Int)))
  some (.inl (e4,())))
  else none
  else none
  else
  some (.inr (true,())))) ((0:Int),())
noncomputable def schema_May.F:(List tDefT)×Unit→Option (Bool×Unit):=stk schema_May.B
theorem schema_May.eq:schema_May.F=schema_May.B:=stk_eq _
theorem schema_May.ev (x:TS schema_May.si):evF cschema_add inl0 (Tryz.f10.body.getD .skip) Tryz.f10.results.toList schema_May.h schema_May.si schema_May.so x=schema_May.B x:=by kernel_rfl
theorem schema_May.fn:FnOk PP 10 (Tryz.f10.body.getD .skip) Tryz.f10.results.toList Tryz.f10.ntmps:=fnOk_mk (by kernel_rfl) (by kernel_rfl) (by kernel_rfl) (by kernel_rfl)
theorem schema_May.ok:SpecOk PP 10 ⟨1,schema_May.si,schema_May.so,schema_May.F⟩:=fn_stk cxschema_add (inl0_ok _ _) mixed schema_May.fn schema_May.h (by kernel_rfl) schema_May.ev
noncomputable def spschema_May:List (Nat×List (Nat×AK)×Lv.Spec):=(10,[],⟨1,schema_May.si,schema_May.so,schema_May.F⟩)::spschema_add
noncomputable abbrev cschema_May:Cx:=⟨tabAt tab0,eqAt eqs0,specAt spschema_May,159,specPAt sqddl_parser_view⟩
theorem cxschema_May:CxOk PP cschema_May:=cxschema_add.consS [] schema_May.fn.enters schema_May.ok
def slices_Clone_sl_api_Column_api_Column.si:Sh:=⟨[(0,.v false [.sl 41 tColumn])],[],[],0,[]⟩
def slices_Clone_sl_api_Column_api_Column.so:Sh:=⟨[(0,.v false [.ref 1000])],[(1000,false,.arr 41 tColumn)],[],1001,[]⟩
def slices_Clone_sl_api_Column_api_Column.h:H:=.n
noncomputable def slices_Clone_sl_api_Column_api_Column.B:(List tColumnT)×Unit→Option ((List tColumnT)×Unit):=fun (p0,_)=>
  (bif p0.isEmpty then
  both (fun b1=>(bif b1 then
  some ([],())
  else
  bif (Nat.ble (([]:List tColumnT).length+p0.length) 2513169434916) then
  some ((([]:List tColumnT)++p0),())
  else none))
  else
  bif (Nat.ble (([]:List tColumnT).length+p0.length) 2513169434916) then
  some ((([]:List tColumnT)++p0),())
  else none)
noncomputable def slices_Clone_sl_api_Column_api_Column.F:(List tColumnT)×Unit→Option ((List tColumnT)×Unit):=stk slices_Clone_sl_api_Column_api_Column.B
theorem slices_Clone_sl_api_Column_api_Column.eq:slices_Clone_sl_api_Column_api_Column.F=slices_Clone_sl_api_Column_api_Column.B:=stk_eq _
theorem slices_Clone_sl_api_Column_api_Column.ev (x:TS slices_Clone_sl_api_Column_api_Column.si):evF cschema_May inl0 (Tryz.f38.body.getD .skip) Tryz.f38.results.toList slices_Clone_sl_api_Column_api_Column.h slices_Clone_sl_api_Column_api_Column.si slices_Clone_sl_api_Column_api_Column.so x=slices_Clone_sl_api_Column_api_Column.B x:=by kernel_rfl
theorem slices_Clone_sl_api_Column_api_Column.fn:FnOk PP 38 (Tryz.f38.body.getD .skip) Tryz.f38.results.toList Tryz.f38.ntmps:=fnOk_mk (by kernel_rfl) (by kernel_rfl) (by kernel_rfl) (by kernel_rfl)
theorem slices_Clone_sl_api_Column_api_Column.ok:SpecOk PP 38 ⟨1,slices_Clone_sl_api_Column_api_Column.si,slices_Clone_sl_api_Column_api_Column.so,slices_Clone_sl_api_Column_api_Column.F⟩:=fn_stk cxschema_May (inl0_ok _ _) mixed slices_Clone_sl_api_Column_api_Column.fn slices_Clone_sl_api_Column_api_Column.h (by kernel_rfl) slices_Clone_sl_api_Column_api_Column.ev
noncomputable def spslices_Clone_sl_api_Column_api_Column:List (Nat×List (Nat×AK)×Lv.Spec):=(38,[],⟨1,slices_Clone_sl_api_Column_api_Column.si,slices_Clone_sl_api_Column_api_Column.so,slices_Clone_sl_api_Column_api_Column.F⟩)::spschema_May
noncomputable abbrev cslices_Clone_sl_api_Column_api_Column:Cx:=⟨tabAt tab0,eqAt eqs0,specAt spslices_Clone_sl_api_Column_api_Column,159,specPAt sqddl_parser_view⟩
theorem cxslices_Clone_sl_api_Column_api_Column:CxOk PP cslices_Clone_sl_api_Column_api_Column:=cxschema_May.consS [] slices_Clone_sl_api_Column_api_Column.fn.enters slices_Clone_sl_api_Column_api_Column.ok
def slices_Clone_sl_api_Expr_api_Expr.si:Sh:=⟨[(0,.v false [.sl 32 (.sl 78 tNode)])],[],[],0,[]⟩
def slices_Clone_sl_api_Expr_api_Expr.so:Sh:=⟨[(0,.v false [.ref 1000])],[(1000,false,.arr 32 (.sl 78 tNode))],[],1001,[]⟩
def slices_Clone_sl_api_Expr_api_Expr.h:H:=.n
noncomputable def slices_Clone_sl_api_Expr_api_Expr.B:(List (List tNodeT))×Unit→Option ((List (List tNodeT))×Unit):=fun (p0,_)=>
  (bif p0.isEmpty then
  both (fun b1=>(bif b1 then
  some ([],())
  else
  bif (Nat.ble (([]:List (List tNodeT)).length+p0.length) 5864062014805) then
  some ((([]:List (List tNodeT))++p0),())
  else none))
  else
  bif (Nat.ble (([]:List (List tNodeT)).length+p0.length) 5864062014805) then
  some ((([]:List (List tNodeT))++p0),())
  else none)
noncomputable def slices_Clone_sl_api_Expr_api_Expr.F:(List (List tNodeT))×Unit→Option ((List (List tNodeT))×Unit):=stk slices_Clone_sl_api_Expr_api_Expr.B
theorem slices_Clone_sl_api_Expr_api_Expr.eq:slices_Clone_sl_api_Expr_api_Expr.F=slices_Clone_sl_api_Expr_api_Expr.B:=stk_eq _
theorem slices_Clone_sl_api_Expr_api_Expr.ev (x:TS slices_Clone_sl_api_Expr_api_Expr.si):evF cslices_Clone_sl_api_Column_api_Column inl0 (Tryz.f39.body.getD .skip) Tryz.f39.results.toList slices_Clone_sl_api_Expr_api_Expr.h slices_Clone_sl_api_Expr_api_Expr.si slices_Clone_sl_api_Expr_api_Expr.so x=slices_Clone_sl_api_Expr_api_Expr.B x:=by kernel_rfl
theorem slices_Clone_sl_api_Expr_api_Expr.fn:FnOk PP 39 (Tryz.f39.body.getD .skip) Tryz.f39.results.toList Tryz.f39.ntmps:=fnOk_mk (by kernel_rfl) (by kernel_rfl) (by kernel_rfl) (by kernel_rfl)
theorem slices_Clone_sl_api_Expr_api_Expr.ok:SpecOk PP 39 ⟨1,slices_Clone_sl_api_Expr_api_Expr.si,slices_Clone_sl_api_Expr_api_Expr.so,slices_Clone_sl_api_Expr_api_Expr.F⟩:=fn_stk cxslices_Clone_sl_api_Column_api_Column (inl0_ok _ _) mixed slices_Clone_sl_api_Expr_api_Expr.fn slices_Clone_sl_api_Expr_api_Expr.h (by kernel_rfl) slices_Clone_sl_api_Expr_api_Expr.ev
noncomputable def spslices_Clone_sl_api_Expr_api_Expr:List (Nat×List (Nat×AK)×Lv.Spec):=(39,[],⟨1,slices_Clone_sl_api_Expr_api_Expr.si,slices_Clone_sl_api_Expr_api_Expr.so,slices_Clone_sl_api_Expr_api_Expr.F⟩)::spslices_Clone_sl_api_Column_api_Column
noncomputable abbrev cslices_Clone_sl_api_Expr_api_Expr:Cx:=⟨tabAt tab0,eqAt eqs0,specAt spslices_Clone_sl_api_Expr_api_Expr,159,specPAt sqddl_parser_view⟩
theorem cxslices_Clone_sl_api_Expr_api_Expr:CxOk PP cslices_Clone_sl_api_Expr_api_Expr:=cxslices_Clone_sl_api_Column_api_Column.consS [] slices_Clone_sl_api_Expr_api_Expr.fn.enters slices_Clone_sl_api_Expr_api_Expr.ok
def slices_Clone_api_Expr_api_Node.si:Sh:=⟨[(0,.v false [.sl 78 tNode])],[],[],0,[]⟩
def slices_Clone_api_Expr_api_Node.so:Sh:=⟨[(0,.v false [.ref 1000])],[(1000,false,.arr 78 tNode)],[],1001,[]⟩
def slices_Clone_api_Expr_api_Node.h:H:=.n
noncomputable def slices_Clone_api_Expr_api_Node.B:(List tNodeT)×Unit→Option ((List tNodeT)×Unit):=fun (p0,_)=>
  (bif p0.isEmpty then
  both (fun b1=>(bif b1 then
  some ([],())
  else
  bif (Nat.ble (([]:List tNodeT).length+p0.length) 2932031007402) then
  some ((([]:List tNodeT)++p0),())
  else none))
  else
  bif (Nat.ble (([]:List tNodeT).length+p0.length) 2932031007402) then
  some ((([]:List tNodeT)++p0),())
  else none)
noncomputable def slices_Clone_api_Expr_api_Node.F:(List tNodeT)×Unit→Option ((List tNodeT)×Unit):=stk slices_Clone_api_Expr_api_Node.B
theorem slices_Clone_api_Expr_api_Node.eq:slices_Clone_api_Expr_api_Node.F=slices_Clone_api_Expr_api_Node.B:=stk_eq _
theorem slices_Clone_api_Expr_api_Node.ev (x:TS slices_Clone_api_Expr_api_Node.si):evF cslices_Clone_sl_api_Expr_api_Expr inl0 (Tryz.f40.body.getD .skip) Tryz.f40.results.toList slices_Clone_api_Expr_api_Node.h slices_Clone_api_Expr_api_Node.si slices_Clone_api_Expr_api_Node.so x=slices_Clone_api_Expr_api_Node.B x:=by kernel_rfl
theorem slices_Clone_api_Expr_api_Node.fn:FnOk PP 40 (Tryz.f40.body.getD .skip) Tryz.f40.results.toList Tryz.f40.ntmps:=fnOk_mk (by kernel_rfl) (by kernel_rfl) (by kernel_rfl) (by kernel_rfl)
theorem slices_Clone_api_Expr_api_Node.ok:SpecOk PP 40 ⟨1,slices_Clone_api_Expr_api_Node.si,slices_Clone_api_Expr_api_Node.so,slices_Clone_api_Expr_api_Node.F⟩:=fn_stk cxslices_Clone_sl_api_Expr_api_Expr (inl0_ok _ _) mixed slices_Clone_api_Expr_api_Node.fn slices_Clone_api_Expr_api_Node.h (by kernel_rfl) slices_Clone_api_Expr_api_Node.ev
noncomputable def spslices_Clone_api_Expr_api_Node:List (Nat×List (Nat×AK)×Lv.Spec):=(40,[],⟨1,slices_Clone_api_Expr_api_Node.si,slices_Clone_api_Expr_api_Node.so,slices_Clone_api_Expr_api_Node.F⟩)::spslices_Clone_sl_api_Expr_api_Expr
noncomputable abbrev cslices_Clone_api_Expr_api_Node:Cx:=⟨tabAt tab0,eqAt eqs0,specAt spslices_Clone_api_Expr_api_Node,159,specPAt sqddl_parser_view⟩
theorem cxslices_Clone_api_Expr_api_Node:CxOk PP cslices_Clone_api_Expr_api_Node:=cxslices_Clone_sl_api_Expr_api_Expr.consS [] slices_Clone_api_Expr_api_Node.fn.enters slices_Clone_api_Expr_api_Node.ok
def slices_Clone_sl_int_int.si:Sh:=⟨[(0,.v false [.sl 3 (.int .i64)])],[],[],0,[]⟩
def slices_Clone_sl_int_int.so:Sh:=⟨[(0,.v false [.ref 1000])],[(1000,false,.arr 3 (.int .i64))],[],1001,[]⟩
def slices_Clone_sl_int_int.h:H:=.n
noncomputable def slices_Clone_sl_int_int.B:(List Int)×Unit→Option ((List Int)×Unit):=fun (p0,_)=>
  (bif p0.isEmpty then
  both (fun b1=>(bif b1 then
  some ([],())
  else
  bif (Nat.ble (([]:List Int).length+p0.length) 17592186044416) then
  some ((([]:List Int)++p0),())
  else none))
  else
  bif (Nat.ble (([]:List Int).length+p0.length) 17592186044416) then
  some ((([]:List Int)++p0),())
  else none)
noncomputable def slices_Clone_sl_int_int.F:(List Int)×Unit→Option ((List Int)×Unit):=stk slices_Clone_sl_int_int.B
theorem slices_Clone_sl_int_int.eq:slices_Clone_sl_int_int.F=slices_Clone_sl_int_int.B:=stk_eq _
theorem slices_Clone_sl_int_int.ev (x:TS slices_Clone_sl_int_int.si):evF cslices_Clone_api_Expr_api_Node inl0 (Tryz.f41.body.getD .skip) Tryz.f41.results.toList slices_Clone_sl_int_int.h slices_Clone_sl_int_int.si slices_Clone_sl_int_int.so x=slices_Clone_sl_int_int.B x:=by kernel_rfl
theorem slices_Clone_sl_int_int.fn:FnOk PP 41 (Tryz.f41.body.getD .skip) Tryz.f41.results.toList Tryz.f41.ntmps:=fnOk_mk (by kernel_rfl) (by kernel_rfl) (by kernel_rfl) (by kernel_rfl)
theorem slices_Clone_sl_int_int.ok:SpecOk PP 41 ⟨1,slices_Clone_sl_int_int.si,slices_Clone_sl_int_int.so,slices_Clone_sl_int_int.F⟩:=fn_stk cxslices_Clone_api_Expr_api_Node (inl0_ok _ _) mixed slices_Clone_sl_int_int.fn slices_Clone_sl_int_int.h (by kernel_rfl) slices_Clone_sl_int_int.ev
noncomputable def spslices_Clone_sl_int_int:List (Nat×List (Nat×AK)×Lv.Spec):=(41,[],⟨1,slices_Clone_sl_int_int.si,slices_Clone_sl_int_int.so,slices_Clone_sl_int_int.F⟩)::spslices_Clone_api_Expr_api_Node
noncomputable abbrev cslices_Clone_sl_int_int:Cx:=⟨tabAt tab0,eqAt eqs0,specAt spslices_Clone_sl_int_int,159,specPAt sqddl_parser_view⟩
theorem cxslices_Clone_sl_int_int:CxOk PP cslices_Clone_sl_int_int:=cxslices_Clone_api_Expr_api_Node.consS [] slices_Clone_sl_int_int.fn.enters slices_Clone_sl_int_int.ok
def slices_Clone_sl_api_Agg_api_Agg.si:Sh:=⟨[(0,.v false [.sl 66 tAgg])],[],[],0,[]⟩
def slices_Clone_sl_api_Agg_api_Agg.so:Sh:=⟨[(0,.v false [.ref 1000])],[(1000,false,.arr 66 tAgg)],[],1001,[]⟩
def slices_Clone_sl_api_Agg_api_Agg.h:H:=.n
noncomputable def slices_Clone_sl_api_Agg_api_Agg.B:(List tAggT)×Unit→Option ((List tAggT)×Unit):=fun (p0,_)=>
  (bif p0.isEmpty then
  both (fun b1=>(bif b1 then
  some ([],())
  else
  bif (Nat.ble (([]:List tAggT).length+p0.length) 8796093022208) then
  some ((([]:List tAggT)++p0),())
  else none))
  else
  bif (Nat.ble (([]:List tAggT).length+p0.length) 8796093022208) then
  some ((([]:List tAggT)++p0),())
  else none)
noncomputable def slices_Clone_sl_api_Agg_api_Agg.F:(List tAggT)×Unit→Option ((List tAggT)×Unit):=stk slices_Clone_sl_api_Agg_api_Agg.B
theorem slices_Clone_sl_api_Agg_api_Agg.eq:slices_Clone_sl_api_Agg_api_Agg.F=slices_Clone_sl_api_Agg_api_Agg.B:=stk_eq _
theorem slices_Clone_sl_api_Agg_api_Agg.ev (x:TS slices_Clone_sl_api_Agg_api_Agg.si):evF cslices_Clone_sl_int_int inl0 (Tryz.f42.body.getD .skip) Tryz.f42.results.toList slices_Clone_sl_api_Agg_api_Agg.h slices_Clone_sl_api_Agg_api_Agg.si slices_Clone_sl_api_Agg_api_Agg.so x=slices_Clone_sl_api_Agg_api_Agg.B x:=by kernel_rfl
theorem slices_Clone_sl_api_Agg_api_Agg.fn:FnOk PP 42 (Tryz.f42.body.getD .skip) Tryz.f42.results.toList Tryz.f42.ntmps:=fnOk_mk (by kernel_rfl) (by kernel_rfl) (by kernel_rfl) (by kernel_rfl)
theorem slices_Clone_sl_api_Agg_api_Agg.ok:SpecOk PP 42 ⟨1,slices_Clone_sl_api_Agg_api_Agg.si,slices_Clone_sl_api_Agg_api_Agg.so,slices_Clone_sl_api_Agg_api_Agg.F⟩:=fn_stk cxslices_Clone_sl_int_int (inl0_ok _ _) mixed slices_Clone_sl_api_Agg_api_Agg.fn slices_Clone_sl_api_Agg_api_Agg.h (by kernel_rfl) slices_Clone_sl_api_Agg_api_Agg.ev
noncomputable def spslices_Clone_sl_api_Agg_api_Agg:List (Nat×List (Nat×AK)×Lv.Spec):=(42,[],⟨1,slices_Clone_sl_api_Agg_api_Agg.si,slices_Clone_sl_api_Agg_api_Agg.so,slices_Clone_sl_api_Agg_api_Agg.F⟩)::spslices_Clone_sl_int_int
noncomputable abbrev cslices_Clone_sl_api_Agg_api_Agg:Cx:=⟨tabAt tab0,eqAt eqs0,specAt spslices_Clone_sl_api_Agg_api_Agg,159,specPAt sqddl_parser_view⟩
theorem cxslices_Clone_sl_api_Agg_api_Agg:CxOk PP cslices_Clone_sl_api_Agg_api_Agg:=cxslices_Clone_sl_int_int.consS [] slices_Clone_sl_api_Agg_api_Agg.fn.enters slices_Clone_sl_api_Agg_api_Agg.ok
def schema_copied.si:Sh:=⟨[(0,.v true [.int .i64,.str,.sl 41 tColumn,.sl 32 (.sl 78 tNode),.str,.str,.str,.int .i64,.int .i64,.sl 78 tNode,.sl 3 (.int .i64),.bool,.sl 66 tAgg])],[],[],0,[]⟩
def schema_copied.so:Sh:=⟨[(0,.v true [.int .i64,.str,.ref 1000,.ref 1001,.str,.str,.str,.int .i64,.int .i64,.ref 1002,.ref 1003,.bool,.ref 1004])],[(1000,false,.arr 41 tColumn),(1001,false,.arr 32 (.sl 78 tNode)),(1002,false,.arr 78 tNode),(1003,false,.arr 3 (.int .i64)),(1004,false,.arr 66 tAgg)],[],1005,[]⟩
def schema_copied.h:H:=(.s none .n (.s none .n (.s (some ⟨[(1,.v false [.ptr 0 0])],[(0,true,.box 38 [.int .i64,.str,.ref 1,.ref 2,.str,.str,.str,.int .i64,.int .i64,.sl 78 tNode,.sl 3 (.int .i64),.bool,.sl 66 tAgg]),(1,false,.arr 41 tColumn),(2,false,.arr 32 (.sl 78 tNode))],[2],3,[]⟩) (.s none .n (.b (.l ⟨[(1,.v false [.ptr 0 0]),(19,.v false [.ref 2]),(21,.v false [.int .i64])],[(0,true,.box 38 [.int .i64,.str,.ref 1,.ref 2,.str,.str,.str,.int .i64,.int .i64,.sl 78 tNode,.sl 3 (.int .i64),.bool,.sl 66 tAgg]),(1,false,.arr 41 tColumn),(2,false,.arr 32 (.sl 78 tNode))],[2,20],3,[]⟩ .n))) .n)))
noncomputable def schema_copied.B:Int×ByteArray×(List tColumnT)×(List (List tNodeT))×ByteArray×ByteArray×ByteArray×Int×Int×(List tNodeT)×(List Int)×Bool×(List tAggT)×Unit→Option (Int×ByteArray×ByteArray×ByteArray×ByteArray×Int×Int×Bool×(List tColumnT)×(List (List tNodeT))×(List tNodeT)×(List Int)×(List tAggT)×Unit):=fun (p0_0,p0_1,p0_2,p0_3,p0_4,p0_5,p0_6,p0_7,p0_8,p0_9,p0_10,p0_11,p0_12,_)=>
  Option.bind (slices_Clone_sl_api_Column_api_Column.F (p0_2,())) fun y1=>
  Option.bind (slices_Clone_sl_api_Expr_api_Expr.F (p0_3,())) fun y2=>
  Option.bind (
  loopM (S:=Int×Int×ByteArray×ByteArray×ByteArray×ByteArray×Int×Int×(List tNodeT)×(List Int)×Bool×(List tAggT)×(List tColumnT)×(List (List tNodeT))×Unit) (fun (x21,o1_0_0,o1_0_1,o1_0_4,o1_0_5,o1_0_6,o1_0_7,o1_0_8,o1_0_9,o1_0_10,o1_0_11,o1_0_12,o1_0_2,o1_0_3,_)=>
  (bif (decide (x21<(y2.1.length:Int))) then
  bif (decide (0≤x21)&&decide (x21<(o1_0_3.length:Int))) then
  let e3:(List tNodeT):=(List.getD o1_0_3 (Int.toNat x21) [])
  Option.bind (slices_Clone_api_Expr_api_Node.F (e3,())) fun y4=>
  bif (decide (0≤x21)&&decide (x21<(o1_0_3.length:Int))) then
  let e5:Int:=(IntKind.i64.wrap (x21+(1:Int)))
  some (.inl (e5,o1_0_0,o1_0_1,o1_0_4,o1_0_5,o1_0_6,o1_0_7,o1_0_8,o1_0_9,o1_0_10,o1_0_11,o1_0_12,o1_0_2,(List.set o1_0_3 (Int.toNat x21) y4.1),()))
  else none
  else none
  else
  some (.inr (.inl (o1_0_0,o1_0_1,o1_0_4,o1_0_5,o1_0_6,o1_0_7,o1_0_8,o1_0_9,o1_0_10,o1_0_11,o1_0_12,o1_0_2,o1_0_3,()))))) ((0:Int),p0_0,p0_1,p0_4,p0_5,p0_6,p0_7,p0_8,p0_9,p0_10,p0_11,p0_12,y1.1,y2.1,()):Option ((Int×ByteArray×ByteArray×ByteArray×ByteArray×Int×Int×(List tNodeT)×(List Int)×Bool×(List tAggT)×(List tColumnT)×(List (List tNodeT))×Unit)⊕_)) fun r6=>match r6 with
  | .inl (o1_0_0_6,o1_0_1_6,o1_0_4_6,o1_0_5_6,o1_0_6_6,o1_0_7_6,o1_0_8_6,o1_0_9_6,o1_0_10_6,o1_0_11_6,o1_0_12_6,o1_0_2_6,o1_0_3_6,_)=>
  (Option.bind (slices_Clone_api_Expr_api_Node.F (o1_0_9_6,())) fun y7=>
  Option.bind (slices_Clone_sl_int_int.F (o1_0_10_6,())) fun y8=>
  Option.bind (slices_Clone_sl_api_Agg_api_Agg.F (o1_0_12_6,())) fun y9=>
  some (o1_0_0_6,o1_0_1_6,o1_0_4_6,o1_0_5_6,o1_0_6_6,o1_0_7_6,o1_0_8_6,o1_0_11_6,o1_0_2_6,o1_0_3_6,y7.1,y8.1,y9.1,()))
  | .inr r=>some r
noncomputable def schema_copied.F:Int×ByteArray×(List tColumnT)×(List (List tNodeT))×ByteArray×ByteArray×ByteArray×Int×Int×(List tNodeT)×(List Int)×Bool×(List tAggT)×Unit→Option (Int×ByteArray×ByteArray×ByteArray×ByteArray×Int×Int×Bool×(List tColumnT)×(List (List tNodeT))×(List tNodeT)×(List Int)×(List tAggT)×Unit):=stk schema_copied.B
theorem schema_copied.eq:schema_copied.F=schema_copied.B:=stk_eq _
theorem schema_copied.ev (x:TS schema_copied.si):evF cslices_Clone_sl_api_Agg_api_Agg inl0 (Tryz.f28.body.getD .skip) Tryz.f28.results.toList schema_copied.h schema_copied.si schema_copied.so x=schema_copied.B x:=by kernel_rfl
theorem schema_copied.fn:FnOk PP 28 (Tryz.f28.body.getD .skip) Tryz.f28.results.toList Tryz.f28.ntmps:=fnOk_mk (by kernel_rfl) (by kernel_rfl) (by kernel_rfl) (by kernel_rfl)
theorem schema_copied.ok:SpecOk PP 28 ⟨1,schema_copied.si,schema_copied.so,schema_copied.F⟩:=fn_stk cxslices_Clone_sl_api_Agg_api_Agg (inl0_ok _ _) mixed schema_copied.fn schema_copied.h (by kernel_rfl) schema_copied.ev
noncomputable def spschema_copied:List (Nat×List (Nat×AK)×Lv.Spec):=(28,[],⟨1,schema_copied.si,schema_copied.so,schema_copied.F⟩)::spslices_Clone_sl_api_Agg_api_Agg
noncomputable abbrev cschema_copied:Cx:=⟨tabAt tab0,eqAt eqs0,specAt spschema_copied,159,specPAt sqddl_parser_view⟩
theorem cxschema_copied:CxOk PP cschema_copied:=cxslices_Clone_sl_api_Agg_api_Agg.consS [] schema_copied.fn.enters schema_copied.ok
def schema_Add.si:Sh:=⟨[(0,.v false [.sl 38 tDef]),(1,.v true [.int .i64,.str,.sl 41 tColumn,.sl 32 (.sl 78 tNode),.str,.str,.str,.int .i64,.int .i64,.sl 78 tNode,.sl 3 (.int .i64),.bool,.sl 66 tAgg])],[],[],0,[]⟩
def schema_Add.so:Sh:=⟨[(0,.tup [(false,[.ref 1000]),(false,[.int .i64])])],[(1000,false,.arr 38 tDef)],[],1001,[]⟩
def schema_Add.h:H:=(.s none .n (.s none .n (.s none .n (.s none .n (.s (some ⟨[(7,.v false [.ref 0])],[(0,false,.arr 38 tDef)],[3],1,[]⟩) (.s none .n (.b (.l ⟨[(7,.v false [.ref 0]),(21,.v false [.int .i64])],[(0,false,.arr 38 tDef)],[3,19,20],1,[]⟩ .n))) .n)))))
noncomputable def schema_Add.B:(List tDefT)×Int×ByteArray×(List tColumnT)×(List (List tNodeT))×ByteArray×ByteArray×ByteArray×Int×Int×(List tNodeT)×(List Int)×Bool×(List tAggT)×Unit→Option (Int×(List tDefT)×Unit):=fun (p0,p1_0,p1_1,p1_2,p1_3,p1_4,p1_5,p1_6,p1_7,p1_8,p1_9,p1_10,p1_11,p1_12,_)=>
  Option.bind (schema_May.F (p0,())) fun y1=>
  (bif (!y1.1) then
  some ((1:Int),[],())
  else
  Option.bind (schema_add.F (p0,p1_0,p1_1,p1_2,p1_3,p1_4,p1_5,p1_6,p1_7,p1_8,p1_9,p1_10,p1_11,p1_12,())) fun y2=>
  (bif (y2.1 !=(0:Int)) then
  some (y2.1,[],())
  else
  Option.bind (
  loopM (S:=Int×(List tDefT)×Unit) (fun (x21,o7_0,_)=>
  (bif (decide (x21<(p0.length:Int))) then
  bif (decide (0≤x21)&&decide (x21<(p0.length:Int))) then
  let e3:tDefT:=(List.getD p0 (Int.toNat x21) tDef.z)
  Option.bind (schema_copied.F (e3.1,e3.2.1.1,e3.2.1.2.1,e3.2.1.2.2,e3.2.2.1,e3.2.2.2.1,e3.2.2.2.2.1,e3.2.2.2.2.2.1.1,e3.2.2.2.2.2.1.2,e3.2.2.2.2.2.2.1,e3.2.2.2.2.2.2.2.1,e3.2.2.2.2.2.2.2.2.1,e3.2.2.2.2.2.2.2.2.2,())) fun y4=>
  bif (Nat.ble (o7_0.length+ [(y4.1,((y4.2.1,(y4.2.2.2.2.2.2.2.2.1,y4.2.2.2.2.2.2.2.2.2.1)),(y4.2.2.1,(y4.2.2.2.1,(y4.2.2.2.2.1,((y4.2.2.2.2.2.1,y4.2.2.2.2.2.2.1),(y4.2.2.2.2.2.2.2.2.2.2.1,(y4.2.2.2.2.2.2.2.2.2.2.2.1,(y4.2.2.2.2.2.2.2.1,y4.2.2.2.2.2.2.2.2.2.2.2.2.1)))))))))].length) 651562446089) then
  let e5:Int:=(IntKind.i64.wrap (x21+(1:Int)))
  some (.inl (e5,(o7_0++ [(y4.1,((y4.2.1,(y4.2.2.2.2.2.2.2.2.1,y4.2.2.2.2.2.2.2.2.2.1)),(y4.2.2.1,(y4.2.2.2.1,(y4.2.2.2.2.1,((y4.2.2.2.2.2.1,y4.2.2.2.2.2.2.1),(y4.2.2.2.2.2.2.2.2.2.2.1,(y4.2.2.2.2.2.2.2.2.2.2.2.1,(y4.2.2.2.2.2.2.2.1,y4.2.2.2.2.2.2.2.2.2.2.2.2.1)))))))))]),()))
  else none
  else none
  else
  some (.inr (.inl (o7_0,()))))) ((0:Int),[],()):Option (((List tDefT)×Unit)⊕_)) fun r6=>match r6 with
  | .inl (o7_0_6,_)=>
  (Option.bind (schema_copied.F (p1_0,p1_1,p1_2,p1_3,p1_4,p1_5,p1_6,p1_7,p1_8,p1_9,p1_10,p1_11,p1_12,())) fun y7=>
  bif (Nat.ble (o7_0_6.length+ [(y7.1,((y7.2.1,(y7.2.2.2.2.2.2.2.2.1,y7.2.2.2.2.2.2.2.2.2.1)),(y7.2.2.1,(y7.2.2.2.1,(y7.2.2.2.2.1,((y7.2.2.2.2.2.1,y7.2.2.2.2.2.2.1),(y7.2.2.2.2.2.2.2.2.2.2.1,(y7.2.2.2.2.2.2.2.2.2.2.2.1,(y7.2.2.2.2.2.2.2.1,y7.2.2.2.2.2.2.2.2.2.2.2.2.1)))))))))].length) 651562446089) then
  some ((0:Int),(o7_0_6++ [(y7.1,((y7.2.1,(y7.2.2.2.2.2.2.2.2.1,y7.2.2.2.2.2.2.2.2.2.1)),(y7.2.2.1,(y7.2.2.2.1,(y7.2.2.2.2.1,((y7.2.2.2.2.2.1,y7.2.2.2.2.2.2.1),(y7.2.2.2.2.2.2.2.2.2.2.1,(y7.2.2.2.2.2.2.2.2.2.2.2.1,(y7.2.2.2.2.2.2.2.1,y7.2.2.2.2.2.2.2.2.2.2.2.2.1)))))))))]),())
  else none)
  | .inr r=>some r))
noncomputable def schema_Add.F:(List tDefT)×Int×ByteArray×(List tColumnT)×(List (List tNodeT))×ByteArray×ByteArray×ByteArray×Int×Int×(List tNodeT)×(List Int)×Bool×(List tAggT)×Unit→Option (Int×(List tDefT)×Unit):=stk schema_Add.B
theorem schema_Add.eq:schema_Add.F=schema_Add.B:=stk_eq _
theorem schema_Add.ev (x:TS schema_Add.si):evF cschema_copied inl0 (Tryz.f15.body.getD .skip) Tryz.f15.results.toList schema_Add.h schema_Add.si schema_Add.so x=schema_Add.B x:=by kernel_rfl
theorem schema_Add.fn:FnOk PP 15 (Tryz.f15.body.getD .skip) Tryz.f15.results.toList Tryz.f15.ntmps:=fnOk_mk (by kernel_rfl) (by kernel_rfl) (by kernel_rfl) (by kernel_rfl)
theorem schema_Add.ok:SpecOk PP 15 ⟨2,schema_Add.si,schema_Add.so,schema_Add.F⟩:=fn_stk cxschema_copied (inl0_ok _ _) mixed schema_Add.fn schema_Add.h (by kernel_rfl) schema_Add.ev
noncomputable def spschema_Add:List (Nat×List (Nat×AK)×Lv.Spec):=(15,[],⟨2,schema_Add.si,schema_Add.so,schema_Add.F⟩)::spschema_copied
noncomputable abbrev cschema_Add:Cx:=⟨tabAt tab0,eqAt eqs0,specAt spschema_Add,159,specPAt sqddl_parser_view⟩
theorem cxschema_Add:CxOk PP cschema_Add:=cxschema_copied.consS [] schema_Add.fn.enters schema_Add.ok
def L09_view.si:Sh:=⟨[(0,.v false [.str]),(1,.v false [.str])],[],[],0,[]⟩
def L09_view.so:Sh:=⟨[(0,.v true [.int .i64,.str,.sl 41 tColumn,.sl 32 (.sl 78 tNode),.str,.str,.str,.int .i64,.int .i64,.sl 78 tNode,.ref 1000,.bool,.ref 1001])],[(1000,false,.arr 3 (.int .i64)),(1001,false,.arr 66 tAgg)],[],1002,[]⟩
def L09_view.h:H:=.n
noncomputable def L09_view.B:ByteArray×ByteArray×Unit→Option (Int×ByteArray×(List tColumnT)×(List (List tNodeT))×ByteArray×ByteArray×ByteArray×Int×Int×(List tNodeT)×Bool×(List Int)×(List tAggT)×Unit):=fun (p0,p1,_)=>
  some ((1:Int),(⟨#[]⟩:ByteArray),([]:List tColumnT),([]:List (List tNodeT)),p0,p1,(⟨#[]⟩:ByteArray),(0:Int),(0:Int),([]:List tNodeT),true,[(1:Int)],[((1:Int),(0:Int))],())
noncomputable def L09_view.F:ByteArray×ByteArray×Unit→Option (Int×ByteArray×(List tColumnT)×(List (List tNodeT))×ByteArray×ByteArray×ByteArray×Int×Int×(List tNodeT)×Bool×(List Int)×(List tAggT)×Unit):=stk L09_view.B
theorem L09_view.eq:L09_view.F=L09_view.B:=stk_eq _
theorem L09_view.ev (x:TS L09_view.si):evF cschema_Add inl0 (Tryz.f20.body.getD .skip) Tryz.f20.results.toList L09_view.h L09_view.si L09_view.so x=L09_view.B x:=by kernel_rfl
theorem L09_view.fn:FnOk PP 20 (Tryz.f20.body.getD .skip) Tryz.f20.results.toList Tryz.f20.ntmps:=fnOk_mk (by kernel_rfl) (by kernel_rfl) (by kernel_rfl) (by kernel_rfl)
theorem L09_view.ok:SpecOk PP 20 ⟨2,L09_view.si,L09_view.so,L09_view.F⟩:=fn_stk cxschema_Add (inl0_ok _ _) mixed L09_view.fn L09_view.h (by kernel_rfl) L09_view.ev
noncomputable def spL09_view:List (Nat×List (Nat×AK)×Lv.Spec):=(20,[],⟨2,L09_view.si,L09_view.so,L09_view.F⟩)::spschema_Add
noncomputable abbrev cL09_view:Cx:=⟨tabAt tab0,eqAt eqs0,specAt spL09_view,159,specPAt sqddl_parser_view⟩
theorem cxL09_view:CxOk PP cL09_view:=cxschema_Add.consS [] L09_view.fn.enters L09_view.ok
def schema_Kinds.si:Sh:=⟨[(0,.v false [.sl 38 tDef]),(1,.v false [.str])],[],[],0,[]⟩
def schema_Kinds.so:Sh:=⟨[(0,.tup [(false,[.ref 1000]),(false,[.ref 1001]),(false,[.bool])])],[(1000,false,.arr 3 (.int .i64)),(1001,false,.arr 4 .bool)],[],1002,[]⟩
def schema_Kinds.h:H:=.n
noncomputable def schema_Kinds.B:(List tDefT)×ByteArray×Unit→Option (Bool×(List Int)×(List Bool)×Unit):=fun (p0,p1,_)=>
  Option.bind (schema_Find.F (p0,p1,())) fun y1=>
  (bif (decide (y1.1<(0:Int))) then
  some (false,[],[],())
  else
  Option.bind (schema_May.F (p0,())) fun y2=>
  (bif (!y2.1) then
  some (false,[],[],())
  else
  bif (decide (0≤y1.1)&&decide (y1.1<(p0.length:Int))) then
  let e3:tDefT:=(List.getD p0 (Int.toNat y1.1) tDef.z)
  Option.bind (schema_Cols.F (p0,e3.1,e3.2.1.1,e3.2.1.2.1,e3.2.1.2.2,e3.2.2.1,e3.2.2.2.1,e3.2.2.2.2.1,e3.2.2.2.2.2.1.1,e3.2.2.2.2.2.1.2,e3.2.2.2.2.2.2.1,e3.2.2.2.2.2.2.2.1,e3.2.2.2.2.2.2.2.2.1,e3.2.2.2.2.2.2.2.2.2,())) fun y4=>
  some (true,y4.1,y4.2.1,())
  else none))
noncomputable def schema_Kinds.F:(List tDefT)×ByteArray×Unit→Option (Bool×(List Int)×(List Bool)×Unit):=stk schema_Kinds.B
theorem schema_Kinds.eq:schema_Kinds.F=schema_Kinds.B:=stk_eq _
theorem schema_Kinds.ev (x:TS schema_Kinds.si):evF cL09_view inl0 (Tryz.f12.body.getD .skip) Tryz.f12.results.toList schema_Kinds.h schema_Kinds.si schema_Kinds.so x=schema_Kinds.B x:=by kernel_rfl
theorem schema_Kinds.fn:FnOk PP 12 (Tryz.f12.body.getD .skip) Tryz.f12.results.toList Tryz.f12.ntmps:=fnOk_mk (by kernel_rfl) (by kernel_rfl) (by kernel_rfl) (by kernel_rfl)
theorem schema_Kinds.ok:SpecOk PP 12 ⟨2,schema_Kinds.si,schema_Kinds.so,schema_Kinds.F⟩:=fn_stk cxL09_view (inl0_ok _ _) mixed schema_Kinds.fn schema_Kinds.h (by kernel_rfl) schema_Kinds.ev
noncomputable def spschema_Kinds:List (Nat×List (Nat×AK)×Lv.Spec):=(12,[],⟨2,schema_Kinds.si,schema_Kinds.so,schema_Kinds.F⟩)::spL09_view
noncomputable abbrev cschema_Kinds:Cx:=⟨tabAt tab0,eqAt eqs0,specAt spschema_Kinds,159,specPAt sqddl_parser_view⟩
theorem cxschema_Kinds:CxOk PP cschema_Kinds:=cxL09_view.consS [] schema_Kinds.fn.enters schema_Kinds.ok
def L09_fixed.si:Sh:=⟨[],[],[],0,[]⟩
def L09_fixed.so:Sh:=⟨[(0,.v false [.bool])],[],[],1000,[]⟩
def L09_fixed.h:H:=.n
noncomputable def L09_fixed.B:Unit→Option (Bool×Unit):=fun (_)=>
  Option.bind (L09_table.F ((⟨#[116]⟩:ByteArray),(⟨#[]⟩:ByteArray),())) fun y1=>
  Option.bind (schema_Add.F (([]:List tDefT),y1.1,y1.2.1,y1.2.2.2.2.2.2.2.2.2.2.2.2.1,y1.2.2.1,y1.2.2.2.1,y1.2.2.2.2.1,y1.2.2.2.2.2.1,y1.2.2.2.2.2.2.1,y1.2.2.2.2.2.2.2.1,y1.2.2.2.2.2.2.2.2.1,y1.2.2.2.2.2.2.2.2.2.1,y1.2.2.2.2.2.2.2.2.2.2.1,y1.2.2.2.2.2.2.2.2.2.2.2.1,())) fun y2=>
  Option.bind (L09_view.F ((⟨#[118]⟩:ByteArray),(⟨#[116]⟩:ByteArray),())) fun y3=>
  Option.bind (schema_Add.F (y2.2.1,y3.1,y3.2.1,y3.2.2.1,y3.2.2.2.1,y3.2.2.2.2.1,y3.2.2.2.2.2.1,y3.2.2.2.2.2.2.1,y3.2.2.2.2.2.2.2.1,y3.2.2.2.2.2.2.2.2.1,y3.2.2.2.2.2.2.2.2.2.1,y3.2.2.2.2.2.2.2.2.2.2.2.1,y3.2.2.2.2.2.2.2.2.2.2.1,y3.2.2.2.2.2.2.2.2.2.2.2.2.1,())) fun y4=>
  Option.bind (schema_Kinds.F (y4.2.1,(⟨#[118]⟩:ByteArray),())) fun y5=>
  Option.bind (L09_table.F ((⟨#[116]⟩:ByteArray),(⟨#[]⟩:ByteArray),())) fun y6=>
  Option.bind (schema_Add.F (y2.2.1,y6.1,y6.2.1,y6.2.2.2.2.2.2.2.2.2.2.2.2.1,y6.2.2.1,y6.2.2.2.1,y6.2.2.2.2.1,y6.2.2.2.2.2.1,y6.2.2.2.2.2.2.1,y6.2.2.2.2.2.2.2.1,y6.2.2.2.2.2.2.2.2.1,y6.2.2.2.2.2.2.2.2.2.1,y6.2.2.2.2.2.2.2.2.2.2.1,y6.2.2.2.2.2.2.2.2.2.2.2.1,())) fun y7=>
  Option.bind (L09_table.F ((⟨#[117]⟩:ByteArray),(⟨#[120]⟩:ByteArray),())) fun y8=>
  Option.bind (schema_Add.F (y2.2.1,y8.1,y8.2.1,y8.2.2.2.2.2.2.2.2.2.2.2.2.1,y8.2.2.1,y8.2.2.2.1,y8.2.2.2.2.1,y8.2.2.2.2.2.1,y8.2.2.2.2.2.2.1,y8.2.2.2.2.2.2.2.1,y8.2.2.2.2.2.2.2.2.1,y8.2.2.2.2.2.2.2.2.2.1,y8.2.2.2.2.2.2.2.2.2.2.1,y8.2.2.2.2.2.2.2.2.2.2.2.1,())) fun y9=>
  Option.bind (L09_view.F ((⟨#[118]⟩:ByteArray),(⟨#[120]⟩:ByteArray),())) fun y10=>
  Option.bind (schema_Add.F (y2.2.1,y10.1,y10.2.1,y10.2.2.1,y10.2.2.2.1,y10.2.2.2.2.1,y10.2.2.2.2.2.1,y10.2.2.2.2.2.2.1,y10.2.2.2.2.2.2.2.1,y10.2.2.2.2.2.2.2.2.1,y10.2.2.2.2.2.2.2.2.2.1,y10.2.2.2.2.2.2.2.2.2.2.2.1,y10.2.2.2.2.2.2.2.2.2.2.1,y10.2.2.2.2.2.2.2.2.2.2.2.2.1,())) fun y11=>
  Option.bind (L09_table.F ((⟨#[117]⟩:ByteArray),(⟨#[117]⟩:ByteArray),())) fun y12=>
  Option.bind (schema_Add.F (y2.2.1,y12.1,y12.2.1,y12.2.2.2.2.2.2.2.2.2.2.2.2.1,y12.2.2.1,y12.2.2.2.1,y12.2.2.2.2.1,y12.2.2.2.2.2.1,y12.2.2.2.2.2.2.1,y12.2.2.2.2.2.2.2.1,y12.2.2.2.2.2.2.2.2.1,y12.2.2.2.2.2.2.2.2.2.1,y12.2.2.2.2.2.2.2.2.2.2.1,y12.2.2.2.2.2.2.2.2.2.2.2.1,())) fun y13=>
  (bif (y2.1==(0:Int)) then
  (bif (y4.1==(0:Int)) then
  Option.bind (R07_Ints.F (y5.2.1,[(2:Int),(2:Int)],())) fun y14=>
  (bif y14.1 then
  Option.bind (R09_Bools.F (y5.2.2.1,[true,true],())) fun y15=>
  (bif y15.1 then
  (bif y5.1 then
  (bif (y7.1==(90:Int)) then
  (bif (y9.1==(92:Int)) then
  (bif (y11.1==(94:Int)) then
  (bif (y13.1==(0:Int)) then
  Option.bind (schema_Find.F (y4.2.1,(⟨#[118]⟩:ByteArray),())) fun y16=>
  (bif (y16.1==(1:Int)) then
  Option.bind (schema_May.F (y4.2.1,())) fun y17=>
  (bif y17.1 then
  bif (decide (0≤(1:Int))&&(decide ((1:Int)≤(y4.2.1.length:Int))&&decide ((y4.2.1.length:Int)≤(y4.2.1.length:Int)))) then
  let e18:List tDefT:=(List.drop (Int.toNat (1:Int)) (List.take (Int.toNat (y4.2.1.length:Int)) y4.2.1))
  Option.bind (schema_May.F (e18,())) fun y19=>
  some ((!y19.1),())
  else none
  else
  some (false,()))
  else
  some (false,()))
  else
  some (false,()))
  else
  some (false,()))
  else
  some (false,()))
  else
  some (false,()))
  else
  some (false,()))
  else
  some (false,()))
  else
  some (false,()))
  else
  some (false,()))
  else
  some (false,()))
noncomputable def L09_fixed.F:Unit→Option (Bool×Unit):=stk L09_fixed.B
theorem L09_fixed.eq:L09_fixed.F=L09_fixed.B:=stk_eq _
theorem L09_fixed.ev (x:TS L09_fixed.si):evF cschema_Kinds inl0 (Tryz.f8.body.getD .skip) Tryz.f8.results.toList L09_fixed.h L09_fixed.si L09_fixed.so x=L09_fixed.B x:=by kernel_rfl
theorem L09_fixed.fn:FnOk PP 8 (Tryz.f8.body.getD .skip) Tryz.f8.results.toList Tryz.f8.ntmps:=fnOk_mk (by kernel_rfl) (by kernel_rfl) (by kernel_rfl) (by kernel_rfl)
theorem L09_fixed.ok:SpecOk PP 8 ⟨0,L09_fixed.si,L09_fixed.so,L09_fixed.F⟩:=fn_stk cxschema_Kinds (inl0_ok _ _) mixed L09_fixed.fn L09_fixed.h (by kernel_rfl) L09_fixed.ev
noncomputable def spL09_fixed:List (Nat×List (Nat×AK)×Lv.Spec):=(8,[],⟨0,L09_fixed.si,L09_fixed.so,L09_fixed.F⟩)::spschema_Kinds
noncomputable abbrev cL09_fixed:Cx:=⟨tabAt tab0,eqAt eqs0,specAt spL09_fixed,159,specPAt sqddl_parser_view⟩
theorem cxL09_fixed:CxOk PP cL09_fixed:=cxschema_Kinds.consS [] L09_fixed.fn.enters L09_fixed.ok
def L09_SchemaAhead.si:Sh:=⟨[(0,.v false [.sl 38 tDef]),(1,.v false [.int .i64])],[],[],0,[]⟩
def L09_SchemaAhead.so:Sh:=⟨[(0,.v false [.bool])],[],[],1000,[]⟩
def L09_SchemaAhead.h:H:=(.s none .n (.s (some ⟨[],[],[0,1],0,[]⟩) .n (.s (some ⟨[],[],[0,1],0,[]⟩) (.s none .n (.b (.l ⟨[(5,.v false [.int .i64])],[],[0,1],0,[]⟩ (.s none .n (.s (some ⟨[],[],[0,1,5],0,[]⟩) (.b (.s none (.s (some ⟨[(70,.v false [.bool])],[],[0,1,5],0,[]⟩) .n .n) (.s (some ⟨[],[],[0,1,5],0,[]⟩) (.s none .n (.b (.l ⟨[(6,.v false [.int .i64])],[],[0,1,5],0,[]⟩ (.s (some ⟨[],[],[0,1,5,6],0,[]⟩) .n .n)))) (.s none .n (.s none (.s (some ⟨[(149,.v false [.bool])],[],[0,1,5,8],0,[]⟩) .n .n) (.s none .n (.b (.l ⟨[(11,.v false [.int .i64])],[],[0,1,5,8],0,[]⟩ .n)))))))) .n))))) .n)))
noncomputable def L09_SchemaAhead.B:(List tDefT)×Int×Unit→Option (Bool×Unit):=fun (p0,p1,_)=>
  Option.bind (
  Option.bind (L09_fixed.F (())) fun y1=>
  (bif (!y1.1) then
  Option.bind (L09_fixed.F (())) fun y2=>
  some (.inr (y2.1,()))
  else
  Option.bind (R09_Big.F (p0,())) fun y3=>
  (bif y3.1 then
  Option.bind (L09_fixed.F (())) fun y4=>
  some (.inr (y4.1,()))
  else
  Option.bind (schema_May.F (p0,())) fun y5=>
  (bif (!y5.1) then
  Option.bind (L09_fixed.F (())) fun y6=>
  some (.inr (y6.1,()))
  else
  some (.inl (()))))):Option ((Unit)⊕_)) fun r7=>match r7 with
  | .inl (_)=>
  (Option.bind (
  loopM (S:=Int×Unit) (fun (x5,_)=>
  (bif (decide (x5<(p0.length:Int))) then
  Option.bind (
  Option.bind (
  bif (decide (0≤x5)&&decide (x5<(p0.length:Int))) then
  let e8:tDefT:=(List.getD p0 (Int.toNat x5) tDef.z)
  (bif (e8.1 !=(0:Int)) then
  bif (decide (0≤(0:Int))&&(decide ((0:Int)≤x5)&&decide (x5≤(p0.length:Int)))) then
  let e9:List tDefT:=(List.drop (Int.toNat (0:Int)) (List.take (Int.toNat x5) p0))
  bif (decide (0≤x5)&&decide (x5<(p0.length:Int))) then
  let e10:tDefT:=(List.getD p0 (Int.toNat x5) tDef.z)
  Option.bind (schema_Find.F (e9,e10.2.2.2.1,())) fun y11=>
  (bif (decide (y11.1<(0:Int))) then
  some (.inl (true,()))
  else
  bif (decide (0≤x5)&&decide (x5<(p0.length:Int))) then
  let e12:tDefT:=(List.getD p0 (Int.toNat x5) tDef.z)
  (bif (!(e12.2.2.2.2.1.toList==(⟨#[]⟩:ByteArray).toList)) then
  bif (decide (0≤(0:Int))&&(decide ((0:Int)≤x5)&&decide (x5≤(p0.length:Int)))) then
  let e13:List tDefT:=(List.drop (Int.toNat (0:Int)) (List.take (Int.toNat x5) p0))
  bif (decide (0≤x5)&&decide (x5<(p0.length:Int))) then
  let e14:tDefT:=(List.getD p0 (Int.toNat x5) tDef.z)
  Option.bind (schema_Find.F (e13,e14.2.2.2.2.1,())) fun y15=>
  some (.inl ((decide (y15.1<(0:Int))),()))
  else none
  else none
  else
  some (.inl (false,())))
  else none)
  else none
  else none
  else
  some (.inl (false,())))
  else none:Option ((Bool×Unit)⊕_)) fun r16=>match r16 with
  | .inl (x70_16,_)=>
  ((bif x70_16 then
  some (.inr (.inr (.inr (false,()))))
  else
  Option.bind (
  loopM (S:=Int×Unit) (fun (x6',_)=>
  Option.bind (
  bif (decide (0≤x5)&&decide (x5<(p0.length:Int))) then
  let e17:tDefT:=(List.getD p0 (Int.toNat x5) tDef.z)
  (bif (e17.1==(0:Int)) then
  bif (decide (0≤x5)&&decide (x5<(p0.length:Int))) then
  let e18:tDefT:=(List.getD p0 (Int.toNat x5) tDef.z)
  (bif (decide (x6'<(e18.2.1.2.1.length:Int))) then
  some (.inl (()))
  else
  some (.inr (.inr (.inl (())))))
  else none
  else
  some (.inr (.inr (.inl (())))))
  else none:Option ((Unit)⊕_)) fun r19=>match r19 with
  | .inl (_)=>
  (bif (decide (0≤x5)&&decide (x5<(p0.length:Int))) then
  let e20:tDefT:=(List.getD p0 (Int.toNat x5) tDef.z)
  bif (decide (0≤x6')&&decide (x6'<(e20.2.1.2.1.length:Int))) then
  let e21:tColumnT:=(List.getD e20.2.1.2.1 (Int.toNat x6') tColumn.z)
  (bif (!(e21.2.2.2.2.1.toList==(⟨#[]⟩:ByteArray).toList)) then
  bif (decide (0≤x5)&&decide (x5<(p0.length:Int))) then
  let e22:tDefT:=(List.getD p0 (Int.toNat x5) tDef.z)
  (bif (!(e21.2.2.2.2.1.toList==e22.2.1.1.toList)) then
  bif (decide (0≤(0:Int))&&(decide ((0:Int)≤x5)&&decide (x5≤(p0.length:Int)))) then
  let e23:List tDefT:=(List.drop (Int.toNat (0:Int)) (List.take (Int.toNat x5) p0))
  Option.bind (schema_Find.F (e23,e21.2.2.2.2.1,())) fun y24=>
  (bif (decide (y24.1<(0:Int))) then
  some (.inr (.inr (.inr (.inr (.inr (false,()))))))
  else
  let e25:Int:=(IntKind.i64.wrap (x6'+(1:Int)))
  some (.inl (e25,())))
  else none
  else
  let e26:Int:=(IntKind.i64.wrap (x6'+(1:Int)))
  some (.inl (e26,())))
  else none
  else
  let e27:Int:=(IntKind.i64.wrap (x6'+(1:Int)))
  some (.inl (e27,())))
  else none
  else none)
  | .inr r=>some r) ((0:Int),()):Option ((Unit)⊕_)) fun r28=>match r28 with
  | .inl (_)=>
  (bif (decide (0≤x5)&&decide (x5<(p0.length:Int))) then
  let e29:tDefT:=(List.getD p0 (Int.toNat x5) tDef.z)
  Option.bind (R09_Name.F (e29.1,e29.2.1.1,e29.2.1.2.1,e29.2.1.2.2,e29.2.2.1,e29.2.2.2.1,e29.2.2.2.2.1,e29.2.2.2.2.2.1.1,e29.2.2.2.2.2.1.2,e29.2.2.2.2.2.2.1,e29.2.2.2.2.2.2.2.1,e29.2.2.2.2.2.2.2.2.1,e29.2.2.2.2.2.2.2.2.2,())) fun y30=>
  Option.bind (schema_Kinds.F (p0,y30.1,())) fun y31=>
  Option.bind (
  (bif (!y31.1) then
  some (.inl (true,()))
  else
  (bif (decide ((y31.2.1.length:Int)<(1:Int))) then
  some (.inl (true,()))
  else
  (bif (decide ((y31.2.1.length:Int)>(40:Int))) then
  some (.inl (true,()))
  else
  some (.inl (((y31.2.2.1.length:Int) !=(y31.2.1.length:Int)),()))))):Option ((Bool×Unit)⊕_)) fun r32=>match r32 with
  | .inl (x149_32,_)=>
  ((bif x149_32 then
  some (.inr (.inr (.inr (false,()))))
  else
  loopM (S:=Int×Unit) (fun (x11',_)=>
  (bif (decide (x11'<(y31.2.1.length:Int))) then
  bif (decide (0≤x11')&&decide (x11'<(y31.2.1.length:Int))) then
  let e33:Int:=(List.getD y31.2.1 (Int.toNat x11') (0:Int))
  (bif (decide (e33<(1:Int))) then
  some (.inr (.inr (.inr (.inr (false,())))))
  else
  bif (decide (0≤x11')&&decide (x11'<(y31.2.1.length:Int))) then
  let e34:Int:=(List.getD y31.2.1 (Int.toNat x11') (0:Int))
  (bif (decide (e34>(3:Int))) then
  some (.inr (.inr (.inr (.inr (false,())))))
  else
  let e35:Int:=(IntKind.i64.wrap (x11'+(1:Int)))
  some (.inl (e35,())))
  else none)
  else none
  else
  some (.inr (.inl (()))))) ((0:Int),())))
  | .inr r=>some r
  else none)
  | .inr r=>some r))
  | .inr r=>some r:Option ((Unit)⊕_)) fun r36=>match r36 with
  | .inl (_)=>
  (let e37:Int:=(IntKind.i64.wrap (x5+(1:Int)))
  some (.inl (e37,())))
  | .inr r=>some r
  else
  some (.inr (.inl (()))))) ((0:Int),()):Option ((Unit)⊕_)) fun r38=>match r38 with
  | .inl (_)=>
  ((bif (decide (p1<(0:Int))) then
  some (true,())
  else
  (bif (decide (p1>(p0.length:Int))) then
  some (true,())
  else
  bif (decide (0≤(0:Int))&&(decide ((0:Int)≤p1)&&decide (p1≤(p0.length:Int)))) then
  let e39:List tDefT:=(List.drop (Int.toNat (0:Int)) (List.take (Int.toNat p1) p0))
  Option.bind (schema_May.F (e39,())) fun y40=>
  some (y40.1,())
  else none)))
  | .inr r=>some r)
  | .inr r=>some r
noncomputable def L09_SchemaAhead.F:(List tDefT)×Int×Unit→Option (Bool×Unit):=stk L09_SchemaAhead.B
theorem L09_SchemaAhead.ev (x:TS L09_SchemaAhead.si):evF cL09_fixed inl0 (Tryz.f3.body.getD .skip) Tryz.f3.results.toList L09_SchemaAhead.h L09_SchemaAhead.si L09_SchemaAhead.so x=L09_SchemaAhead.B x:=by kernel_rfl
theorem L09_SchemaAhead.fn:FnOk PP 3 (Tryz.f3.body.getD .skip) Tryz.f3.results.toList Tryz.f3.ntmps:=fnOk_mk (by kernel_rfl) (by kernel_rfl) (by kernel_rfl) (by kernel_rfl)
theorem L09_SchemaAhead.ok:SpecOk PP 3 ⟨2,L09_SchemaAhead.si,L09_SchemaAhead.so,L09_SchemaAhead.F⟩:=fn_stk cxL09_fixed (inl0_ok _ _) mixed L09_SchemaAhead.fn L09_SchemaAhead.h (by kernel_rfl) L09_SchemaAhead.ev
noncomputable def spL09_SchemaAhead:List (Nat×List (Nat×AK)×Lv.Spec):=(3,[],⟨2,L09_SchemaAhead.si,L09_SchemaAhead.so,L09_SchemaAhead.F⟩)::spL09_fixed
noncomputable abbrev cL09_SchemaAhead:Cx:=⟨tabAt tab0,eqAt eqs0,specAt spL09_SchemaAhead,159,specPAt sqddl_parser_view⟩
theorem cxL09_SchemaAhead:CxOk PP cL09_SchemaAhead:=cxL09_fixed.consS [] L09_SchemaAhead.fn.enters L09_SchemaAhead.ok
def L09_SchemaKeeps.si:Sh:=⟨[(0,.v false [.sl 38 tDef]),(1,.v true [.int .i64,.str,.sl 41 tColumn,.sl 32 (.sl 78 tNode),.str,.str,.str,.int .i64,.int .i64,.sl 78 tNode,.sl 3 (.int .i64),.bool,.sl 66 tAgg]),(2,.v false [.str])],[],[],0,[]⟩
def L09_SchemaKeeps.so:Sh:=⟨[(0,.v false [.bool])],[],[],1000,[]⟩
def L09_SchemaKeeps.h:H:=(.s none .n (.s (some ⟨[],[],[0,2,4],0,[]⟩) .n (.s none .n (.s none .n (.s (some ⟨[(7,.v false [.sl 38 tDef])],[],[0,2,4],0,[]⟩) .n .n)))))
noncomputable def L09_SchemaKeeps.B:(List tDefT)×Int×ByteArray×(List tColumnT)×(List (List tNodeT))×ByteArray×ByteArray×ByteArray×Int×Int×(List tNodeT)×(List Int)×Bool×(List tAggT)×ByteArray×Unit→Option (Bool×Unit):=fun (p0,p1_0,p1_1,p1_2,p1_3,p1_4,p1_5,p1_6,p1_7,p1_8,p1_9,p1_10,p1_11,p1_12,p2,_)=>
  Option.bind (
  Option.bind (L09_fixed.F (())) fun y1=>
  (bif (!y1.1) then
  Option.bind (L09_fixed.F (())) fun y2=>
  some (.inr (y2.1,()))
  else
  Option.bind (R09_Big.F (p0,())) fun y3=>
  (bif y3.1 then
  Option.bind (L09_fixed.F (())) fun y4=>
  some (.inr (y4.1,()))
  else
  Option.bind (R07_Big.F (p1_0,p1_1,p1_2,p1_3,p1_4,p1_5,p1_6,p1_7,p1_8,p1_9,p1_10,p1_11,p1_12,())) fun y5=>
  (bif y5.1 then
  Option.bind (L09_fixed.F (())) fun y6=>
  some (.inr (y6.1,()))
  else
  some (.inl (()))))):Option ((Unit)⊕_)) fun r7=>match r7 with
  | .inl (_)=>
  (Option.bind (schema_Add.F (p0,p1_0,p1_1,p1_2,p1_3,p1_4,p1_5,p1_6,p1_7,p1_8,p1_9,p1_10,p1_11,p1_12,())) fun y8=>
  (bif (y8.1 !=(0:Int)) then
  some (((y8.2.1.length:Int)==(0:Int)),())
  else
  Option.bind (
  let e9:Int:=(IntKind.i64.wrap ((p0.length:Int)+(1:Int)))
  (bif ((y8.2.1.length:Int) !=e9) then
  some (.inr (false,()))
  else
  bif (decide (0≤(0:Int))&&(decide ((0:Int)≤(p0.length:Int))&&decide ((p0.length:Int)≤(y8.2.1.length:Int)))) then
  Option.bind (R09_Same.F ((List.take (Int.toNat (p0.length:Int)-Int.toNat (0:Int):Nat) (List.drop (Int.toNat (0:Int)) y8.2.1)),p0,())) fun y10=>
  (bif (!y10.1) then
  some (.inr (false,()))
  else
  Option.bind (schema_May.F (y8.2.1,())) fun y11=>
  (bif (!y11.1) then
  some (.inr (false,()))
  else
  some (.inl (y8.2.1,()))))
  else none):Option (((List tDefT)×Unit)⊕_)) fun r12=>match r12 with
  | .inl (x7_12,_)=>
  (Option.bind (schema_Find.F (p0,p2,())) fun y13=>
  (bif (decide (y13.1<(0:Int))) then
  Option.bind (schema_Find.F (x7_12,p2,())) fun y14=>
  (bif (decide (y14.1<(0:Int))) then
  some (true,())
  else
  Option.bind (R09_Name.F (p1_0,p1_1,p1_2,p1_3,p1_4,p1_5,p1_6,p1_7,p1_8,p1_9,p1_10,p1_11,p1_12,())) fun y15=>
  some ((p2.toList==y15.1.toList),()))
  else
  Option.bind (schema_Kinds.F (p0,p2,())) fun y16=>
  Option.bind (schema_Kinds.F (x7_12,p2,())) fun y17=>
  Option.bind (schema_Find.F (x7_12,p2,())) fun y18=>
  (bif (y18.1==y13.1) then
  (bif y16.1 then
  (bif y17.1 then
  Option.bind (R07_Ints.F (y16.2.1,y17.2.1,())) fun y19=>
  (bif y19.1 then
  Option.bind (R09_Bools.F (y16.2.2.1,y17.2.2.1,())) fun y20=>
  some (y20.1,())
  else
  some (false,()))
  else
  some (false,()))
  else
  some (false,()))
  else
  some (false,()))))
  | .inr r=>some r))
  | .inr r=>some r
noncomputable def L09_SchemaKeeps.F:(List tDefT)×Int×ByteArray×(List tColumnT)×(List (List tNodeT))×ByteArray×ByteArray×ByteArray×Int×Int×(List tNodeT)×(List Int)×Bool×(List tAggT)×ByteArray×Unit→Option (Bool×Unit):=stk L09_SchemaKeeps.B
theorem L09_SchemaKeeps.ev (x:TS L09_SchemaKeeps.si):evF cL09_SchemaAhead inl0 (Tryz.f4.body.getD .skip) Tryz.f4.results.toList L09_SchemaKeeps.h L09_SchemaKeeps.si L09_SchemaKeeps.so x=L09_SchemaKeeps.B x:=by kernel_rfl
theorem L09_SchemaKeeps.fn:FnOk PP 4 (Tryz.f4.body.getD .skip) Tryz.f4.results.toList Tryz.f4.ntmps:=fnOk_mk (by kernel_rfl) (by kernel_rfl) (by kernel_rfl) (by kernel_rfl)
theorem L09_SchemaKeeps.ok:SpecOk PP 4 ⟨3,L09_SchemaKeeps.si,L09_SchemaKeeps.so,L09_SchemaKeeps.F⟩:=fn_stk cxL09_SchemaAhead (inl0_ok _ _) mixed L09_SchemaKeeps.fn L09_SchemaKeeps.h (by kernel_rfl) L09_SchemaKeeps.ev
noncomputable def spL09_SchemaKeeps:List (Nat×List (Nat×AK)×Lv.Spec):=(4,[],⟨3,L09_SchemaKeeps.si,L09_SchemaKeeps.so,L09_SchemaKeeps.F⟩)::spL09_SchemaAhead
noncomputable abbrev cL09_SchemaKeeps:Cx:=⟨tabAt tab0,eqAt eqs0,specAt spL09_SchemaKeeps,159,specPAt sqddl_parser_view⟩
theorem cxL09_SchemaKeeps:CxOk PP cL09_SchemaKeeps:=cxL09_SchemaAhead.consS [] L09_SchemaKeeps.fn.enters L09_SchemaKeeps.ok
def L09_SchemaTwice.si:Sh:=⟨[(0,.v false [.sl 38 tDef]),(1,.v false [.int .i64]),(2,.v false [.str])],[],[],0,[]⟩
def L09_SchemaTwice.so:Sh:=⟨[(0,.v false [.bool])],[],[],1000,[]⟩
def L09_SchemaTwice.h:H:=(.s none .n (.s none (.s (some ⟨[(35,.v false [.bool])],[],[0,1,2],0,[]⟩) .n .n) .n))
noncomputable def L09_SchemaTwice.B:(List tDefT)×Int×ByteArray×Unit→Option (Bool×Unit):=fun (p0,p1,p2,_)=>
  Option.bind (
  Option.bind (L09_fixed.F (())) fun y1=>
  (bif (!y1.1) then
  some (.inl (true,()))
  else
  Option.bind (R09_Big.F (p0,())) fun y2=>
  (bif y2.1 then
  some (.inl (true,()))
  else
  Option.bind (schema_May.F (p0,())) fun y3=>
  (bif (!y3.1) then
  some (.inl (true,()))
  else
  (bif (decide (p1<(0:Int))) then
  some (.inl (true,()))
  else
  some (.inl ((decide (p1≥(p0.length:Int))),())))))):Option ((Bool×Unit)⊕_)) fun r4=>match r4 with
  | .inl (x35_4,_)=>
  ((bif x35_4 then
  Option.bind (L09_fixed.F (())) fun y5=>
  some (y5.1,())
  else
  bif (decide (0≤p1)&&decide (p1<(p0.length:Int))) then
  let e6:tDefT:=(List.getD p0 (Int.toNat p1) tDef.z)
  Option.bind (schema_Add.F (p0,e6.1,e6.2.1.1,e6.2.1.2.1,e6.2.1.2.2,e6.2.2.1,e6.2.2.2.1,e6.2.2.2.2.1,e6.2.2.2.2.2.1.1,e6.2.2.2.2.2.1.2,e6.2.2.2.2.2.2.1,e6.2.2.2.2.2.2.2.1,e6.2.2.2.2.2.2.2.2.1,e6.2.2.2.2.2.2.2.2.2,())) fun y7=>
  bif (decide (0≤p1)&&decide (p1<(p0.length:Int))) then
  let e8:tDefT:=(List.getD p0 (Int.toNat p1) tDef.z)
  Option.bind (R09_Name.F (e8.1,e8.2.1.1,e8.2.1.2.1,e8.2.1.2.2,e8.2.2.1,e8.2.2.2.1,e8.2.2.2.2.1,e8.2.2.2.2.2.1.1,e8.2.2.2.2.2.1.2,e8.2.2.2.2.2.2.1,e8.2.2.2.2.2.2.2.1,e8.2.2.2.2.2.2.2.2.1,e8.2.2.2.2.2.2.2.2.2,())) fun y9=>
  Option.bind (L09_table.F (y9.1,(⟨#[]⟩:ByteArray),())) fun y10=>
  Option.bind (schema_Add.F (p0,y10.1,y10.2.1,y10.2.2.2.2.2.2.2.2.2.2.2.2.1,y10.2.2.1,y10.2.2.2.1,y10.2.2.2.2.1,y10.2.2.2.2.2.1,y10.2.2.2.2.2.2.1,y10.2.2.2.2.2.2.2.1,y10.2.2.2.2.2.2.2.2.1,y10.2.2.2.2.2.2.2.2.2.1,y10.2.2.2.2.2.2.2.2.2.2.1,y10.2.2.2.2.2.2.2.2.2.2.2.1,())) fun y11=>
  Option.bind (schema_Kinds.F (p0,p2,())) fun y12=>
  (bif (decide ((p0.length:Int)≥(20:Int))) then
  (bif (y7.1==(95:Int)) then
  some ((y11.1==(95:Int)),())
  else
  some (false,()))
  else
  (bif (y7.1==(90:Int)) then
  (bif (y11.1==(90:Int)) then
  Option.bind (schema_Find.F (p0,p2,())) fun y13=>
  (bif (y12.1==(decide (y13.1≥(0:Int)))) then
  (bif y12.1 then
  some (true,())
  else
  let e14:Int:=(IntKind.i64.wrap ((y12.2.1.length:Int)+(y12.2.2.1.length:Int)))
  some ((e14==(0:Int)),()))
  else
  some (false,()))
  else
  some (false,()))
  else
  some (false,())))
  else none
  else none))
  | .inr r=>some r
noncomputable def L09_SchemaTwice.F:(List tDefT)×Int×ByteArray×Unit→Option (Bool×Unit):=stk L09_SchemaTwice.B
theorem L09_SchemaTwice.ev (x:TS L09_SchemaTwice.si):evF cL09_SchemaKeeps inl0 (Tryz.f5.body.getD .skip) Tryz.f5.results.toList L09_SchemaTwice.h L09_SchemaTwice.si L09_SchemaTwice.so x=L09_SchemaTwice.B x:=by kernel_rfl
theorem L09_SchemaTwice.fn:FnOk PP 5 (Tryz.f5.body.getD .skip) Tryz.f5.results.toList Tryz.f5.ntmps:=fnOk_mk (by kernel_rfl) (by kernel_rfl) (by kernel_rfl) (by kernel_rfl)
theorem L09_SchemaTwice.ok:SpecOk PP 5 ⟨3,L09_SchemaTwice.si,L09_SchemaTwice.so,L09_SchemaTwice.F⟩:=fn_stk cxL09_SchemaKeeps (inl0_ok _ _) mixed L09_SchemaTwice.fn L09_SchemaTwice.h (by kernel_rfl) L09_SchemaTwice.ev
noncomputable def spL09_SchemaTwice:List (Nat×List (Nat×AK)×Lv.Spec):=(5,[],⟨3,L09_SchemaTwice.si,L09_SchemaTwice.so,L09_SchemaTwice.F⟩)::spL09_SchemaKeeps
noncomputable abbrev cL09_SchemaTwice:Cx:=⟨tabAt tab0,eqAt eqs0,specAt spL09_SchemaTwice,159,specPAt sqddl_parser_view⟩
theorem cxL09_SchemaTwice:CxOk PP cL09_SchemaTwice:=cxL09_SchemaKeeps.consS [] L09_SchemaTwice.fn.enters L09_SchemaTwice.ok
def L09_SchemaViews.si:Sh:=⟨[(0,.v false [.sl 38 tDef]),(1,.v false [.int .i64])],[],[],0,[]⟩
def L09_SchemaViews.so:Sh:=⟨[(0,.v false [.bool])],[],[],1000,[]⟩
def L09_SchemaViews.h:H:=(.s none .n (.s none (.s (some ⟨[(29,.v false [.bool])],[],[0,1],0,[]⟩) .n .n) (.s none .n (.s none .n (.s (some ⟨[],[],[5,6,7],0,[]⟩) .n .n)))))
noncomputable def L09_SchemaViews.B:(List tDefT)×Int×Unit→Option (Bool×Unit):=fun (p0,p1,_)=>
  Option.bind (
  Option.bind (L09_fixed.F (())) fun y1=>
  (bif (!y1.1) then
  some (.inl (true,()))
  else
  Option.bind (R09_Big.F (p0,())) fun y2=>
  (bif y2.1 then
  some (.inl (true,()))
  else
  Option.bind (schema_May.F (p0,())) fun y3=>
  (bif (!y3.1) then
  some (.inl (true,()))
  else
  (bif (decide (p1<(0:Int))) then
  some (.inl (true,()))
  else
  some (.inl ((decide (p1≥(p0.length:Int))),())))))):Option ((Bool×Unit)⊕_)) fun r4=>match r4 with
  | .inl (x29_4,_)=>
  ((bif x29_4 then
  Option.bind (L09_fixed.F (())) fun y5=>
  some (y5.1,())
  else
  bif (decide (0≤p1)&&decide (p1<(p0.length:Int))) then
  let e6:tDefT:=(List.getD p0 (Int.toNat p1) tDef.z)
  Option.bind (R09_Name.F (e6.1,e6.2.1.1,e6.2.1.2.1,e6.2.1.2.2,e6.2.2.1,e6.2.2.2.1,e6.2.2.2.2.1,e6.2.2.2.2.2.1.1,e6.2.2.2.2.2.1.2,e6.2.2.2.2.2.2.1,e6.2.2.2.2.2.2.2.1,e6.2.2.2.2.2.2.2.2.1,e6.2.2.2.2.2.2.2.2.2,())) fun y7=>
  Option.bind (schema_Kinds.F (p0,y7.1,())) fun y8=>
  Option.bind (
  (bif (!y8.1) then
  some (.inr (false,()))
  else
  (bif ((y8.2.1.length:Int) !=(y8.2.2.1.length:Int)) then
  some (.inr (false,()))
  else
  some (.inl (())))):Option ((Unit)⊕_)) fun r9=>match r9 with
  | .inl (_)=>
  ((bif (e6.1==(0:Int)) then
  (bif ((y8.2.1.length:Int)==(e6.2.1.2.1.length:Int)) then
  bif (decide (0≤(0:Int))&&decide ((0:Int)<(y8.2.2.1.length:Int))) then
  let e10:Bool:=(List.getD y8.2.2.1 0 false)
  (bif (!e10) then
  bif (decide (0≤(0:Int))&&decide ((0:Int)<(y8.2.1.length:Int))) then
  let e11:Int:=(List.getD y8.2.1 0 (0:Int))
  (bif (e11==(2:Int)) then
  some (true,())
  else
  bif (decide (0≤(0:Int))&&decide ((0:Int)<(y8.2.1.length:Int))) then
  let e12:Int:=(List.getD y8.2.1 0 (0:Int))
  some ((e12==(3:Int)),())
  else none)
  else none
  else
  some (false,()))
  else none
  else
  some (false,()))
  else
  let e13:Int:=(IntKind.i64.wrap ((e6.2.2.2.2.2.2.2.1.length:Int)+(e6.2.2.2.2.2.2.2.2.2.length:Int)))
  some (((y8.2.1.length:Int)==e13),())))
  | .inr r=>some r
  else none))
  | .inr r=>some r
noncomputable def L09_SchemaViews.F:(List tDefT)×Int×Unit→Option (Bool×Unit):=stk L09_SchemaViews.B
theorem L09_SchemaViews.ev (x:TS L09_SchemaViews.si):evF cL09_SchemaTwice inl0 (Tryz.f6.body.getD .skip) Tryz.f6.results.toList L09_SchemaViews.h L09_SchemaViews.si L09_SchemaViews.so x=L09_SchemaViews.B x:=by kernel_rfl
theorem L09_SchemaViews.fn:FnOk PP 6 (Tryz.f6.body.getD .skip) Tryz.f6.results.toList Tryz.f6.ntmps:=fnOk_mk (by kernel_rfl) (by kernel_rfl) (by kernel_rfl) (by kernel_rfl)
theorem L09_SchemaViews.ok:SpecOk PP 6 ⟨2,L09_SchemaViews.si,L09_SchemaViews.so,L09_SchemaViews.F⟩:=fn_stk cxL09_SchemaTwice (inl0_ok _ _) mixed L09_SchemaViews.fn L09_SchemaViews.h (by kernel_rfl) L09_SchemaViews.ev
noncomputable def spL09_SchemaViews:List (Nat×List (Nat×AK)×Lv.Spec):=(6,[],⟨2,L09_SchemaViews.si,L09_SchemaViews.so,L09_SchemaViews.F⟩)::spL09_SchemaTwice
noncomputable abbrev cL09_SchemaViews:Cx:=⟨tabAt tab0,eqAt eqs0,specAt spL09_SchemaViews,159,specPAt sqddl_parser_view⟩
theorem cxL09_SchemaViews:CxOk PP cL09_SchemaViews:=cxL09_SchemaTwice.consS [] L09_SchemaViews.fn.enters L09_SchemaViews.ok
def L09_SchemaMany.si:Sh:=⟨[(0,.v false [.int .i64])],[],[],0,[]⟩
def L09_SchemaMany.so:Sh:=⟨[(0,.v false [.bool])],[],[],1000,[]⟩
def L09_SchemaMany.h:H:=(.s none .n (.s (some ⟨[],[],[0],0,[]⟩) .n (.s none .n (.s (some ⟨[(3,.v false [.ref 0])],[(0,false,.arr 38 tDef)],[],1,[]⟩) (.s none .n (.b (.l ⟨[(3,.v false [.ref 0]),(4,.v false [.int .i64])],[(0,false,.arr 38 tDef)],[0],1,[]⟩ .n))) .n))))
noncomputable def L09_SchemaMany.B:Int×Unit→Option (Bool×Unit):=fun (p0,_)=>
  Option.bind (
  Option.bind (L09_fixed.F (())) fun y1=>
  (bif (!y1.1) then
  Option.bind (L09_fixed.F (())) fun y2=>
  some (.inr (y2.1,()))
  else
  (bif (decide (p0<(0:Int))) then
  Option.bind (L09_fixed.F (())) fun y3=>
  some (.inr (y3.1,()))
  else
  (bif (decide (p0>(24:Int))) then
  Option.bind (L09_fixed.F (())) fun y4=>
  some (.inr (y4.1,()))
  else
  some (.inl (()))))):Option ((Unit)⊕_)) fun r5=>match r5 with
  | .inl (_)=>
  (Option.bind (
  loopM (S:=Int×(List tDefT)×Unit) (fun (x4,o3_0,_)=>
  (bif (decide (x4<p0)) then
  let e6:Int:=(IntKind.i64.wrap (x4+(1:Int)))
  bif (decide (0≤x4)&&(decide (x4≤e6)&&decide (e6≤((⟨#[97,98,99,100,101,102,103,104,105,106,107,108,109,110,111,112,113,114,115,116,117,118,119,120,121,122]⟩:ByteArray).size:Int)))) then
  let e7:ByteArray:=((⟨#[97,98,99,100,101,102,103,104,105,106,107,108,109,110,111,112,113,114,115,116,117,118,119,120,121,122]⟩:ByteArray).extract (Int.toNat x4) (Int.toNat e6))
  bif (!decide ((((⟨#[116]⟩:ByteArray).size+e7.size:Nat):Int)>IntKind.i64.max)) then
  let e8:ByteArray:=((⟨#[116]⟩:ByteArray)++e7)
  Option.bind (L09_table.F (e8,(⟨#[]⟩:ByteArray),())) fun y9=>
  Option.bind (schema_Add.F (o3_0,y9.1,y9.2.1,y9.2.2.2.2.2.2.2.2.2.2.2.2.1,y9.2.2.1,y9.2.2.2.1,y9.2.2.2.2.1,y9.2.2.2.2.2.1,y9.2.2.2.2.2.2.1,y9.2.2.2.2.2.2.2.1,y9.2.2.2.2.2.2.2.2.1,y9.2.2.2.2.2.2.2.2.2.1,y9.2.2.2.2.2.2.2.2.2.2.1,y9.2.2.2.2.2.2.2.2.2.2.2.1,())) fun y10=>
  (bif (decide (x4≥(20:Int))) then
  (bif (y10.1==(95:Int)) then
  some (.inr (.inr (((y10.2.1.length:Int)==(0:Int)),())))
  else
  some (.inr (.inr (false,()))))
  else
  (bif (y10.1 !=(0:Int)) then
  some (.inr (.inr (false,())))
  else
  let e11:Int:=(IntKind.i64.wrap (x4+(1:Int)))
  (bif ((y10.2.1.length:Int) !=e11) then
  some (.inr (.inr (false,())))
  else
  let e12:Int:=(IntKind.i64.wrap (x4+(1:Int)))
  some (.inl (e12,y10.2.1,())))))
  else none
  else none
  else
  some (.inr (.inl (o3_0,()))))) ((0:Int),([]:List tDefT),()):Option (((List tDefT)×Unit)⊕_)) fun r13=>match r13 with
  | .inl (o3_0_13,_)=>
  (Option.bind (schema_May.F (o3_0_13,())) fun y14=>
  some (y14.1,()))
  | .inr r=>some r)
  | .inr r=>some r
noncomputable def L09_SchemaMany.F:Int×Unit→Option (Bool×Unit):=stk L09_SchemaMany.B
theorem L09_SchemaMany.eq:L09_SchemaMany.F=L09_SchemaMany.B:=stk_eq _
theorem L09_SchemaMany.ev (x:TS L09_SchemaMany.si):evF cL09_SchemaViews inl0 (Tryz.f7.body.getD .skip) Tryz.f7.results.toList L09_SchemaMany.h L09_SchemaMany.si L09_SchemaMany.so x=L09_SchemaMany.B x:=by kernel_rfl
theorem L09_SchemaMany.fn:FnOk PP 7 (Tryz.f7.body.getD .skip) Tryz.f7.results.toList Tryz.f7.ntmps:=fnOk_mk (by kernel_rfl) (by kernel_rfl) (by kernel_rfl) (by kernel_rfl)
theorem L09_SchemaMany.ok:SpecOk PP 7 ⟨1,L09_SchemaMany.si,L09_SchemaMany.so,L09_SchemaMany.F⟩:=fn_stk cxL09_SchemaViews (inl0_ok _ _) mixed L09_SchemaMany.fn L09_SchemaMany.h (by kernel_rfl) L09_SchemaMany.ev
end Go.Proofs.Ytleadolkcmagfaa
