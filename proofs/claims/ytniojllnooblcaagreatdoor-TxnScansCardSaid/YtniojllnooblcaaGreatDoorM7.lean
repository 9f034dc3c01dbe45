import Derived.Test.YtniojllnooblcaaGreatDoorM6
set_option linter.all false
set_option linter.unusedVariables false
set_option linter.unusedSimpArgs false
set_option linter.unusedSectionVars false
section
set_option maxRecDepth 100000
namespace Go.Proofs.Ytniojllnooblcaa
open Go Lv Go.Proofs Go.RowKit Go.Shelf
/-! slices.SortFunc[[]levee/api.Value,levee/api.Value] -/
def slices_SortFunc_sl_api_Value_api_Value.si:Sh:=⟨[(0,.v false [.ref 0]),(1,.v false [.fn 27])],[(0,true,.arr 27 tValue)],[],1,[]⟩
def slices_SortFunc_sl_api_Value_api_Value.so:Sh:=⟨[(0,.tup [])],[(0,true,.arr 27 tValue)],[],1001,[]⟩
noncomputable def slices_SortFunc_sl_api_Value_api_Value.B:TS slices_SortFunc_sl_api_Value_api_Value.si→Option (TS slices_SortFunc_sl_api_Value_api_Value.so):=sortF
noncomputable def slices_SortFunc_sl_api_Value_api_Value.F:TS slices_SortFunc_sl_api_Value_api_Value.si→Option (TS slices_SortFunc_sl_api_Value_api_Value.so):=stk slices_SortFunc_sl_api_Value_api_Value.B
theorem slices_SortFunc_sl_api_Value_api_Value.eq:slices_SortFunc_sl_api_Value_api_Value.F=slices_SortFunc_sl_api_Value_api_Value.B:=stk_eq _
theorem slices_SortFunc_sl_api_Value_api_Value.ok:SpecOk PP 28 ⟨2,slices_SortFunc_sl_api_Value_api_Value.si,slices_SortFunc_sl_api_Value_api_Value.so,slices_SortFunc_sl_api_Value_api_Value.F⟩:=by
  rw [slices_SortFunc_sl_api_Value_api_Value.eq]
  exact sort_ok
theorem slices_SortFunc_sl_api_Value_api_Value.en:Lv.Enters PP 28:=⟨_,Tryz.func28,by kernel_rfl,by decide⟩
noncomputable def spslices_SortFunc_sl_api_Value_api_Value:List (Nat×List (Nat×AK)×Lv.Spec):=(28,[],⟨2,slices_SortFunc_sl_api_Value_api_Value.si,slices_SortFunc_sl_api_Value_api_Value.so,slices_SortFunc_sl_api_Value_api_Value.F⟩)::spreads_Between
noncomputable abbrev cslices_SortFunc_sl_api_Value_api_Value:Cx:=⟨tabAt tab0,eqAt eqs0,specAt spslices_SortFunc_sl_api_Value_api_Value,0,specPAt sq0⟩
theorem cxslices_SortFunc_sl_api_Value_api_Value:CxOk PP cslices_SortFunc_sl_api_Value_api_Value:=cxreads_Between.consS [] slices_SortFunc_sl_api_Value_api_Value.en slices_SortFunc_sl_api_Value_api_Value.ok
/-! slices.Compact[[]levee/api.Value,levee/api.Value] -/
def slices_Compact_sl_api_Value_api_Value.si:Sh:=⟨[(0,.v false [.ref 0])],[(0,true,.arr 27 tValue)],[],1,[]⟩
def slices_Compact_sl_api_Value_api_Value.so:Sh:=⟨[(0,.v false [.sl 27 tValue])],[],[],1000,[]⟩
def slices_Compact_sl_api_Value_api_Value.h:H:=(.s none .n (.s none .n (.s none (.s none .n (.b (.l ⟨[(3,.v false [.int .i64])],[],[0],0,[]⟩ (.s none .n (.s (some ⟨[(3,.v false [.int .i64])],[],[0],0,[]⟩) (.b (.s none .n (.c (.s none .n (.s (some ⟨[(0,.v false [.ref 0]),(3,.v false [.int .i64])],[(0,true,.arr 27 tValue)],[],1,[]⟩) (.s none .n (.b (.l ⟨[(0,.v false [.ref 0]),(3,.v false [.int .i64]),(5,.v false [.int .i64])],[(0,true,.arr 27 tValue)],[4],1,[]⟩ .n))) .n)) .n))) .n))))) .n)))
noncomputable def slices_Compact_sl_api_Value_api_Value.B:(List tValueT)×Unit→Option ((List tValueT)×Unit):=fun (o0_0,_)=>
  (bif (decide ((o0_0.length:Int)<(2:Int))) then
  some (o0_0,())
  else
  loopM (S:=Int×Unit) (fun (x3,_)=>
  (bif (decide (x3<(o0_0.length:Int))) then
  Option.bind (
  bif (decide (0≤x3)&&decide (x3<(o0_0.length:Int))) then
  let e1:tValueT:=(List.getD o0_0 (Int.toNat x3) tValue.z)
  let e2:Int:=(IntKind.i64.wrap (x3-(1:Int)))
  bif (decide (0≤e2)&&decide (e2<(o0_0.length:Int))) then
  let e3:tValueT:=(List.getD o0_0 (Int.toNat e2) tValue.z)
  (bif (Ty.eq tValue e1 e3) then
  bif (decide (0≤x3)&&(decide (x3≤(o0_0.length:Int))&&decide ((o0_0.length:Int)≤(o0_0.length:Int)))) then
  Option.bind (
  loopM (S:=Int×Int×(List tValueT)×Unit) (fun (x3',x5',o0_0',_)=>
  (bif (decide (x5'<((Int.toNat (o0_0.length:Int)-Int.toNat x3:Nat):Int))) then
  bif (decide (0≤x5')&&decide (x5'<((Int.toNat (o0_0.length:Int)-Int.toNat x3:Nat):Int))) then
  let e4:tValueT:=(List.getD o0_0' ((Int.toNat x3)+(Int.toNat x5'):Nat) tValue.z)
  let e5:Int:=(IntKind.i64.wrap (x5'-(1:Int)))
  bif (decide (0≤e5)&&decide (e5<((Int.toNat (o0_0.length:Int)-Int.toNat x3:Nat):Int))) then
  let e6:tValueT:=(List.getD o0_0' ((Int.toNat x3)+(Int.toNat e5):Nat) tValue.z)
  (bif (!(Ty.eq tValue e4 e6)) then
  bif (decide (0≤x5')&&decide (x5'<((Int.toNat (o0_0.length:Int)-Int.toNat x3:Nat):Int))) then
  let e7:tValueT:=(List.getD o0_0' ((Int.toNat x3)+(Int.toNat x5'):Nat) tValue.z)
  bif (decide (0≤x3')&&decide (x3'<(o0_0'.length:Int))) then
  let e8:Int:=(IntKind.i64.wrap (x3'+(1:Int)))
  let e9:Int:=(IntKind.i64.wrap (x5'+(1:Int)))
  some (.inl (e8,e9,(List.set o0_0' (Int.toNat x3') e7),()))
  else none
  else none
  else
  let e10:Int:=(IntKind.i64.wrap (x5'+(1:Int)))
  some (.inl (x3',e10,o0_0',())))
  else none
  else none
  else
  some (.inr (.inl (x3',o0_0',()))))) (x3,(1:Int),o0_0,()):Option ((Int×(List tValueT)×Unit)⊕_)) fun r11=>match r11 with
  | .inl (x3_11,o0_0_11,_)=>
  (bif (decide (0≤x3_11)&&(decide (x3_11≤(o0_0_11.length:Int))&&decide ((o0_0_11.length:Int)≤(o0_0_11.length:Int)))) then
  bif (decide (0≤(0:Int))&&(decide ((0:Int)≤x3_11)&&decide (x3_11≤((List.take (Int.toNat x3_11) o0_0_11++List.replicate (Int.toNat (o0_0_11.length:Int)-Int.toNat x3_11:Nat) ((0:Int),((0:Int),(⟨#[]⟩:ByteArray)))++List.drop ((Int.toNat x3_11)+(Int.toNat (o0_0_11.length:Int)-Int.toNat x3_11:Nat)) o0_0_11).length:Int)))) then
  some (.inr (.inr ((List.take (Int.toNat x3_11-Int.toNat (0:Int):Nat) (List.drop (Int.toNat (0:Int)) (List.take (Int.toNat x3_11) o0_0_11++List.replicate (Int.toNat (o0_0_11.length:Int)-Int.toNat x3_11:Nat) ((0:Int),((0:Int),(⟨#[]⟩:ByteArray)))++List.drop ((Int.toNat x3_11)+(Int.toNat (o0_0_11.length:Int)-Int.toNat x3_11:Nat)) o0_0_11))),())))
  else none
  else none)
  | .inr r=>some r
  else none
  else
  some (.inl (x3,())))
  else none
  else none:Option ((Int×Unit)⊕_)) fun r12=>match r12 with
  | .inl (x3_12,_)=>
  (let e13:Int:=(IntKind.i64.wrap (x3_12+(1:Int)))
  some (.inl (e13,())))
  | .inr r=>some r
  else
  some (.inr (o0_0,())))) ((1:Int),()))
noncomputable def slices_Compact_sl_api_Value_api_Value.F:(List tValueT)×Unit→Option ((List tValueT)×Unit):=stk slices_Compact_sl_api_Value_api_Value.B
theorem slices_Compact_sl_api_Value_api_Value.eq:slices_Compact_sl_api_Value_api_Value.F=slices_Compact_sl_api_Value_api_Value.B:=stk_eq _
theorem slices_Compact_sl_api_Value_api_Value.ev (x:TS slices_Compact_sl_api_Value_api_Value.si):evF cslices_SortFunc_sl_api_Value_api_Value inl0 (Tryz.f29.body.getD .skip) Tryz.f29.results.toList slices_Compact_sl_api_Value_api_Value.h slices_Compact_sl_api_Value_api_Value.si slices_Compact_sl_api_Value_api_Value.so x=slices_Compact_sl_api_Value_api_Value.B x:=by kernel_rfl
theorem slices_Compact_sl_api_Value_api_Value.fn:FnOk PP 29 (Tryz.f29.body.getD .skip) Tryz.f29.results.toList Tryz.f29.ntmps:=fnOk_mk (by kernel_rfl) (by kernel_rfl) (by kernel_rfl) (by kernel_rfl)
theorem slices_Compact_sl_api_Value_api_Value.ok:SpecOk PP 29 ⟨1,slices_Compact_sl_api_Value_api_Value.si,slices_Compact_sl_api_Value_api_Value.so,slices_Compact_sl_api_Value_api_Value.F⟩:=fn_stk cxslices_SortFunc_sl_api_Value_api_Value (inl0_ok _ _) mixed slices_Compact_sl_api_Value_api_Value.fn slices_Compact_sl_api_Value_api_Value.h (by kernel_rfl) slices_Compact_sl_api_Value_api_Value.ev
noncomputable def spslices_Compact_sl_api_Value_api_Value:List (Nat×List (Nat×AK)×Lv.Spec):=(29,[(0,.own)],⟨1,slices_Compact_sl_api_Value_api_Value.si,slices_Compact_sl_api_Value_api_Value.so,slices_Compact_sl_api_Value_api_Value.F⟩)::spslices_SortFunc_sl_api_Value_api_Value
noncomputable abbrev cslices_Compact_sl_api_Value_api_Value:Cx:=⟨tabAt tab0,eqAt eqs0,specAt spslices_Compact_sl_api_Value_api_Value,0,specPAt sq0⟩
theorem cxslices_Compact_sl_api_Value_api_Value:CxOk PP cslices_Compact_sl_api_Value_api_Value:=cxslices_SortFunc_sl_api_Value_api_Value.consS [(0,.own)] slices_Compact_sl_api_Value_api_Value.fn.enters slices_Compact_sl_api_Value_api_Value.ok
/-! levee/txn.Row -/
def txn_Row.si:Sh:=⟨[(0,.v false [.sl 74 tRel]),(1,.v false [.sl 68 tWrite]),(2,.v false [.str]),(3,.v true [.int .i64,.int .i64,.str])],[],[],0,[]⟩
def txn_Row.so:Sh:=⟨[(0,.tup [(false,[.ref 1000]),(false,[.bool])])],[(1000,false,.arr 27 tValue)],[],1001,[]⟩
noncomputable def txn_Row.B:TS txn_Row.si→Option (TS txn_Row.so):=txnRowF
noncomputable def txn_Row.F:TS txn_Row.si→Option (TS txn_Row.so):=stk txn_Row.B
theorem txn_Row.eq:txn_Row.F=txn_Row.B:=stk_eq _
theorem txn_Row.ok:SpecOk PP 9 ⟨4,txn_Row.si,txn_Row.so,txn_Row.F⟩:=by
  rw [txn_Row.eq]
  exact row_ok
theorem txn_Row.en:Lv.Enters PP 9:=⟨_,Tryz.func9,by kernel_rfl,by decide⟩
noncomputable def sptxn_Row:List (Nat×List (Nat×AK)×Lv.Spec):=(9,[],⟨4,txn_Row.si,txn_Row.so,txn_Row.F⟩)::spslices_Compact_sl_api_Value_api_Value
noncomputable abbrev ctxn_Row:Cx:=⟨tabAt tab0,eqAt eqs0,specAt sptxn_Row,0,specPAt sq0⟩
theorem cxtxn_Row:CxOk PP ctxn_Row:=cxslices_Compact_sl_api_Value_api_Value.consS [] txn_Row.en txn_Row.ok
/-! levee/txn.Row -/
def txn_Row_o.si:Sh:=⟨[(0,.v false [.sl 74 tRel]),(1,.v false [.ref 0]),(2,.v false [.str]),(3,.v true [.int .i64,.int .i64,.str])],[(0,true,.arr 68 tWrite)],[],1,[]⟩
def txn_Row_o.so:Sh:=⟨[(0,.tup [(false,[.ref 1000]),(false,[.bool])])],[(0,true,.arr 68 tWrite),(1000,false,.arr 27 tValue)],[],1001,[]⟩
noncomputable def txn_Row_o.B:TS txn_Row_o.si→Option (TS txn_Row_o.so):=txnRowO
noncomputable def txn_Row_o.F:TS txn_Row_o.si→Option (TS txn_Row_o.so):=stk txn_Row_o.B
theorem txn_Row_o.eq:txn_Row_o.F=txn_Row_o.B:=stk_eq _
theorem txn_Row_o.ok:SpecOk PP 9 ⟨4,txn_Row_o.si,txn_Row_o.so,txn_Row_o.F⟩:=by
  rw [txn_Row_o.eq]
  exact row_ok_o
theorem txn_Row_o.en:Lv.Enters PP 9:=⟨_,Tryz.func9,by kernel_rfl,by decide⟩
noncomputable def sptxn_Row_o:List (Nat×List (Nat×AK)×Lv.Spec):=(9,[(1,.own)],⟨4,txn_Row_o.si,txn_Row_o.so,txn_Row_o.F⟩)::sptxn_Row
noncomputable abbrev ctxn_Row_o:Cx:=⟨tabAt tab0,eqAt eqs0,specAt sptxn_Row_o,0,specPAt sq0⟩
theorem cxtxn_Row_o:CxOk PP ctxn_Row_o:=cxtxn_Row.consS [(1,.own)] txn_Row_o.en txn_Row_o.ok
/-! levee/txn.Rows -/
def txn_Rows.si:Sh:=⟨[(0,.v false [.sl 74 tRel]),(1,.v false [.sl 68 tWrite]),(2,.v false [.str]),(3,.v true [.int .i64,.int .i64,.str]),(4,.v true [.int .i64,.int .i64,.str])],[],[],0,[]⟩
def txn_Rows.so:Sh:=⟨[(0,.v false [.ref 1000])],[(1000,false,.arr 46 (.sl 27 tValue))],[],1001,[]⟩
def txn_Rows.h:H:=(.s none .n (.s none .n (.s (some ⟨[(11,.v false [.ref 0])],[(0,false,.arr 27 tValue)],[0,1,2,8,9],1,[]⟩) (.s none .n (.b (.l ⟨[(11,.v false [.ref 0]),(28,.v false [.int .i64])],[(0,false,.arr 27 tValue)],[0,1,2,8,9,26,27],1,[]⟩ .n))) (.s (some ⟨[(11,.v false [.ref 0])],[(0,false,.arr 27 tValue)],[0,1,2],1,[]⟩) (.s none .n (.b (.l ⟨[(11,.v false [.ref 0]),(42,.v false [.int .i64])],[(0,false,.arr 27 tValue)],[0,1,2,8,9,40,41],1,[]⟩ (.s none .n (.s none .n (.s none (.b (.s none .n (.s (some ⟨[(73,.v false [.bool])],[],[0,1,2,8,9,11,15,40,41,42],0,[]⟩) .n .n))) .n)))))) (.s none .n (.s none .n (.s none (.s none .n (.b (.l ⟨[(16,.v false [.ref 0]),(87,.v false [.int .i64])],[(0,false,.arr 46 (.sl 27 tValue))],[0,1,2,85,86],1,[]⟩ .n))) .n)))))))
noncomputable def txn_Rows.B:(List tRelT)×(List tWriteT)×ByteArray×Int×Int×ByteArray×Int×Int×ByteArray×Unit→Option ((List (List tValueT))×Unit):=fun (p0,p1,p2,p3_0,p3_1,p3_2,p4_0,p4_1,p4_2,_)=>
  Option.bind (
  Option.bind (reads_Look.F (p0,p2,())) fun y1=>
  Option.bind (rel_Scan.F (y1.1,y1.2.1,p3_0,p3_1,p3_2,p4_0,p4_1,p4_2,())) fun y2=>
  loopM (S:=Int×(List tValueT)×Unit) (fun (x28,o11_0,_)=>
  (bif (decide (x28<(y2.1.length:Int))) then
  bif (decide (0≤x28)&&decide (x28<(y2.1.length:Int))) then
  let e3:tRecT:=(List.getD y2.1 (Int.toNat x28) tRec.z)
  bif (decide (0≤(0:Int))&&decide ((0:Int)<(e3.1.length:Int))) then
  let e4:tValueT:=(List.getD e3.1 0 tValue.z)
  bif (Nat.ble (o11_0.length+ [e4].length) 4398046511104) then
  let e5:Int:=(IntKind.i64.wrap (x28+(1:Int)))
  some (.inl (e5,(o11_0++ [e4]),()))
  else none
  else none
  else none
  else
  some (.inr (.inl (o11_0,()))))) ((0:Int),[],()):Option (((List tValueT)×Unit)⊕_)) fun r6=>match r6 with
  | .inl (o11_0_6,_)=>
  (Option.bind (
  loopM (S:=Int×(List tValueT)×Unit) (fun (x42,o11_0,_)=>
  (bif (decide (x42<(p1.length:Int))) then
  bif (decide (0≤x42)&&decide (x42<(p1.length:Int))) then
  let e7:tWriteT:=(List.getD p1 (Int.toNat x42) tWrite.z)
  Option.bind (
  (bif (decide ((e7.2.2.length:Int)>(0:Int))) then
  (bif (e7.1.toList==p2.toList) then
  bif (decide (0≤(0:Int))&&decide ((0:Int)<(e7.2.2.length:Int))) then
  let e8:tValueT:=(List.getD e7.2.2 0 tValue.z)
  Option.bind (value_Compare.F (e8.1,e8.2.1,e8.2.2,p3_0,p3_1,p3_2,())) fun y9=>
  (bif (decide (y9.1≥(0:Int))) then
  bif (decide (0≤(0:Int))&&decide ((0:Int)<(e7.2.2.length:Int))) then
  let e10:tValueT:=(List.getD e7.2.2 0 tValue.z)
  Option.bind (value_Compare.F (e10.1,e10.2.1,e10.2.2,p4_0,p4_1,p4_2,())) fun y11=>
  some (.inl ((decide (y11.1<(0:Int))),()))
  else none
  else
  some (.inl (false,())))
  else none
  else
  some (.inl (false,())))
  else
  some (.inl (false,()))):Option ((Bool×Unit)⊕_)) fun r12=>match r12 with
  | .inl (x73_12,_)=>
  ((bif x73_12 then
  bif (decide (0≤(0:Int))&&decide ((0:Int)<(e7.2.2.length:Int))) then
  let e13:tValueT:=(List.getD e7.2.2 0 tValue.z)
  bif (Nat.ble (o11_0.length+ [e13].length) 4398046511104) then
  let e14:Int:=(IntKind.i64.wrap (x42+(1:Int)))
  some (.inl (e14,(o11_0++ [e13]),()))
  else none
  else none
  else
  let e15:Int:=(IntKind.i64.wrap (x42+(1:Int)))
  some (.inl (e15,o11_0,()))))
  | .inr r=>some r
  else none
  else
  some (.inr (.inl (o11_0,()))))) ((0:Int),o11_0_6,()):Option (((List tValueT)×Unit)⊕_)) fun r16=>match r16 with
  | .inl (o11_0_16,_)=>
  (Option.bind (slices_SortFunc_sl_api_Value_api_Value.F (o11_0_16,())) fun y17=>
  Option.bind (slices_Compact_sl_api_Value_api_Value.F (y17.1,())) fun y18=>
  loopM (S:=Int×(List (List tValueT))×Unit) (fun (x87,o16_0,_)=>
  (bif (decide (x87<(y18.1.length:Int))) then
  bif (decide (0≤x87)&&decide (x87<(y18.1.length:Int))) then
  let e19:tValueT:=(List.getD y18.1 (Int.toNat x87) tValue.z)
  Option.bind (txn_Row.F (p0,p1,p2,e19.1,e19.2.1,e19.2.2,())) fun y20=>
  (bif y20.1 then
  bif (Nat.ble (o16_0.length+ [y20.2.1].length) 5864062014805) then
  let e21:Int:=(IntKind.i64.wrap (x87+(1:Int)))
  some (.inl (e21,(o16_0++ [y20.2.1]),()))
  else none
  else
  let e22:Int:=(IntKind.i64.wrap (x87+(1:Int)))
  some (.inl (e22,o16_0,())))
  else none
  else
  some (.inr (o16_0,())))) ((0:Int),[],()))
  | .inr r=>some r)
  | .inr r=>some r
noncomputable def txn_Rows.F:(List tRelT)×(List tWriteT)×ByteArray×Int×Int×ByteArray×Int×Int×ByteArray×Unit→Option ((List (List tValueT))×Unit):=stk txn_Rows.B
theorem txn_Rows.eq:txn_Rows.F=txn_Rows.B:=stk_eq _
theorem txn_Rows.ev (x:TS txn_Rows.si):evF ctxn_Row_o inl0 (Tryz.f8.body.getD .skip) Tryz.f8.results.toList txn_Rows.h txn_Rows.si txn_Rows.so x=txn_Rows.B x:=by kernel_rfl
theorem txn_Rows.fn:FnOk PP 8 (Tryz.f8.body.getD .skip) Tryz.f8.results.toList Tryz.f8.ntmps:=fnOk_mk (by kernel_rfl) (by kernel_rfl) (by kernel_rfl) (by kernel_rfl)
theorem txn_Rows.ok:SpecOk PP 8 ⟨5,txn_Rows.si,txn_Rows.so,txn_Rows.F⟩:=fn_stk cxtxn_Row_o (inl0_ok _ _) mixed txn_Rows.fn txn_Rows.h (by kernel_rfl) txn_Rows.ev
noncomputable def sptxn_Rows:List (Nat×List (Nat×AK)×Lv.Spec):=(8,[],⟨5,txn_Rows.si,txn_Rows.so,txn_Rows.F⟩)::sptxn_Row_o
noncomputable abbrev ctxn_Rows:Cx:=⟨tabAt tab0,eqAt eqs0,specAt sptxn_Rows,0,specPAt sq0⟩
theorem cxtxn_Rows:CxOk PP ctxn_Rows:=cxtxn_Row_o.consS [] txn_Rows.fn.enters txn_Rows.ok
/-! levee/txn.Rows -/
def txn_Rows_o.si:Sh:=⟨[(0,.v false [.sl 74 tRel]),(1,.v false [.ref 0]),(2,.v false [.str]),(3,.v true [.int .i64,.int .i64,.str]),(4,.v true [.int .i64,.int .i64,.str])],[(0,true,.arr 68 tWrite)],[],1,[]⟩
def txn_Rows_o.so:Sh:=⟨[(0,.v false [.ref 1001])],[(0,true,.arr 68 tWrite),(1001,false,.arr 46 (.sl 27 tValue))],[],1002,[(0,0)]⟩
def txn_Rows_o.h:H:=(.s none .n (.s none .n (.s (some ⟨[(11,.v false [.ref 0])],[(0,false,.arr 27 tValue)],[0,1,2,8,9],1,[]⟩) (.s none .n (.b (.l ⟨[(11,.v false [.ref 0]),(28,.v false [.int .i64])],[(0,false,.arr 27 tValue)],[0,1,2,8,9,26,27],1,[]⟩ .n))) (.s (some ⟨[(11,.v false [.ref 0])],[(0,false,.arr 27 tValue)],[0,1,2],1,[]⟩) (.s none .n (.b (.l ⟨[(11,.v false [.ref 0]),(42,.v false [.int .i64])],[(0,false,.arr 27 tValue)],[0,1,2,8,9,40,41],1,[]⟩ (.s none .n (.s none .n (.s none (.b (.s none .n (.s (some ⟨[(73,.v false [.bool])],[],[0,1,2,8,9,11,15,40,41,42],0,[]⟩) .n .n))) .n)))))) (.s none .n (.s none .n (.s none (.s none .n (.b (.l ⟨[(1,.v false [.ref 1]),(16,.v false [.ref 0]),(87,.v false [.int .i64])],[(0,false,.arr 46 (.sl 27 tValue)),(1,true,.arr 68 tWrite)],[0,2,85,86],2,[]⟩ .n))) .n)))))))
noncomputable def txn_Rows_o.B:(List tRelT)×ByteArray×Int×Int×ByteArray×Int×Int×ByteArray×(List tWriteT)×Unit→Option ((List tWriteT)×(List (List tValueT))×Unit):=fun (p0,p2,p3_0,p3_1,p3_2,p4_0,p4_1,p4_2,o1_0,_)=>
  Option.bind (
  Option.bind (reads_Look.F (p0,p2,())) fun y1=>
  Option.bind (rel_Scan.F (y1.1,y1.2.1,p3_0,p3_1,p3_2,p4_0,p4_1,p4_2,())) fun y2=>
  loopM (S:=Int×(List tValueT)×Unit) (fun (x28,o11_0,_)=>
  (bif (decide (x28<(y2.1.length:Int))) then
  bif (decide (0≤x28)&&decide (x28<(y2.1.length:Int))) then
  let e3:tRecT:=(List.getD y2.1 (Int.toNat x28) tRec.z)
  bif (decide (0≤(0:Int))&&decide ((0:Int)<(e3.1.length:Int))) then
  let e4:tValueT:=(List.getD e3.1 0 tValue.z)
  bif (Nat.ble (o11_0.length+ [e4].length) 4398046511104) then
  let e5:Int:=(IntKind.i64.wrap (x28+(1:Int)))
  some (.inl (e5,(o11_0++ [e4]),()))
  else none
  else none
  else none
  else
  some (.inr (.inl (o11_0,()))))) ((0:Int),[],()):Option (((List tValueT)×Unit)⊕_)) fun r6=>match r6 with
  | .inl (o11_0_6,_)=>
  (Option.bind (
  loopM (S:=Int×(List tValueT)×Unit) (fun (x42,o11_0,_)=>
  (bif (decide (x42<(o1_0.length:Int))) then
  bif (decide (0≤x42)&&decide (x42<(o1_0.length:Int))) then
  let e7:tWriteT:=(List.getD o1_0 (Int.toNat x42) tWrite.z)
  Option.bind (
  (bif (decide ((e7.2.2.length:Int)>(0:Int))) then
  (bif (e7.1.toList==p2.toList) then
  bif (decide (0≤(0:Int))&&decide ((0:Int)<(e7.2.2.length:Int))) then
  let e8:tValueT:=(List.getD e7.2.2 0 tValue.z)
  Option.bind (value_Compare.F (e8.1,e8.2.1,e8.2.2,p3_0,p3_1,p3_2,())) fun y9=>
  (bif (decide (y9.1≥(0:Int))) then
  bif (decide (0≤(0:Int))&&decide ((0:Int)<(e7.2.2.length:Int))) then
  let e10:tValueT:=(List.getD e7.2.2 0 tValue.z)
  Option.bind (value_Compare.F (e10.1,e10.2.1,e10.2.2,p4_0,p4_1,p4_2,())) fun y11=>
  some (.inl ((decide (y11.1<(0:Int))),()))
  else none
  else
  some (.inl (false,())))
  else none
  else
  some (.inl (false,())))
  else
  some (.inl (false,()))):Option ((Bool×Unit)⊕_)) fun r12=>match r12 with
  | .inl (x73_12,_)=>
  ((bif x73_12 then
  bif (decide (0≤(0:Int))&&decide ((0:Int)<(e7.2.2.length:Int))) then
  let e13:tValueT:=(List.getD e7.2.2 0 tValue.z)
  bif (Nat.ble (o11_0.length+ [e13].length) 4398046511104) then
  let e14:Int:=(IntKind.i64.wrap (x42+(1:Int)))
  some (.inl (e14,(o11_0++ [e13]),()))
  else none
  else none
  else
  let e15:Int:=(IntKind.i64.wrap (x42+(1:Int)))
  some (.inl (e15,o11_0,()))))
  | .inr r=>some r
  else none
  else
  some (.inr (.inl (o11_0,()))))) ((0:Int),o11_0_6,()):Option (((List tValueT)×Unit)⊕_)) fun r16=>match r16 with
  | .inl (o11_0_16,_)=>
  (Option.bind (slices_SortFunc_sl_api_Value_api_Value.F (o11_0_16,())) fun y17=>
  Option.bind (slices_Compact_sl_api_Value_api_Value.F (y17.1,())) fun y18=>
  loopM (S:=Int×(List (List tValueT))×(List tWriteT)×Unit) (fun (x87,o16_0,o1_0,_)=>
  (bif (decide (x87<(y18.1.length:Int))) then
  bif (decide (0≤x87)&&decide (x87<(y18.1.length:Int))) then
  let e19:tValueT:=(List.getD y18.1 (Int.toNat x87) tValue.z)
  Option.bind (txn_Row_o.F (p0,p2,e19.1,e19.2.1,e19.2.2,o1_0,())) fun y20=>
  (bif y20.1 then
  bif (Nat.ble (o16_0.length+ [y20.2.2.1].length) 5864062014805) then
  let e21:Int:=(IntKind.i64.wrap (x87+(1:Int)))
  some (.inl (e21,(o16_0++ [y20.2.2.1]),y20.2.1,()))
  else none
  else
  let e22:Int:=(IntKind.i64.wrap (x87+(1:Int)))
  some (.inl (e22,o16_0,y20.2.1,())))
  else none
  else
  some (.inr (o1_0,o16_0,())))) ((0:Int),[],o1_0,()))
  | .inr r=>some r)
  | .inr r=>some r
noncomputable def txn_Rows_o.F:(List tRelT)×ByteArray×Int×Int×ByteArray×Int×Int×ByteArray×(List tWriteT)×Unit→Option ((List tWriteT)×(List (List tValueT))×Unit):=stk txn_Rows_o.B
theorem txn_Rows_o.eq:txn_Rows_o.F=txn_Rows_o.B:=stk_eq _
theorem txn_Rows_o.ev (x:TS txn_Rows_o.si):evF ctxn_Rows inl0 (Tryz.f8.body.getD .skip) Tryz.f8.results.toList txn_Rows_o.h txn_Rows_o.si txn_Rows_o.so x=txn_Rows_o.B x:=by kernel_rfl
theorem txn_Rows_o.fn:FnOk PP 8 (Tryz.f8.body.getD .skip) Tryz.f8.results.toList Tryz.f8.ntmps:=fnOk_mk (by kernel_rfl) (by kernel_rfl) (by kernel_rfl) (by kernel_rfl)
theorem txn_Rows_o.ok:SpecOk PP 8 ⟨5,txn_Rows_o.si,txn_Rows_o.so,txn_Rows_o.F⟩:=fn_stk cxtxn_Rows (inl0_ok _ _) mixed txn_Rows_o.fn txn_Rows_o.h (by kernel_rfl) txn_Rows_o.ev
noncomputable def sptxn_Rows_o:List (Nat×List (Nat×AK)×Lv.Spec):=(8,[(1,.own)],⟨5,txn_Rows_o.si,txn_Rows_o.so,txn_Rows_o.F⟩)::sptxn_Rows
noncomputable abbrev ctxn_Rows_o:Cx:=⟨tabAt tab0,eqAt eqs0,specAt sptxn_Rows_o,0,specPAt sq0⟩
theorem cxtxn_Rows_o:CxOk PP ctxn_Rows_o:=cxtxn_Rows.consS [(1,.own)] txn_Rows_o.fn.enters txn_Rows_o.ok
/-! internal/strconv.FormatBool -/
def internal_strconv_FormatBool.si:Sh:=⟨[(0,.v false [.bool])],[],[],0,[]⟩
def internal_strconv_FormatBool.so:Sh:=⟨[(0,.v false [.str])],[],[],1000,[]⟩
def internal_strconv_FormatBool.h:H:=.n
noncomputable def internal_strconv_FormatBool.B:Bool×Unit→Option (ByteArray×Unit):=fun (p0,_)=>
  (bif p0 then
  some ((⟨#[116,114,117,101]⟩:ByteArray),())
  else
  some ((⟨#[102,97,108,115,101]⟩:ByteArray),()))
noncomputable def internal_strconv_FormatBool.F:Bool×Unit→Option (ByteArray×Unit):=stk internal_strconv_FormatBool.B
theorem internal_strconv_FormatBool.eq:internal_strconv_FormatBool.F=internal_strconv_FormatBool.B:=stk_eq _
theorem internal_strconv_FormatBool.ev (x:TS internal_strconv_FormatBool.si):evF ctxn_Rows_o inl0 (Tryz.f168.body.getD .skip) Tryz.f168.results.toList internal_strconv_FormatBool.h internal_strconv_FormatBool.si internal_strconv_FormatBool.so x=internal_strconv_FormatBool.B x:=by kernel_rfl
theorem internal_strconv_FormatBool.fn:FnOk PP 168 (Tryz.f168.body.getD .skip) Tryz.f168.results.toList Tryz.f168.ntmps:=fnOk_mk (by kernel_rfl) (by kernel_rfl) (by kernel_rfl) (by kernel_rfl)
theorem internal_strconv_FormatBool.ok:SpecOk PP 168 ⟨1,internal_strconv_FormatBool.si,internal_strconv_FormatBool.so,internal_strconv_FormatBool.F⟩:=fn_stk cxtxn_Rows_o (inl0_ok _ _) mixed internal_strconv_FormatBool.fn internal_strconv_FormatBool.h (by kernel_rfl) internal_strconv_FormatBool.ev
noncomputable def spinternal_strconv_FormatBool:List (Nat×List (Nat×AK)×Lv.Spec):=(168,[],⟨1,internal_strconv_FormatBool.si,internal_strconv_FormatBool.so,internal_strconv_FormatBool.F⟩)::sptxn_Rows_o
noncomputable abbrev cinternal_strconv_FormatBool:Cx:=⟨tabAt tab0,eqAt eqs0,specAt spinternal_strconv_FormatBool,0,specPAt sq0⟩
theorem cxinternal_strconv_FormatBool:CxOk PP cinternal_strconv_FormatBool:=cxtxn_Rows_o.consS [] internal_strconv_FormatBool.fn.enters internal_strconv_FormatBool.ok
/-! strconv.FormatBool -/
def strconv_FormatBool.si:Sh:=⟨[(0,.v false [.bool])],[],[],0,[]⟩
def strconv_FormatBool.so:Sh:=⟨[(0,.v false [.str])],[],[],1000,[]⟩
def strconv_FormatBool.h:H:=.n
noncomputable def strconv_FormatBool.B:Bool×Unit→Option (ByteArray×Unit):=fun (p0,_)=>
  Option.bind (internal_strconv_FormatBool.F (p0,())) fun y1=>
  some (y1.1,())
noncomputable def strconv_FormatBool.F:Bool×Unit→Option (ByteArray×Unit):=stk strconv_FormatBool.B
theorem strconv_FormatBool.eq:strconv_FormatBool.F=strconv_FormatBool.B:=stk_eq _
theorem strconv_FormatBool.ev (x:TS strconv_FormatBool.si):evF cinternal_strconv_FormatBool inl0 (Tryz.f139.body.getD .skip) Tryz.f139.results.toList strconv_FormatBool.h strconv_FormatBool.si strconv_FormatBool.so x=strconv_FormatBool.B x:=by kernel_rfl
theorem strconv_FormatBool.fn:FnOk PP 139 (Tryz.f139.body.getD .skip) Tryz.f139.results.toList Tryz.f139.ntmps:=fnOk_mk (by kernel_rfl) (by kernel_rfl) (by kernel_rfl) (by kernel_rfl)
theorem strconv_FormatBool.ok:SpecOk PP 139 ⟨1,strconv_FormatBool.si,strconv_FormatBool.so,strconv_FormatBool.F⟩:=fn_stk cxinternal_strconv_FormatBool (inl0_ok _ _) mixed strconv_FormatBool.fn strconv_FormatBool.h (by kernel_rfl) strconv_FormatBool.ev
noncomputable def spstrconv_FormatBool:List (Nat×List (Nat×AK)×Lv.Spec):=(139,[],⟨1,strconv_FormatBool.si,strconv_FormatBool.so,strconv_FormatBool.F⟩)::spinternal_strconv_FormatBool
noncomputable abbrev cstrconv_FormatBool:Cx:=⟨tabAt tab0,eqAt eqs0,specAt spstrconv_FormatBool,0,specPAt sq0⟩
theorem cxstrconv_FormatBool:CxOk PP cstrconv_FormatBool:=cxinternal_strconv_FormatBool.consS [] strconv_FormatBool.fn.enters strconv_FormatBool.ok
/-! strings.ReplaceAll -/
def strings_ReplaceAll.si:Sh:=⟨[(0,.v false [.str]),(1,.v false [.str]),(2,.v false [.str])],[],[],0,[]⟩
def strings_ReplaceAll.so:Sh:=⟨[(0,.v false [.str])],[],[],1000,[]⟩
noncomputable def strings_ReplaceAll.B:TS strings_ReplaceAll.si→Option (TS strings_ReplaceAll.so):=replaceF
noncomputable def strings_ReplaceAll.F:TS strings_ReplaceAll.si→Option (TS strings_ReplaceAll.so):=stk strings_ReplaceAll.B
theorem strings_ReplaceAll.eq:strings_ReplaceAll.F=strings_ReplaceAll.B:=stk_eq _
theorem strings_ReplaceAll.ok:SpecOk PP 140 ⟨3,strings_ReplaceAll.si,strings_ReplaceAll.so,strings_ReplaceAll.F⟩:=by
  rw [strings_ReplaceAll.eq]
  exact replace_ok
theorem strings_ReplaceAll.en:Lv.Enters PP 140:=⟨_,Tryz.func140,by kernel_rfl,by decide⟩
noncomputable def spstrings_ReplaceAll:List (Nat×List (Nat×AK)×Lv.Spec):=(140,[],⟨3,strings_ReplaceAll.si,strings_ReplaceAll.so,strings_ReplaceAll.F⟩)::spstrconv_FormatBool
noncomputable abbrev cstrings_ReplaceAll:Cx:=⟨tabAt tab0,eqAt eqs0,specAt spstrings_ReplaceAll,0,specPAt sq0⟩
theorem cxstrings_ReplaceAll:CxOk PP cstrings_ReplaceAll:=cxstrconv_FormatBool.consS [] strings_ReplaceAll.en strings_ReplaceAll.ok
/-! levee/value.Text -/
def value_Text.si:Sh:=⟨[(0,.v true [.int .i64,.int .i64,.str])],[],[],0,[]⟩
def value_Text.so:Sh:=⟨[(0,.v false [.str])],[],[],1000,[]⟩
def value_Text.h:H:=.n
noncomputable def value_Text.B:Int×Int×ByteArray×Unit→Option (ByteArray×Unit):=fun (p0_0,p0_1,p0_2,_)=>
  (bif (p0_0==(0:Int)) then
  some ((⟨#[110,117,108,108]⟩:ByteArray),())
  else
  (bif (p0_0==(1:Int)) then
  Option.bind (strconv_FormatBool.F ((p0_1 !=(0:Int)),())) fun y1=>
  some (y1.1,())
  else
  (bif (p0_0==(2:Int)) then
  Option.bind (strconv_Itoa.F (p0_1,())) fun y2=>
  some (y2.1,())
  else
  (bif (p0_0==(3:Int)) then
  Option.bind (strings_ReplaceAll.F (p0_2,(⟨#[39]⟩:ByteArray),(⟨#[39,39]⟩:ByteArray),())) fun y3=>
  bif (!decide ((((⟨#[39]⟩:ByteArray).size+y3.1.size:Nat):Int)>IntKind.i64.max)) then
  let e4:ByteArray:=((⟨#[39]⟩:ByteArray)++y3.1)
  bif (!decide (((e4.size+(⟨#[39]⟩:ByteArray).size:Nat):Int)>IntKind.i64.max)) then
  let e5:ByteArray:=(e4++(⟨#[39]⟩:ByteArray))
  some (e5,())
  else none
  else none
  else
  some ((⟨#[63]⟩:ByteArray),())))))
noncomputable def value_Text.F:Int×Int×ByteArray×Unit→Option (ByteArray×Unit):=stk value_Text.B
theorem value_Text.eq:value_Text.F=value_Text.B:=stk_eq _
theorem value_Text.ev (x:TS value_Text.si):evF cstrings_ReplaceAll inl0 (Tryz.f113.body.getD .skip) Tryz.f113.results.toList value_Text.h value_Text.si value_Text.so x=value_Text.B x:=by kernel_rfl
theorem value_Text.fn:FnOk PP 113 (Tryz.f113.body.getD .skip) Tryz.f113.results.toList Tryz.f113.ntmps:=fnOk_mk (by kernel_rfl) (by kernel_rfl) (by kernel_rfl) (by kernel_rfl)
theorem value_Text.ok:SpecOk PP 113 ⟨1,value_Text.si,value_Text.so,value_Text.F⟩:=fn_stk cxstrings_ReplaceAll (inl0_ok _ _) mixed value_Text.fn value_Text.h (by kernel_rfl) value_Text.ev
noncomputable def spvalue_Text:List (Nat×List (Nat×AK)×Lv.Spec):=(113,[],⟨1,value_Text.si,value_Text.so,value_Text.F⟩)::spstrings_ReplaceAll
noncomputable abbrev cvalue_Text:Cx:=⟨tabAt tab0,eqAt eqs0,specAt spvalue_Text,0,specPAt sq0⟩
theorem cxvalue_Text:CxOk PP cvalue_Text:=cxstrings_ReplaceAll.consS [] value_Text.fn.enters value_Text.ok
/-! strings.Join -/
def strings_Join.si:Sh:=⟨[(0,.v false [.sl 9 .str]),(1,.v false [.str])],[],[],0,[]⟩
def strings_Join.so:Sh:=⟨[(0,.v false [.str])],[],[],1000,[]⟩
noncomputable def strings_Join.B:TS strings_Join.si→Option (TS strings_Join.so):=fun (xs,sep,_)=>if xs.length≤140737488355328∧(joinB xs sep).size≤140737488355328 then some (joinB xs sep,()) else none
noncomputable def strings_Join.F:TS strings_Join.si→Option (TS strings_Join.so):=stk strings_Join.B
theorem strings_Join.eq:strings_Join.F=strings_Join.B:=stk_eq _
theorem strings_Join.ok:SpecOk PP 77 ⟨2,strings_Join.si,strings_Join.so,strings_Join.F⟩:=by
  rw [strings_Join.eq]
  exact join_ok
theorem strings_Join.en:Lv.Enters PP 77:=⟨_,Tryz.func77,by kernel_rfl,by decide⟩
noncomputable def spstrings_Join:List (Nat×List (Nat×AK)×Lv.Spec):=(77,[],⟨2,strings_Join.si,strings_Join.so,strings_Join.F⟩)::spvalue_Text
noncomputable abbrev cstrings_Join:Cx:=⟨tabAt tab0,eqAt eqs0,specAt spstrings_Join,0,specPAt sq0⟩
theorem cxstrings_Join:CxOk PP cstrings_Join:=cxvalue_Text.consS [] strings_Join.en strings_Join.ok
/-! levee/row.Text -/
def row_Text.si:Sh:=⟨[(0,.v false [.sl 27 tValue])],[],[],0,[]⟩
def row_Text.so:Sh:=⟨[(0,.v false [.str])],[],[],1000,[]⟩
def row_Text.h:H:=(.s none .n (.s none .n (.s (some ⟨[(3,.v false [.ref 0])],[(0,false,.arr 9 .str)],[],1,[]⟩) (.s none .n (.b (.l ⟨[(3,.v false [.ref 0]),(8,.v false [.int .i64])],[(0,false,.arr 9 .str)],[6,7],1,[]⟩ .n))) .n)))
noncomputable def row_Text.B:(List tValueT)×Unit→Option (ByteArray×Unit):=fun (p0,_)=>
  Option.bind (
  loopM (S:=Int×(List ByteArray)×Unit) (fun (x8,o3_0,_)=>
  (bif (decide (x8<(p0.length:Int))) then
  bif (decide (0≤x8)&&decide (x8<(p0.length:Int))) then
  let e1:tValueT:=(List.getD p0 (Int.toNat x8) tValue.z)
  Option.bind (value_Text.F (e1.1,e1.2.1,e1.2.2,())) fun y2=>
  bif (Nat.ble (o3_0.length+ [y2.1].length) 8796093022208) then
  let e3:Int:=(IntKind.i64.wrap (x8+(1:Int)))
  some (.inl (e3,(o3_0++ [y2.1]),()))
  else none
  else none
  else
  some (.inr (.inl (o3_0,()))))) ((0:Int),[],()):Option (((List ByteArray)×Unit)⊕_)) fun r4=>match r4 with
  | .inl (o3_0_4,_)=>
  (Option.bind (strings_Join.F (o3_0_4,(⟨#[44,32]⟩:ByteArray),())) fun y5=>
  bif (!decide ((((⟨#[40]⟩:ByteArray).size+y5.1.size:Nat):Int)>IntKind.i64.max)) then
  let e6:ByteArray:=((⟨#[40]⟩:ByteArray)++y5.1)
  bif (!decide (((e6.size+(⟨#[41]⟩:ByteArray).size:Nat):Int)>IntKind.i64.max)) then
  let e7:ByteArray:=(e6++(⟨#[41]⟩:ByteArray))
  some (e7,())
  else none
  else none)
  | .inr r=>some r
noncomputable def row_Text.F:(List tValueT)×Unit→Option (ByteArray×Unit):=stk row_Text.B
theorem row_Text.eq:row_Text.F=row_Text.B:=stk_eq _
theorem row_Text.ev (x:TS row_Text.si):evF cstrings_Join inl0 (Tryz.f76.body.getD .skip) Tryz.f76.results.toList row_Text.h row_Text.si row_Text.so x=row_Text.B x:=by kernel_rfl
theorem row_Text.fn:FnOk PP 76 (Tryz.f76.body.getD .skip) Tryz.f76.results.toList Tryz.f76.ntmps:=fnOk_mk (by kernel_rfl) (by kernel_rfl) (by kernel_rfl) (by kernel_rfl)
theorem row_Text.ok:SpecOk PP 76 ⟨1,row_Text.si,row_Text.so,row_Text.F⟩:=fn_stk cxstrings_Join (inl0_ok _ _) mixed row_Text.fn row_Text.h (by kernel_rfl) row_Text.ev
noncomputable def sprow_Text:List (Nat×List (Nat×AK)×Lv.Spec):=(76,[],⟨1,row_Text.si,row_Text.so,row_Text.F⟩)::spstrings_Join
noncomputable abbrev crow_Text:Cx:=⟨tabAt tab0,eqAt eqs0,specAt sprow_Text,0,specPAt sq0⟩
theorem cxrow_Text:CxOk PP crow_Text:=cxstrings_Join.consS [] row_Text.fn.enters row_Text.ok
/-! levee/txn.Own -/
def txn_Own.si:Sh:=⟨[(0,.v false [.sl 68 tWrite]),(1,.v false [.str]),(2,.v true [.int .i64,.int .i64,.str])],[],[],0,[]⟩
def txn_Own.so:Sh:=⟨[(0,.v false [.bool])],[],[],1000,[]⟩
def txn_Own.h:H:=.n
noncomputable def txn_Own.B:(List tWriteT)×ByteArray×Int×Int×ByteArray×Unit→Option (Bool×Unit):=fun (p0,p1,p2_0,p2_1,p2_2,_)=>
  loopM (S:=Int×Unit) (fun (x8,_)=>
  (bif (decide (x8<(p0.length:Int))) then
  Option.bind (
  bif (decide (0≤x8)&&decide (x8<(p0.length:Int))) then
  let e1:tWriteT:=(List.getD p0 (Int.toNat x8) tWrite.z)
  Option.bind (txn_of.F (e1.1,e1.2.1,e1.2.2,p1,p2_0,p2_1,p2_2,())) fun y2=>
  some (.inl (y2.1,()))
  else none:Option ((Bool×Unit)⊕_)) fun r3=>match r3 with
  | .inl (x16_3,_)=>
  ((bif x16_3 then
  some (.inr ((decide (x8≥(0:Int))),()))
  else
  let e4:Int:=(IntKind.i64.wrap (x8+(1:Int)))
  some (.inl (e4,()))))
  | .inr r=>some r
  else
  some (.inr ((decide ((-1:Int)≥(0:Int))),())))) ((0:Int),())
noncomputable def txn_Own.F:(List tWriteT)×ByteArray×Int×Int×ByteArray×Unit→Option (Bool×Unit):=stk txn_Own.B
theorem txn_Own.eq:txn_Own.F=txn_Own.B:=stk_eq _
noncomputable def txn_Own.ins:Nat→List (Option Slot)→Heap→Option (Code×List ResultVar×H):=fun g xs hp=>bif Nat.beq g 43&&cloK xs hp 1 44 then some (Tryz.f43.body.getD .skip,Tryz.f43.results.toList,.n) else bif Nat.beq g 44 then some (Tryz.f44.body.getD .skip,Tryz.f44.results.toList,.n) else bif Nat.beq g 82&&cloK xs hp 1 44 then some (Tryz.f82.body.getD .skip,Tryz.f82.results.toList,(.s none .n (.s none (.s none .n (.b (.l ⟨[(8,.v false [.int .i64])],[],[0,1,7],0,[]⟩ (.s none .n (.s none .n (.s none (.b (.s none .n (.s (some ⟨[(16,.v false [.bool])],[],[0,1,5,7,8],0,[]⟩) .n .n))) .n)))))) .n))) else none
theorem txn_Own.ins_ok:∀n xs hp code res h,txn_Own.ins n xs hp=some (code,res,h)→∃nt,FnOk PP n code res nt:=by
  intro n xs hp code res h e
  unfold txn_Own.ins at e
  cases e0:(Nat.beq n 43&&cloK xs hp 1 44) with
  |true=>rw [e0] at e;cases e;rw [Nat.eq_of_beq_eq_true (Bool.and_eq_true_iff.1 e0).1];exact ⟨_,fnOk_mk (by kernel_rfl) (by kernel_rfl) (by kernel_rfl) (by kernel_rfl)⟩
  |false=>
  rw [e0] at e
  cases e1:(Nat.beq n 44) with
  |true=>rw [e1] at e;cases e;rw [Nat.eq_of_beq_eq_true e1];exact ⟨_,fnOk_mk (by kernel_rfl) (by kernel_rfl) (by kernel_rfl) (by kernel_rfl)⟩
  |false=>
  rw [e1] at e
  cases e2:(Nat.beq n 82&&cloK xs hp 1 44) with
  |true=>rw [e2] at e;cases e;rw [Nat.eq_of_beq_eq_true (Bool.and_eq_true_iff.1 e2).1];exact ⟨_,fnOk_mk (by kernel_rfl) (by kernel_rfl) (by kernel_rfl) (by kernel_rfl)⟩
  |false=>
  rw [e2] at e
  cases e
theorem txn_Own.ev (x:TS txn_Own.si):evF crow_Text (inlS crow_Text txn_Own.ins (inlS crow_Text txn_Own.ins (inlS crow_Text txn_Own.ins inl0))) (Tryz.f18.body.getD .skip) Tryz.f18.results.toList txn_Own.h txn_Own.si txn_Own.so x=txn_Own.B x:=by kernel_rfl
theorem txn_Own.fn:FnOk PP 18 (Tryz.f18.body.getD .skip) Tryz.f18.results.toList Tryz.f18.ntmps:=fnOk_mk (by kernel_rfl) (by kernel_rfl) (by kernel_rfl) (by kernel_rfl)
theorem txn_Own.ok:SpecOk PP 18 ⟨3,txn_Own.si,txn_Own.so,txn_Own.F⟩:=fn_stk cxrow_Text (inlS_ok cxrow_Text (inlS_ok cxrow_Text (inlS_ok cxrow_Text (inl0_ok _ _) (drawnOk cxrow_Text mixed) txn_Own.ins_ok) (drawnOk cxrow_Text mixed) txn_Own.ins_ok) (drawnOk cxrow_Text mixed) txn_Own.ins_ok) mixed txn_Own.fn txn_Own.h (by kernel_rfl) txn_Own.ev
noncomputable def sptxn_Own:List (Nat×List (Nat×AK)×Lv.Spec):=(18,[],⟨3,txn_Own.si,txn_Own.so,txn_Own.F⟩)::sprow_Text
noncomputable abbrev ctxn_Own:Cx:=⟨tabAt tab0,eqAt eqs0,specAt sptxn_Own,0,specPAt sq0⟩
theorem cxtxn_Own:CxOk PP ctxn_Own:=cxrow_Text.consS [] txn_Own.fn.enters txn_Own.ok
/-! levee/txn.Own -/
def txn_Own_o.si:Sh:=⟨[(0,.v false [.ref 0]),(1,.v false [.str]),(2,.v true [.int .i64,.int .i64,.str])],[(0,true,.arr 68 tWrite)],[],1,[]⟩
def txn_Own_o.so:Sh:=⟨[(0,.v false [.bool])],[(0,true,.arr 68 tWrite)],[],1001,[(0,0)]⟩
def txn_Own_o.h:H:=.n
noncomputable def txn_Own_o.B:ByteArray×Int×Int×ByteArray×(List tWriteT)×Unit→Option (Bool×(List tWriteT)×Unit):=fun (p1,p2_0,p2_1,p2_2,o0_0,_)=>
  loopM (S:=Int×Unit) (fun (x8,_)=>
  (bif (decide (x8<(o0_0.length:Int))) then
  Option.bind (
  bif (decide (0≤x8)&&decide (x8<(o0_0.length:Int))) then
  let e1:tWriteT:=(List.getD o0_0 (Int.toNat x8) tWrite.z)
  Option.bind (txn_of.F (e1.1,e1.2.1,e1.2.2,p1,p2_0,p2_1,p2_2,())) fun y2=>
  some (.inl (y2.1,()))
  else none:Option ((Bool×Unit)⊕_)) fun r3=>match r3 with
  | .inl (x16_3,_)=>
  ((bif x16_3 then
  some (.inr ((decide (x8≥(0:Int))),o0_0,()))
  else
  let e4:Int:=(IntKind.i64.wrap (x8+(1:Int)))
  some (.inl (e4,()))))
  | .inr r=>some r
  else
  some (.inr ((decide ((-1:Int)≥(0:Int))),o0_0,())))) ((0:Int),())
noncomputable def txn_Own_o.F:ByteArray×Int×Int×ByteArray×(List tWriteT)×Unit→Option (Bool×(List tWriteT)×Unit):=stk txn_Own_o.B
theorem txn_Own_o.eq:txn_Own_o.F=txn_Own_o.B:=stk_eq _
noncomputable def txn_Own_o.ins:Nat→List (Option Slot)→Heap→Option (Code×List ResultVar×H):=fun g xs hp=>bif Nat.beq g 43&&cloK xs hp 1 44 then some (Tryz.f43.body.getD .skip,Tryz.f43.results.toList,.n) else bif Nat.beq g 44 then some (Tryz.f44.body.getD .skip,Tryz.f44.results.toList,.n) else bif Nat.beq g 82&&cloK xs hp 1 44 then some (Tryz.f82.body.getD .skip,Tryz.f82.results.toList,(.s none .n (.s none (.s none .n (.b (.l ⟨[(8,.v false [.int .i64])],[],[0,1,7],0,[]⟩ (.s none .n (.s none .n (.s none (.b (.s none .n (.s (some ⟨[(16,.v false [.bool])],[],[0,1,5,7,8],0,[]⟩) .n .n))) .n)))))) .n))) else none
theorem txn_Own_o.ins_ok:∀n xs hp code res h,txn_Own_o.ins n xs hp=some (code,res,h)→∃nt,FnOk PP n code res nt:=by
  intro n xs hp code res h e
  unfold txn_Own_o.ins at e
  cases e0:(Nat.beq n 43&&cloK xs hp 1 44) with
  |true=>rw [e0] at e;cases e;rw [Nat.eq_of_beq_eq_true (Bool.and_eq_true_iff.1 e0).1];exact ⟨_,fnOk_mk (by kernel_rfl) (by kernel_rfl) (by kernel_rfl) (by kernel_rfl)⟩
  |false=>
  rw [e0] at e
  cases e1:(Nat.beq n 44) with
  |true=>rw [e1] at e;cases e;rw [Nat.eq_of_beq_eq_true e1];exact ⟨_,fnOk_mk (by kernel_rfl) (by kernel_rfl) (by kernel_rfl) (by kernel_rfl)⟩
  |false=>
  rw [e1] at e
  cases e2:(Nat.beq n 82&&cloK xs hp 1 44) with
  |true=>rw [e2] at e;cases e;rw [Nat.eq_of_beq_eq_true (Bool.and_eq_true_iff.1 e2).1];exact ⟨_,fnOk_mk (by kernel_rfl) (by kernel_rfl) (by kernel_rfl) (by kernel_rfl)⟩
  |false=>
  rw [e2] at e
  cases e
theorem txn_Own_o.ev (x:TS txn_Own_o.si):evF ctxn_Own (inlS ctxn_Own txn_Own_o.ins (inlS ctxn_Own txn_Own_o.ins (inlS ctxn_Own txn_Own_o.ins inl0))) (Tryz.f18.body.getD .skip) Tryz.f18.results.toList txn_Own_o.h txn_Own_o.si txn_Own_o.so x=txn_Own_o.B x:=by kernel_rfl
theorem txn_Own_o.fn:FnOk PP 18 (Tryz.f18.body.getD .skip) Tryz.f18.results.toList Tryz.f18.ntmps:=fnOk_mk (by kernel_rfl) (by kernel_rfl) (by kernel_rfl) (by kernel_rfl)
theorem txn_Own_o.ok:SpecOk PP 18 ⟨3,txn_Own_o.si,txn_Own_o.so,txn_Own_o.F⟩:=fn_stk cxtxn_Own (inlS_ok cxtxn_Own (inlS_ok cxtxn_Own (inlS_ok cxtxn_Own (inl0_ok _ _) (drawnOk cxtxn_Own mixed) txn_Own_o.ins_ok) (drawnOk cxtxn_Own mixed) txn_Own_o.ins_ok) (drawnOk cxtxn_Own mixed) txn_Own_o.ins_ok) mixed txn_Own_o.fn txn_Own_o.h (by kernel_rfl) txn_Own_o.ev
noncomputable def sptxn_Own_o:List (Nat×List (Nat×AK)×Lv.Spec):=(18,[(0,.own)],⟨3,txn_Own_o.si,txn_Own_o.so,txn_Own_o.F⟩)::sptxn_Own
noncomputable abbrev ctxn_Own_o:Cx:=⟨tabAt tab0,eqAt eqs0,specAt sptxn_Own_o,0,specPAt sq0⟩
theorem cxtxn_Own_o:CxOk PP ctxn_Own_o:=cxtxn_Own.consS [(0,.own)] txn_Own_o.fn.enters txn_Own_o.ok
/-! levee/reads.One -/
def reads_One.si:Sh:=⟨[(0,.v false [.sl 74 tRel]),(1,.v false [.str]),(2,.v true [.int .i64,.int .i64,.str])],[],[],0,[]⟩
def reads_One.so:Sh:=⟨[(0,.v true [.str,.int .i64,.int .i64,.str,.int .i64])],[],[],1000,[]⟩
def reads_One.h:H:=.n
noncomputable def reads_One.B:(List tRelT)×ByteArray×Int×Int×ByteArray×Unit→Option (ByteArray×Int×Int×ByteArray×Int×Unit):=fun (p0,p1,p2_0,p2_1,p2_2,_)=>
  Option.bind (reads_Look.F (p0,p1,())) fun y1=>
  Option.bind (rel_Get.F (y1.1,y1.2.1,p2_0,p2_1,p2_2,())) fun y2=>
  some (p1,p2_0,p2_1,p2_2,y2.1,())
noncomputable def reads_One.F:(List tRelT)×ByteArray×Int×Int×ByteArray×Unit→Option (ByteArray×Int×Int×ByteArray×Int×Unit):=stk reads_One.B
theorem reads_One.eq:reads_One.F=reads_One.B:=stk_eq _
theorem reads_One.ev (x:TS reads_One.si):evF ctxn_Own_o inl0 (Tryz.f117.body.getD .skip) Tryz.f117.results.toList reads_One.h reads_One.si reads_One.so x=reads_One.B x:=by kernel_rfl
theorem reads_One.fn:FnOk PP 117 (Tryz.f117.body.getD .skip) Tryz.f117.results.toList Tryz.f117.ntmps:=fnOk_mk (by kernel_rfl) (by kernel_rfl) (by kernel_rfl) (by kernel_rfl)
theorem reads_One.ok:SpecOk PP 117 ⟨3,reads_One.si,reads_One.so,reads_One.F⟩:=fn_stk cxtxn_Own_o (inl0_ok _ _) mixed reads_One.fn reads_One.h (by kernel_rfl) reads_One.ev
noncomputable def spreads_One:List (Nat×List (Nat×AK)×Lv.Spec):=(117,[],⟨3,reads_One.si,reads_One.so,reads_One.F⟩)::sptxn_Own_o
noncomputable abbrev creads_One:Cx:=⟨tabAt tab0,eqAt eqs0,specAt spreads_One,0,specPAt sq0⟩
theorem cxreads_One:CxOk PP creads_One:=cxtxn_Own_o.consS [] reads_One.fn.enters reads_One.ok
/-! (*levee/txn.doer).see -/
def txn_doer_see.si:Sh:=⟨[(0,.v false [.ptr 0 0]),(1,.v false [.str]),(2,.v true [.int .i64,.int .i64,.str])],[(0,true,.box 91 [.ref 1,.ref 2,.ref 3,.ref 4,.ref 5,.ref 6,.sl 74 tRel,.sl 123 tLook]),(1,true,.arr 143 tRead),(2,true,.arr 128 tRange),(3,true,.arr 126 tLook),(4,true,.arr 68 tWrite),(5,true,.arr 56 tStmt),(6,true,.arr 9 .str)],[],7,[]⟩
def txn_doer_see.so:Sh:=⟨[(0,.tup [(false,[.ref 1007]),(false,[.bool])])],[(0,true,.box 91 [.ref 1001,.ref 1002,.ref 1003,.ref 1004,.ref 1005,.ref 1006,.sl 74 tRel,.sl 123 tLook]),(1001,false,.arr 143 tRead),(1002,false,.arr 128 tRange),(1003,false,.arr 126 tLook),(1004,false,.arr 68 tWrite),(1005,false,.arr 56 tStmt),(1006,false,.arr 9 .str),(1007,false,.arr 27 tValue)],[],1008,[(0,0)]⟩
def txn_doer_see.h:H:=.n
noncomputable def txn_doer_see.B:ByteArray×Int×Int×ByteArray×(List tRelT)×(List tLookT)×(List tReadT)×(List tRangeT)×(List tLookT)×(List tWriteT)×(List tStmtT)×(List ByteArray)×Unit→Option (Bool×(List tRelT)×(List tLookT)×(List tReadT)×(List tRangeT)×(List tLookT)×(List tWriteT)×(List tStmtT)×(List ByteArray)×(List tValueT)×Unit):=fun (p1,p2_0,p2_1,p2_2,o0_6,o0_7,o0_0,o0_1,o0_2,o0_3,o0_4,o0_5,_)=>
  Option.bind (txn_Own_o.F (p1,p2_0,p2_1,p2_2,o0_3,())) fun y1=>
  (bif (!y1.1) then
  Option.bind (reads_One.F (o0_6,p1,p2_0,p2_1,p2_2,())) fun y2=>
  bif (Nat.ble (o0_0.length+ [(y2.1,((y2.2.1,(y2.2.2.1,y2.2.2.2.1)),y2.2.2.2.2.1))].length) 2513169434916) then
  Option.bind (txn_Row_o.F (o0_6,p1,p2_0,p2_1,p2_2,y1.2.1,())) fun y3=>
  some (y3.1,o0_6,o0_7,(o0_0++ [(y2.1,((y2.2.1,(y2.2.2.1,y2.2.2.2.1)),y2.2.2.2.2.1))]),o0_1,o0_2,y3.2.1,o0_4,o0_5,y3.2.2.1,())
  else none
  else
  Option.bind (txn_Row_o.F (o0_6,p1,p2_0,p2_1,p2_2,y1.2.1,())) fun y4=>
  some (y4.1,o0_6,o0_7,o0_0,o0_1,o0_2,y4.2.1,o0_4,o0_5,y4.2.2.1,()))
noncomputable def txn_doer_see.F:ByteArray×Int×Int×ByteArray×(List tRelT)×(List tLookT)×(List tReadT)×(List tRangeT)×(List tLookT)×(List tWriteT)×(List tStmtT)×(List ByteArray)×Unit→Option (Bool×(List tRelT)×(List tLookT)×(List tReadT)×(List tRangeT)×(List tLookT)×(List tWriteT)×(List tStmtT)×(List ByteArray)×(List tValueT)×Unit):=stk txn_doer_see.B
theorem txn_doer_see.eq:txn_doer_see.F=txn_doer_see.B:=stk_eq _
theorem txn_doer_see.ev (x:TS txn_doer_see.si):evF creads_One inl0 (Tryz.f78.body.getD .skip) Tryz.f78.results.toList txn_doer_see.h txn_doer_see.si txn_doer_see.so x=txn_doer_see.B x:=by kernel_rfl
theorem txn_doer_see.fn:FnOk PP 78 (Tryz.f78.body.getD .skip) Tryz.f78.results.toList Tryz.f78.ntmps:=fnOk_mk (by kernel_rfl) (by kernel_rfl) (by kernel_rfl) (by kernel_rfl)
theorem txn_doer_see.ok:SpecOk PP 78 ⟨3,txn_doer_see.si,txn_doer_see.so,txn_doer_see.F⟩:=fn_stk cxreads_One (inl0_ok _ _) mixed txn_doer_see.fn txn_doer_see.h (by kernel_rfl) txn_doer_see.ev
noncomputable def sptxn_doer_see:List (Nat×List (Nat×AK)×Lv.Spec):=(78,[],⟨3,txn_doer_see.si,txn_doer_see.so,txn_doer_see.F⟩)::spreads_One
noncomputable abbrev ctxn_doer_see:Cx:=⟨tabAt tab0,eqAt eqs0,specAt sptxn_doer_see,0,specPAt sq0⟩
theorem cxtxn_doer_see:CxOk PP ctxn_doer_see:=cxreads_One.consS [] txn_doer_see.fn.enters txn_doer_see.ok
/-! (*levee/txn.doer).do -/
def txn_doer_do.si:Sh:=⟨[(0,.v false [.ptr 0 0]),(1,.v true [.int .i64,.str,.sl 27 tValue])],[(0,true,.box 91 [.ref 1,.ref 2,.ref 3,.ref 4,.ref 5,.ref 6,.sl 74 tRel,.sl 123 tLook]),(1,true,.arr 143 tRead),(2,true,.arr 128 tRange),(3,true,.arr 126 tLook),(4,true,.arr 68 tWrite),(5,true,.arr 56 tStmt),(6,true,.arr 9 .str)],[],7,[]⟩
def txn_doer_do.so:Sh:=⟨[(0,.v false [.str])],[(0,true,.box 91 [.ref 1001,.ref 1002,.ref 1003,.ref 1004,.ref 1005,.ref 1006,.sl 74 tRel,.sl 123 tLook]),(1001,false,.arr 143 tRead),(1002,false,.arr 128 tRange),(1003,false,.arr 126 tLook),(1004,false,.arr 68 tWrite),(1005,false,.arr 56 tStmt),(1006,false,.arr 9 .str)],[],1007,[(0,0)]⟩
def txn_doer_do.h:H:=(.s none .n (.s (some ⟨[],[],[0,3],0,[]⟩) (.s none .n (.b (.s none .n (.c .n (.s none .n (.c (.s none .n (.s none .n (.s (some ⟨[(6,.v false [.ref 0])],[(0,false,.arr 9 .str),(1,true,.box 91 [.ref 2,.ref 3,.ref 4,.ref 5,.ref 6,.ref 7,.sl 74 tRel,.sl 123 tLook]),(2,false,.arr 143 tRead),(3,false,.arr 128 tRange),(4,false,.arr 126 tLook),(5,false,.arr 68 tWrite),(6,false,.arr 56 tStmt),(7,false,.arr 9 .str)],[],8,[(1,0)]⟩) (.s none .n (.b (.l ⟨[(6,.v false [.ref 0]),(93,.v false [.int .i64])],[(0,false,.arr 9 .str)],[91,92],1,[]⟩ .n))) .n))) .n)))))) (.s none .n (.s (some ⟨[],[],[0,3],0,[]⟩) (.b (.s (some ⟨[(117,.v false [.bool])],[],[0,3,9,10],0,[]⟩) .n .n)) .n))))
noncomputable def txn_doer_do.B:Int×ByteArray×(List tValueT)×(List tRelT)×(List tLookT)×(List tReadT)×(List tRangeT)×(List tLookT)×(List tWriteT)×(List tStmtT)×(List ByteArray)×Unit→Option (ByteArray×(List tRelT)×(List tLookT)×(List tReadT)×(List tRangeT)×(List tLookT)×(List tWriteT)×(List tStmtT)×(List ByteArray)×Unit):=fun (p1_0,p1_1,p1_2,o0_6,o0_7,o0_0,o0_1,o0_2,o0_3,o0_4,o0_5,_)=>
  Option.bind (
  (bif (p1_0==(5:Int)) then
  Option.bind (view_Find.F (o0_7,p1_1,())) fun y1=>
  bif (Nat.ble (o0_2.length+ [(p1_1,y1.1)].length) 3518437208883) then
  Option.bind (bag_Text.F (y1.1,())) fun y2=>
  Option.bind (txn_or.F (y2.1,())) fun y3=>
  some (.inr (y3.1,o0_6,o0_7,o0_0,o0_1,(o0_2++ [(p1_1,y1.1)]),o0_3,o0_4,o0_5,()))
  else none
  else
  (bif (p1_0==(1:Int)) then
  bif (decide (0≤(0:Int))&&decide ((0:Int)<(p1_2.length:Int))) then
  let e4:tValueT:=(List.getD p1_2 0 tValue.z)
  bif (decide (0≤(1:Int))&&decide ((1:Int)<(p1_2.length:Int))) then
  let e5:tValueT:=(List.getD p1_2 1 tValue.z)
  Option.bind (reads_Between.F (o0_6,p1_1,e4.1,e4.2.1,e4.2.2,e5.1,e5.2.1,e5.2.2,())) fun y6=>
  bif (Nat.ble (o0_1.length+ [(y6.1,((y6.2.1,(y6.2.2.1,y6.2.2.2.1)),((y6.2.2.2.2.1,(y6.2.2.2.2.2.1,y6.2.2.2.2.2.2.1)),y6.2.2.2.2.2.2.2.1)))].length) 1353245080339) then
  Option.bind (
  bif (decide (0≤(0:Int))&&decide ((0:Int)<(p1_2.length:Int))) then
  let e7:tValueT:=(List.getD p1_2 0 tValue.z)
  bif (decide (0≤(1:Int))&&decide ((1:Int)<(p1_2.length:Int))) then
  let e8:tValueT:=(List.getD p1_2 1 tValue.z)
  Option.bind (txn_Rows_o.F (o0_6,p1_1,e7.1,e7.2.1,e7.2.2,e8.1,e8.2.1,e8.2.2,o0_3,())) fun y9=>
  loopM (S:=Int×(List ByteArray)×Unit) (fun (x93,o6_0,_)=>
  (bif (decide (x93<(y9.2.1.length:Int))) then
  bif (decide (0≤x93)&&decide (x93<(y9.2.1.length:Int))) then
  let e10:(List tValueT):=(List.getD y9.2.1 (Int.toNat x93) [])
  Option.bind (row_Text.F (e10,())) fun y11=>
  bif (Nat.ble (o6_0.length+ [y11.1].length) 8796093022208) then
  let e12:Int:=(IntKind.i64.wrap (x93+(1:Int)))
  some (.inl (e12,(o6_0++ [y11.1]),()))
  else none
  else none
  else
  some (.inr (.inl (o6_0,o0_6,o0_7,o0_0,(o0_1++ [(y6.1,((y6.2.1,(y6.2.2.1,y6.2.2.2.1)),((y6.2.2.2.2.1,(y6.2.2.2.2.2.1,y6.2.2.2.2.2.2.1)),y6.2.2.2.2.2.2.2.1)))]),o0_2,y9.1,o0_4,o0_5,()))))) ((0:Int),[],())
  else none
  else none:Option (((List ByteArray)×(List tRelT)×(List tLookT)×(List tReadT)×(List tRangeT)×(List tLookT)×(List tWriteT)×(List tStmtT)×(List ByteArray)×Unit)⊕_)) fun r13=>match r13 with
  | .inl (o6_0_13,oin_0_6_13,oin_0_7_13,oin_0_0_13,oin_0_1_13,oin_0_2_13,oin_0_3_13,oin_0_4_13,oin_0_5_13,_)=>
  (Option.bind (strings_Join.F (o6_0_13,(⟨#[32]⟩:ByteArray),())) fun y14=>
  Option.bind (txn_or.F (y14.1,())) fun y15=>
  some (.inr (y15.1,oin_0_6_13,oin_0_7_13,oin_0_0_13,oin_0_1_13,oin_0_2_13,oin_0_3_13,oin_0_4_13,oin_0_5_13,())))
  | .inr r=>some r
  else none
  else none
  else none
  else
  some (.inl (())))):Option ((Unit)⊕_)) fun r16=>match r16 with
  | .inl (_)=>
  (bif (decide (0≤(0:Int))&&decide ((0:Int)<(p1_2.length:Int))) then
  let e17:tValueT:=(List.getD p1_2 0 tValue.z)
  Option.bind (txn_doer_see.F (p1_1,e17.1,e17.2.1,e17.2.2,o0_6,o0_7,o0_0,o0_1,o0_2,o0_3,o0_4,o0_5,())) fun y18=>
  Option.bind (
  Option.bind (
  (bif (p1_0==(0:Int)) then
  some (.inl (y18.1,()))
  else
  some (.inl (false,()))):Option ((Bool×Unit)⊕_)) fun r19=>match r19 with
  | .inl (x117_19,_)=>
  ((bif x117_19 then
  Option.bind (row_Text.F (y18.2.2.2.2.2.2.2.2.2.1,())) fun y20=>
  some (.inr (y20.1,y18.2.1,y18.2.2.1,y18.2.2.2.1,y18.2.2.2.2.1,y18.2.2.2.2.2.1,y18.2.2.2.2.2.2.1,y18.2.2.2.2.2.2.2.1,y18.2.2.2.2.2.2.2.2.1,()))
  else
  (bif (p1_0==(0:Int)) then
  some (.inr ((⟨#[110,111,110,101]⟩:ByteArray),y18.2.1,y18.2.2.1,y18.2.2.2.1,y18.2.2.2.2.1,y18.2.2.2.2.2.1,y18.2.2.2.2.2.2.1,y18.2.2.2.2.2.2.2.1,y18.2.2.2.2.2.2.2.2.1,()))
  else
  (bif (p1_0==(2:Int)) then
  (bif y18.1 then
  Option.bind (txn_failed.F ((210:Int),())) fun y21=>
  some (.inr (y21.1,y18.2.1,y18.2.2.1,y18.2.2.2.1,y18.2.2.2.2.1,y18.2.2.2.2.2.1,y18.2.2.2.2.2.2.1,y18.2.2.2.2.2.2.2.1,y18.2.2.2.2.2.2.2.2.1,()))
  else
  (bif (p1_0 !=(2:Int)) then
  (bif (!y18.1) then
  Option.bind (txn_failed.F ((211:Int),())) fun y22=>
  some (.inr (y22.1,y18.2.1,y18.2.2.1,y18.2.2.2.1,y18.2.2.2.2.1,y18.2.2.2.2.2.1,y18.2.2.2.2.2.2.1,y18.2.2.2.2.2.2.2.1,y18.2.2.2.2.2.2.2.2.1,()))
  else
  some (.inl (())))
  else
  some (.inl (()))))
  else
  (bif (p1_0 !=(2:Int)) then
  (bif (!y18.1) then
  Option.bind (txn_failed.F ((211:Int),())) fun y23=>
  some (.inr (y23.1,y18.2.1,y18.2.2.1,y18.2.2.2.1,y18.2.2.2.2.1,y18.2.2.2.2.2.1,y18.2.2.2.2.2.2.1,y18.2.2.2.2.2.2.2.1,y18.2.2.2.2.2.2.2.2.1,()))
  else
  some (.inl (())))
  else
  some (.inl (())))))))
  | .inr r=>some r:Option ((Unit)⊕_)) fun r24=>match r24 with
  | .inl (_)=>
  (Option.bind (slices_Clone_api_Row_api_Value.F (p1_2,())) fun y25=>
  bif (Nat.ble (y18.2.2.2.2.2.2.1.length+ [(p1_1,((p1_0==(4:Int)),y25.1))].length) 2932031007402) then
  some ((⟨#[111,107]⟩:ByteArray),y18.2.1,y18.2.2.1,y18.2.2.2.1,y18.2.2.2.2.1,y18.2.2.2.2.2.1,(y18.2.2.2.2.2.2.1++ [(p1_1,((p1_0==(4:Int)),y25.1))]),y18.2.2.2.2.2.2.2.1,y18.2.2.2.2.2.2.2.2.1,())
  else none)
  | .inr r=>some r
  else none)
  | .inr r=>some r
noncomputable def txn_doer_do.F:Int×ByteArray×(List tValueT)×(List tRelT)×(List tLookT)×(List tReadT)×(List tRangeT)×(List tLookT)×(List tWriteT)×(List tStmtT)×(List ByteArray)×Unit→Option (ByteArray×(List tRelT)×(List tLookT)×(List tReadT)×(List tRangeT)×(List tLookT)×(List tWriteT)×(List tStmtT)×(List ByteArray)×Unit):=stk txn_doer_do.B
theorem txn_doer_do.eq:txn_doer_do.F=txn_doer_do.B:=stk_eq _
theorem txn_doer_do.ev (x:TS txn_doer_do.si):evF ctxn_doer_see inl0 (Tryz.f38.body.getD .skip) Tryz.f38.results.toList txn_doer_do.h txn_doer_do.si txn_doer_do.so x=txn_doer_do.B x:=by kernel_rfl
theorem txn_doer_do.fn:FnOk PP 38 (Tryz.f38.body.getD .skip) Tryz.f38.results.toList Tryz.f38.ntmps:=fnOk_mk (by kernel_rfl) (by kernel_rfl) (by kernel_rfl) (by kernel_rfl)
theorem txn_doer_do.ok:SpecOk PP 38 ⟨2,txn_doer_do.si,txn_doer_do.so,txn_doer_do.F⟩:=fn_stk cxtxn_doer_see (inl0_ok _ _) mixed txn_doer_do.fn txn_doer_do.h (by kernel_rfl) txn_doer_do.ev
noncomputable def sptxn_doer_do:List (Nat×List (Nat×AK)×Lv.Spec):=(38,[],⟨2,txn_doer_do.si,txn_doer_do.so,txn_doer_do.F⟩)::sptxn_doer_see
noncomputable abbrev ctxn_doer_do:Cx:=⟨tabAt tab0,eqAt eqs0,specAt sptxn_doer_do,0,specPAt sq0⟩
theorem cxtxn_doer_do:CxOk PP ctxn_doer_do:=cxtxn_doer_see.consS [] txn_doer_do.fn.enters txn_doer_do.ok
/-! levee/txn.Do -/
def txn_Do.si:Sh:=⟨[(0,.v false [.sl 110 tDef]),(1,.v false [.sl 74 tRel]),(2,.v false [.sl 123 tLook]),(3,.v true [.sl 143 tRead,.sl 128 tRange,.sl 126 tLook,.sl 68 tWrite,.sl 56 tStmt,.sl 9 .str]),(4,.v true [.int .i64,.str,.sl 27 tValue])],[],[],0,[]⟩
def txn_Do.so:Sh:=⟨[(0,.tup [(true,[.ref 1000,.ref 1001,.ref 1002,.ref 1003,.ref 1004,.ref 1005]),(false,[.str])])],[(1000,false,.arr 143 tRead),(1001,false,.arr 128 tRange),(1002,false,.arr 126 tLook),(1003,false,.arr 68 tWrite),(1004,false,.arr 56 tStmt),(1005,false,.arr 9 .str)],[],1006,[]⟩
def txn_Do.h:H:=(.s none .n (.s none .n (.s none .n (.s none .n (.s (some ⟨[(12,.v false [.ptr 0 0]),(13,.v false [.str])],[(0,true,.box 91 [.ref 1,.ref 2,.ref 3,.ref 4,.ref 5,.ref 6,.sl 74 tRel,.sl 123 tLook]),(1,false,.arr 143 tRead),(2,false,.arr 128 tRange),(3,false,.arr 126 tLook),(4,false,.arr 68 tWrite),(5,false,.arr 56 tStmt),(6,false,.arr 9 .str)],[9,10],7,[]⟩) .n .n)))))
noncomputable def txn_Do.B:(List tDefT)×(List tRelT)×(List tLookT)×(List tReadT)×(List tRangeT)×(List tLookT)×(List tWriteT)×(List tStmtT)×(List ByteArray)×Int×ByteArray×(List tValueT)×Unit→Option (ByteArray×(List tReadT)×(List tRangeT)×(List tLookT)×(List tWriteT)×(List tStmtT)×(List ByteArray)×Unit):=fun (p0,p1,p2,p3_0,p3_1,p3_2,p3_3,p3_4,p3_5,p4_0,p4_1,p4_2,_)=>
  Option.bind (txn_copied.F (p3_0,p3_1,p3_2,p3_3,p3_4,p3_5,())) fun y1=>
  (bif (decide ((p3_4.length:Int)≥(50:Int))) then
  Option.bind (txn_failed.F ((213:Int),())) fun y2=>
  some (y2.1,y1.1,y1.2.1,y1.2.2.1,y1.2.2.2.1,y1.2.2.2.2.1,y1.2.2.2.2.2.1,())
  else
  Option.bind (
  Option.bind (txn_wrong.F (p0,p4_0,p4_1,p4_2,())) fun y3=>
  (bif (y3.1 !=(0:Int)) then
  Option.bind (txn_failed.F (y3.1,())) fun y4=>
  some (.inl (y4.1,p1,p2,y1.1,y1.2.1,y1.2.2.1,y1.2.2.2.1,y1.2.2.2.2.1,y1.2.2.2.2.2.1,()))
  else
  Option.bind (txn_doer_do.F (p4_0,p4_1,p4_2,p1,p2,y1.1,y1.2.1,y1.2.2.1,y1.2.2.2.1,y1.2.2.2.2.1,y1.2.2.2.2.2.1,())) fun y5=>
  some (.inl (y5.1,y5.2.1,y5.2.2.1,y5.2.2.2.1,y5.2.2.2.2.1,y5.2.2.2.2.2.1,y5.2.2.2.2.2.2.1,y5.2.2.2.2.2.2.2.1,y5.2.2.2.2.2.2.2.2.1,()))):Option ((ByteArray×(List tRelT)×(List tLookT)×(List tReadT)×(List tRangeT)×(List tLookT)×(List tWriteT)×(List tStmtT)×(List ByteArray)×Unit)⊕_)) fun r6=>match r6 with
  | .inl (x13_6,o12_0_6_6,o12_0_7_6,o12_0_0_6,o12_0_1_6,o12_0_2_6,o12_0_3_6,o12_0_4_6,o12_0_5_6,_)=>
  (Option.bind (slices_Clone_api_Row_api_Value.F (p4_2,())) fun y7=>
  bif (Nat.ble (o12_0_4_6.length+ [(p4_0,(p4_1,y7.1))].length) 2932031007402) then
  bif (Nat.ble (o12_0_5_6.length+ [x13_6].length) 8796093022208) then
  some (x13_6,o12_0_0_6,o12_0_1_6,o12_0_2_6,o12_0_3_6,(o12_0_4_6++ [(p4_0,(p4_1,y7.1))]),(o12_0_5_6++ [x13_6]),())
  else none
  else none)
  | .inr r=>some r)
noncomputable def txn_Do.F:(List tDefT)×(List tRelT)×(List tLookT)×(List tReadT)×(List tRangeT)×(List tLookT)×(List tWriteT)×(List tStmtT)×(List ByteArray)×Int×ByteArray×(List tValueT)×Unit→Option (ByteArray×(List tReadT)×(List tRangeT)×(List tLookT)×(List tWriteT)×(List tStmtT)×(List ByteArray)×Unit):=stk txn_Do.B
theorem txn_Do.eq:txn_Do.F=txn_Do.B:=stk_eq _
theorem txn_Do.ev (x:TS txn_Do.si):evF ctxn_doer_do inl0 (Tryz.f12.body.getD .skip) Tryz.f12.results.toList txn_Do.h txn_Do.si txn_Do.so x=txn_Do.B x:=by kernel_rfl
theorem txn_Do.fn:FnOk PP 12 (Tryz.f12.body.getD .skip) Tryz.f12.results.toList Tryz.f12.ntmps:=fnOk_mk (by kernel_rfl) (by kernel_rfl) (by kernel_rfl) (by kernel_rfl)
theorem txn_Do.ok:SpecOk PP 12 ⟨5,txn_Do.si,txn_Do.so,txn_Do.F⟩:=fn_stk cxtxn_doer_do (inl0_ok _ _) mixed txn_Do.fn txn_Do.h (by kernel_rfl) txn_Do.ev
noncomputable def sptxn_Do:List (Nat×List (Nat×AK)×Lv.Spec):=(12,[],⟨5,txn_Do.si,txn_Do.so,txn_Do.F⟩)::sptxn_doer_do
noncomputable abbrev ctxn_Do:Cx:=⟨tabAt tab0,eqAt eqs0,specAt sptxn_Do,0,specPAt sq0⟩
theorem cxtxn_Do:CxOk PP ctxn_Do:=cxtxn_doer_do.consS [] txn_Do.fn.enters txn_Do.ok
/-! levee/leveelaw21.get -/
def L21_get.si:Sh:=⟨[(0,.v false [.int .i64])],[],[],0,[]⟩
def L21_get.so:Sh:=⟨[(0,.v true [.int .i64,.str,.ref 1000])],[(1000,false,.arr 27 tValue)],[],1001,[]⟩
def L21_get.h:H:=.n
noncomputable def L21_get.B:Int×Unit→Option (Int×ByteArray×(List tValueT)×Unit):=fun (p0,_)=>
  Option.bind (R01_Int.F (p0,())) fun y1=>
  some ((0:Int),(⟨#[116]⟩:ByteArray),[(y1.1,(y1.2.1,y1.2.2.1))],())
noncomputable def L21_get.F:Int×Unit→Option (Int×ByteArray×(List tValueT)×Unit):=stk L21_get.B
theorem L21_get.eq:L21_get.F=L21_get.B:=stk_eq _
theorem L21_get.ev (x:TS L21_get.si):evF ctxn_Do inl0 (Tryz.f14.body.getD .skip) Tryz.f14.results.toList L21_get.h L21_get.si L21_get.so x=L21_get.B x:=by kernel_rfl
theorem L21_get.fn:FnOk PP 14 (Tryz.f14.body.getD .skip) Tryz.f14.results.toList Tryz.f14.ntmps:=fnOk_mk (by kernel_rfl) (by kernel_rfl) (by kernel_rfl) (by kernel_rfl)
theorem L21_get.ok:SpecOk PP 14 ⟨1,L21_get.si,L21_get.so,L21_get.F⟩:=fn_stk cxtxn_Do (inl0_ok _ _) mixed L21_get.fn L21_get.h (by kernel_rfl) L21_get.ev
noncomputable def spL21_get:List (Nat×List (Nat×AK)×Lv.Spec):=(14,[],⟨1,L21_get.si,L21_get.so,L21_get.F⟩)::sptxn_Do
noncomputable abbrev cL21_get:Cx:=⟨tabAt tab0,eqAt eqs0,specAt spL21_get,0,specPAt sq0⟩
theorem cxL21_get:CxOk PP cL21_get:=cxtxn_Do.consS [] L21_get.fn.enters L21_get.ok
/-! levee/leveelaw21.fixed -/
def L21_fixed.si:Sh:=⟨[],[],[],0,[]⟩
def L21_fixed.so:Sh:=⟨[(0,.v false [.bool])],[],[],1000,[]⟩
def L21_fixed.h:H:=.n
noncomputable def L21_fixed.B:Unit→Option (Bool×Unit):=fun (_)=>
  Option.bind (L21_one.F (())) fun y1=>
  Option.bind (L21_put.F ((1:Int),(5:Int),())) fun y2=>
  Option.bind (txn_Do.F (y1.1,([]:List tRelT),([]:List tLookT),([]:List tReadT),([]:List tRangeT),([]:List tLookT),([]:List tWriteT),([]:List tStmtT),([]:List ByteArray),y2.1,y2.2.1,y2.2.2.1,())) fun y3=>
  Option.bind (L21_one.F (())) fun y4=>
  Option.bind (L21_get.F ((1:Int),())) fun y5=>
  Option.bind (txn_Do.F (y4.1,([]:List tRelT),([]:List tLookT),y3.2.1,y3.2.2.1,y3.2.2.2.1,y3.2.2.2.2.1,y3.2.2.2.2.2.1,y3.2.2.2.2.2.2.1,y5.1,y5.2.1,y5.2.2.1,())) fun y6=>
  Option.bind (L21_one.F (())) fun y7=>
  Option.bind (L21_put.F ((1:Int),(6:Int),())) fun y8=>
  Option.bind (txn_Do.F (y7.1,([]:List tRelT),([]:List tLookT),y6.2.1,y6.2.2.1,y6.2.2.2.1,y6.2.2.2.2.1,y6.2.2.2.2.2.1,y6.2.2.2.2.2.2.1,y8.1,y8.2.1,y8.2.2.1,())) fun y9=>
  Option.bind (L21_one.F (())) fun y10=>
  Option.bind (txn_Do.F (y10.1,([]:List tRelT),([]:List tLookT),y6.2.1,y6.2.2.1,y6.2.2.2.1,y6.2.2.2.2.1,y6.2.2.2.2.2.1,y6.2.2.2.2.2.2.1,(5:Int),(⟨#[116]⟩:ByteArray),([]:List tValueT),())) fun y11=>
  Option.bind (L21_one.F (())) fun y12=>
  Option.bind (R01_Int.F ((2:Int),())) fun y13=>
  Option.bind (txn_Do.F (y12.1,([]:List tRelT),([]:List tLookT),y6.2.1,y6.2.2.1,y6.2.2.2.1,y6.2.2.2.2.1,y6.2.2.2.2.2.1,y6.2.2.2.2.2.2.1,(4:Int),(⟨#[116]⟩:ByteArray),[(y13.1,(y13.2.1,y13.2.2.1))],())) fun y14=>
  Option.bind (L21_one.F (())) fun y15=>
  Option.bind (R01_Int.F ((0:Int),())) fun y16=>
  Option.bind (R01_Int.F ((9:Int),())) fun y17=>
  Option.bind (txn_Do.F (y15.1,([]:List tRelT),([]:List tLookT),y6.2.1,y6.2.2.1,y6.2.2.2.1,y6.2.2.2.2.1,y6.2.2.2.2.2.1,y6.2.2.2.2.2.2.1,(1:Int),(⟨#[116]⟩:ByteArray),[(y16.1,(y16.2.1,y16.2.2.1)),(y17.1,(y17.2.1,y17.2.2.1))],())) fun y18=>
  Option.bind (R01_Int.F ((1:Int),())) fun y19=>
  Option.bind (txn_Row.F (([]:List tRelT),y6.2.2.2.2.1,(⟨#[116]⟩:ByteArray),y19.1,y19.2.1,y19.2.2.1,())) fun y20=>
  (bif (y3.1.toList==(⟨#[111,107]⟩:ByteArray).toList) then
  (bif (y6.1.toList==(⟨#[40,49,44,32,53,41]⟩:ByteArray).toList) then
  (bif (y9.1.toList==(⟨#[101,114,114,111,114,32,50,49,48]⟩:ByteArray).toList) then
  (bif (y11.1.toList==(⟨#[101,114,114,111,114,32,50,49,50]⟩:ByteArray).toList) then
  (bif (y14.1.toList==(⟨#[101,114,114,111,114,32,50,49,49]⟩:ByteArray).toList) then
  (bif (y18.1.toList==(⟨#[40,49,44,32,53,41]⟩:ByteArray).toList) then
  (bif ((y6.2.1.length:Int)==(1:Int)) then
  (bif ((y6.2.2.2.2.1.length:Int)==(1:Int)) then
  (bif ((y6.2.2.2.2.2.1.length:Int)==(2:Int)) then
  (bif y20.1 then
  (bif ((y20.2.1.length:Int)==(2:Int)) then
  Option.bind (R01_Int.F ((1:Int),())) fun y21=>
  Option.bind (txn_Own.F (y6.2.2.2.2.1,(⟨#[116]⟩:ByteArray),y21.1,y21.2.1,y21.2.2.1,())) fun y22=>
  (bif y22.1 then
  Option.bind (R01_Int.F ((0:Int),())) fun y23=>
  Option.bind (R01_Int.F ((9:Int),())) fun y24=>
  Option.bind (txn_Rows.F (([]:List tRelT),y6.2.2.2.2.1,(⟨#[116]⟩:ByteArray),y23.1,y23.2.1,y23.2.2.1,y24.1,y24.2.1,y24.2.2.1,())) fun y25=>
  some (((y25.1.length:Int)==(1:Int)),())
  else
  some (false,()))
  else
  some (false,()))
  else
  some (false,()))
  else
  some (false,()))
  else
  some (false,()))
  else
  some (false,()))
  else
  some (false,()))
  else
  some (false,()))
  else
  some (false,()))
  else
  some (false,()))
  else
  some (false,()))
  else
  some (false,()))
noncomputable def L21_fixed.F:Unit→Option (Bool×Unit):=stk L21_fixed.B
theorem L21_fixed.eq:L21_fixed.F=L21_fixed.B:=stk_eq _
theorem L21_fixed.ev (x:TS L21_fixed.si):evF cL21_get inl0 (Tryz.f5.body.getD .skip) Tryz.f5.results.toList L21_fixed.h L21_fixed.si L21_fixed.so x=L21_fixed.B x:=by kernel_rfl
theorem L21_fixed.fn:FnOk PP 5 (Tryz.f5.body.getD .skip) Tryz.f5.results.toList Tryz.f5.ntmps:=fnOk_mk (by kernel_rfl) (by kernel_rfl) (by kernel_rfl) (by kernel_rfl)
theorem L21_fixed.ok:SpecOk PP 5 ⟨0,L21_fixed.si,L21_fixed.so,L21_fixed.F⟩:=fn_stk cxL21_get (inl0_ok _ _) mixed L21_fixed.fn L21_fixed.h (by kernel_rfl) L21_fixed.ev
noncomputable def spL21_fixed:List (Nat×List (Nat×AK)×Lv.Spec):=(5,[],⟨0,L21_fixed.si,L21_fixed.so,L21_fixed.F⟩)::spL21_get
noncomputable abbrev cL21_fixed:Cx:=⟨tabAt tab0,eqAt eqs0,specAt spL21_fixed,0,specPAt sq0⟩
theorem cxL21_fixed:CxOk PP cL21_fixed:=cxL21_get.consS [] L21_fixed.fn.enters L21_fixed.ok
/-! levee/leveeref20.SameReads -/
def R20_SameReads.si:Sh:=⟨[(0,.v false [.sl 143 tRead]),(1,.v false [.sl 143 tRead])],[],[],0,[]⟩
def R20_SameReads.so:Sh:=⟨[(0,.v false [.bool])],[],[],1000,[]⟩
def R20_SameReads.h:H:=(.s none .n (.s none .n (.s none (.s none .n (.b (.l ⟨[(5,.v false [.int .i64])],[],[0,1],0,[]⟩ .n))) .n)))
noncomputable def R20_SameReads.B:(List tReadT)×(List tReadT)×Unit→Option (Bool×Unit):=fun (p0,p1,_)=>
  (bif ((p0.length:Int) !=(p1.length:Int)) then
  some (false,())
  else
  loopM (S:=Int×Unit) (fun (x5,_)=>
  (bif (decide (x5<(p0.length:Int))) then
  bif (decide (0≤x5)&&decide (x5<(p0.length:Int))) then
  let e1:tReadT:=(List.getD p0 (Int.toNat x5) tRead.z)
  bif (decide (0≤x5)&&decide (x5<(p1.length:Int))) then
  let e2:tReadT:=(List.getD p1 (Int.toNat x5) tRead.z)
  (bif (!(Ty.eq tRead e1 e2)) then
  some (.inr (false,()))
  else
  let e3:Int:=(IntKind.i64.wrap (x5+(1:Int)))
  some (.inl (e3,())))
  else none
  else none
  else
  some (.inr (true,())))) ((0:Int),()))
noncomputable def R20_SameReads.F:(List tReadT)×(List tReadT)×Unit→Option (Bool×Unit):=stk R20_SameReads.B
theorem R20_SameReads.eq:R20_SameReads.F=R20_SameReads.B:=stk_eq _
theorem R20_SameReads.ev (x:TS R20_SameReads.si):evF cL21_fixed inl0 (Tryz.f79.body.getD .skip) Tryz.f79.results.toList R20_SameReads.h R20_SameReads.si R20_SameReads.so x=R20_SameReads.B x:=by kernel_rfl
theorem R20_SameReads.fn:FnOk PP 79 (Tryz.f79.body.getD .skip) Tryz.f79.results.toList Tryz.f79.ntmps:=fnOk_mk (by kernel_rfl) (by kernel_rfl) (by kernel_rfl) (by kernel_rfl)
theorem R20_SameReads.ok:SpecOk PP 79 ⟨2,R20_SameReads.si,R20_SameReads.so,R20_SameReads.F⟩:=fn_stk cxL21_fixed (inl0_ok _ _) mixed R20_SameReads.fn R20_SameReads.h (by kernel_rfl) R20_SameReads.ev
noncomputable def spR20_SameReads:List (Nat×List (Nat×AK)×Lv.Spec):=(79,[],⟨2,R20_SameReads.si,R20_SameReads.so,R20_SameReads.F⟩)::spL21_fixed
noncomputable abbrev cR20_SameReads:Cx:=⟨tabAt tab0,eqAt eqs0,specAt spR20_SameReads,0,specPAt sq0⟩
theorem cxR20_SameReads:CxOk PP cR20_SameReads:=cxL21_fixed.consS [] R20_SameReads.fn.enters R20_SameReads.ok
/-! levee/leveeref20.SameRange -/
def R20_SameRange.si:Sh:=⟨[(0,.v true [.str,.int .i64,.int .i64,.str,.int .i64,.int .i64,.str,.sl 143 tRead]),(1,.v true [.str,.int .i64,.int .i64,.str,.int .i64,.int .i64,.str,.sl 143 tRead])],[],[],0,[]⟩
def R20_SameRange.so:Sh:=⟨[(0,.v false [.bool])],[],[],1000,[]⟩
def R20_SameRange.h:H:=.n
noncomputable def R20_SameRange.B:ByteArray×Int×Int×ByteArray×Int×Int×ByteArray×(List tReadT)×ByteArray×Int×Int×ByteArray×Int×Int×ByteArray×(List tReadT)×Unit→Option (Bool×Unit):=fun (p0_0,p0_1,p0_2,p0_3,p0_4,p0_5,p0_6,p0_7,p1_0,p1_1,p1_2,p1_3,p1_4,p1_5,p1_6,p1_7,_)=>
  (bif (p0_0.toList==p1_0.toList) then
  (bif (Ty.eq tValue (p0_1,(p0_2,p0_3)) (p1_1,(p1_2,p1_3))) then
  (bif (Ty.eq tValue (p0_4,(p0_5,p0_6)) (p1_4,(p1_5,p1_6))) then
  Option.bind (R20_SameReads.F (p0_7,p1_7,())) fun y1=>
  some (y1.1,())
  else
  some (false,()))
  else
  some (false,()))
  else
  some (false,()))
noncomputable def R20_SameRange.F:ByteArray×Int×Int×ByteArray×Int×Int×ByteArray×(List tReadT)×ByteArray×Int×Int×ByteArray×Int×Int×ByteArray×(List tReadT)×Unit→Option (Bool×Unit):=stk R20_SameRange.B
theorem R20_SameRange.eq:R20_SameRange.F=R20_SameRange.B:=stk_eq _
theorem R20_SameRange.ev (x:TS R20_SameRange.si):evF cR20_SameReads inl0 (Tryz.f80.body.getD .skip) Tryz.f80.results.toList R20_SameRange.h R20_SameRange.si R20_SameRange.so x=R20_SameRange.B x:=by kernel_rfl
theorem R20_SameRange.fn:FnOk PP 80 (Tryz.f80.body.getD .skip) Tryz.f80.results.toList Tryz.f80.ntmps:=fnOk_mk (by kernel_rfl) (by kernel_rfl) (by kernel_rfl) (by kernel_rfl)
theorem R20_SameRange.ok:SpecOk PP 80 ⟨2,R20_SameRange.si,R20_SameRange.so,R20_SameRange.F⟩:=fn_stk cxR20_SameReads (inl0_ok _ _) mixed R20_SameRange.fn R20_SameRange.h (by kernel_rfl) R20_SameRange.ev
noncomputable def spR20_SameRange:List (Nat×List (Nat×AK)×Lv.Spec):=(80,[],⟨2,R20_SameRange.si,R20_SameRange.so,R20_SameRange.F⟩)::spR20_SameReads
noncomputable abbrev cR20_SameRange:Cx:=⟨tabAt tab0,eqAt eqs0,specAt spR20_SameRange,0,specPAt sq0⟩
theorem cxR20_SameRange:CxOk PP cR20_SameRange:=cxR20_SameReads.consS [] R20_SameRange.fn.enters R20_SameRange.ok
/-! levee/leveeref01.Compare -/
def R01_Compare.si:Sh:=⟨[(0,.v true [.int .i64,.int .i64,.str]),(1,.v true [.int .i64,.int .i64,.str])],[],[],0,[]⟩
def R01_Compare.so:Sh:=⟨[(0,.v false [.int .i64])],[],[],1000,[]⟩
def R01_Compare.h:H:=.n
noncomputable def R01_Compare.B:Int×Int×ByteArray×Int×Int×ByteArray×Unit→Option (Int×Unit):=fun (p0_0,p0_1,p0_2,p1_0,p1_1,p1_2,_)=>
  (bif (p0_0 !=p1_0) then
  (bif (decide (p0_0<p1_0)) then
  some ((-1:Int),())
  else
  some ((1:Int),()))
  else
  (bif (p0_1 !=p1_1) then
  (bif (decide (p0_1<p1_1)) then
  some ((-1:Int),())
  else
  some ((1:Int),()))
  else
  (bif (Op.bytesLess p0_2.toList p1_2.toList) then
  some ((-1:Int),())
  else
  (bif (!(Op.bytesLess p0_2.toList p1_2.toList||p0_2.toList==p1_2.toList)) then
  some ((1:Int),())
  else
  some ((0:Int),())))))
noncomputable def R01_Compare.F:Int×Int×ByteArray×Int×Int×ByteArray×Unit→Option (Int×Unit):=stk R01_Compare.B
theorem R01_Compare.eq:R01_Compare.F=R01_Compare.B:=stk_eq _
theorem R01_Compare.ev (x:TS R01_Compare.si):evF cR20_SameRange inl0 (Tryz.f11.body.getD .skip) Tryz.f11.results.toList R01_Compare.h R01_Compare.si R01_Compare.so x=R01_Compare.B x:=by kernel_rfl
theorem R01_Compare.fn:FnOk PP 11 (Tryz.f11.body.getD .skip) Tryz.f11.results.toList Tryz.f11.ntmps:=fnOk_mk (by kernel_rfl) (by kernel_rfl) (by kernel_rfl) (by kernel_rfl)
theorem R01_Compare.ok:SpecOk PP 11 ⟨2,R01_Compare.si,R01_Compare.so,R01_Compare.F⟩:=fn_stk cxR20_SameRange (inl0_ok _ _) mixed R01_Compare.fn R01_Compare.h (by kernel_rfl) R01_Compare.ev
noncomputable def spR01_Compare:List (Nat×List (Nat×AK)×Lv.Spec):=(11,[],⟨2,R01_Compare.si,R01_Compare.so,R01_Compare.F⟩)::spR20_SameRange
noncomputable abbrev cR01_Compare:Cx:=⟨tabAt tab0,eqAt eqs0,specAt spR01_Compare,0,specPAt sq0⟩
theorem cxR01_Compare:CxOk PP cR01_Compare:=cxR20_SameRange.consS [] R01_Compare.fn.enters R01_Compare.ok
/-! levee/leveeref02.Compare -/
def R02_Compare.si:Sh:=⟨[(0,.v false [.sl 27 tValue]),(1,.v false [.sl 27 tValue])],[],[],0,[]⟩
def R02_Compare.so:Sh:=⟨[(0,.v false [.int .i64])],[],[],1000,[]⟩
def R02_Compare.h:H:=(.s none .n (.s (some ⟨[],[],[0,1],0,[]⟩) (.s none .n (.b (.l ⟨[(5,.v false [.int .i64])],[],[0,1],0,[]⟩ .n))) .n))
noncomputable def R02_Compare.B:(List tValueT)×(List tValueT)×Unit→Option (Int×Unit):=fun (p0,p1,_)=>
  Option.bind (
  loopM (S:=Int×Unit) (fun (x5,_)=>
  (bif (decide (x5<(p0.length:Int))) then
  (bif (decide (x5<(p1.length:Int))) then
  bif (decide (0≤x5)&&decide (x5<(p0.length:Int))) then
  let e1:tValueT:=(List.getD p0 (Int.toNat x5) tValue.z)
  bif (decide (0≤x5)&&decide (x5<(p1.length:Int))) then
  let e2:tValueT:=(List.getD p1 (Int.toNat x5) tValue.z)
  Option.bind (R01_Compare.F (e1.1,e1.2.1,e1.2.2,e2.1,e2.2.1,e2.2.2,())) fun y3=>
  (bif (y3.1 !=(0:Int)) then
  some (.inr (.inr (y3.1,())))
  else
  let e4:Int:=(IntKind.i64.wrap (x5+(1:Int)))
  some (.inl (e4,())))
  else none
  else none
  else
  some (.inr (.inl (()))))
  else
  some (.inr (.inl (()))))) ((0:Int),()):Option ((Unit)⊕_)) fun r5=>match r5 with
  | .inl (_)=>
  ((bif (decide ((p0.length:Int)<(p1.length:Int))) then
  some ((-1:Int),())
  else
  (bif (decide ((p0.length:Int)>(p1.length:Int))) then
  some ((1:Int),())
  else
  some ((0:Int),()))))
  | .inr r=>some r
noncomputable def R02_Compare.F:(List tValueT)×(List tValueT)×Unit→Option (Int×Unit):=stk R02_Compare.B
theorem R02_Compare.eq:R02_Compare.F=R02_Compare.B:=stk_eq _
theorem R02_Compare.ev (x:TS R02_Compare.si):evF cR01_Compare inl0 (Tryz.f34.body.getD .skip) Tryz.f34.results.toList R02_Compare.h R02_Compare.si R02_Compare.so x=R02_Compare.B x:=by kernel_rfl
theorem R02_Compare.fn:FnOk PP 34 (Tryz.f34.body.getD .skip) Tryz.f34.results.toList Tryz.f34.ntmps:=fnOk_mk (by kernel_rfl) (by kernel_rfl) (by kernel_rfl) (by kernel_rfl)
theorem R02_Compare.ok:SpecOk PP 34 ⟨2,R02_Compare.si,R02_Compare.so,R02_Compare.F⟩:=fn_stk cxR01_Compare (inl0_ok _ _) mixed R02_Compare.fn R02_Compare.h (by kernel_rfl) R02_Compare.ev
noncomputable def spR02_Compare:List (Nat×List (Nat×AK)×Lv.Spec):=(34,[],⟨2,R02_Compare.si,R02_Compare.so,R02_Compare.F⟩)::spR01_Compare
noncomputable abbrev cR02_Compare:Cx:=⟨tabAt tab0,eqAt eqs0,specAt spR02_Compare,0,specPAt sq0⟩
theorem cxR02_Compare:CxOk PP cR02_Compare:=cxR01_Compare.consS [] R02_Compare.fn.enters R02_Compare.ok
/-! levee/leveeref05.Same -/
def R05_Same.si:Sh:=⟨[(0,.v false [.sl 171 tRec]),(1,.v false [.sl 171 tRec])],[],[],0,[]⟩
def R05_Same.so:Sh:=⟨[(0,.v false [.bool])],[],[],1000,[]⟩
def R05_Same.h:H:=(.s none .n (.s none .n (.s none (.s none .n (.b (.l ⟨[(5,.v false [.int .i64])],[],[0,1],0,[]⟩ .n))) .n)))
noncomputable def R05_Same.B:(List tRecT)×(List tRecT)×Unit→Option (Bool×Unit):=fun (p0,p1,_)=>
  (bif ((p0.length:Int) !=(p1.length:Int)) then
  some (false,())
  else
  loopM (S:=Int×Unit) (fun (x5,_)=>
  (bif (decide (x5<(p0.length:Int))) then
  bif (decide (0≤x5)&&decide (x5<(p0.length:Int))) then
  let e1:tRecT:=(List.getD p0 (Int.toNat x5) tRec.z)
  bif (decide (0≤x5)&&decide (x5<(p1.length:Int))) then
  let e2:tRecT:=(List.getD p1 (Int.toNat x5) tRec.z)
  (bif (e1.2 !=e2.2) then
  some (.inr (false,()))
  else
  bif (decide (0≤x5)&&decide (x5<(p0.length:Int))) then
  let e3:tRecT:=(List.getD p0 (Int.toNat x5) tRec.z)
  bif (decide (0≤x5)&&decide (x5<(p1.length:Int))) then
  let e4:tRecT:=(List.getD p1 (Int.toNat x5) tRec.z)
  Option.bind (R02_Compare.F (e3.1,e4.1,())) fun y5=>
  (bif (y5.1 !=(0:Int)) then
  some (.inr (false,()))
  else
  let e6:Int:=(IntKind.i64.wrap (x5+(1:Int)))
  some (.inl (e6,())))
  else none
  else none)
  else none
  else none
  else
  some (.inr (true,())))) ((0:Int),()))
noncomputable def R05_Same.F:(List tRecT)×(List tRecT)×Unit→Option (Bool×Unit):=stk R05_Same.B
theorem R05_Same.eq:R05_Same.F=R05_Same.B:=stk_eq _
theorem R05_Same.ev (x:TS R05_Same.si):evF cR02_Compare inl0 (Tryz.f81.body.getD .skip) Tryz.f81.results.toList R05_Same.h R05_Same.si R05_Same.so x=R05_Same.B x:=by kernel_rfl
theorem R05_Same.fn:FnOk PP 81 (Tryz.f81.body.getD .skip) Tryz.f81.results.toList Tryz.f81.ntmps:=fnOk_mk (by kernel_rfl) (by kernel_rfl) (by kernel_rfl) (by kernel_rfl)
theorem R05_Same.ok:SpecOk PP 81 ⟨2,R05_Same.si,R05_Same.so,R05_Same.F⟩:=fn_stk cxR02_Compare (inl0_ok _ _) mixed R05_Same.fn R05_Same.h (by kernel_rfl) R05_Same.ev
noncomputable def spR05_Same:List (Nat×List (Nat×AK)×Lv.Spec):=(81,[],⟨2,R05_Same.si,R05_Same.so,R05_Same.F⟩)::spR02_Compare
noncomputable abbrev cR05_Same:Cx:=⟨tabAt tab0,eqAt eqs0,specAt spR05_Same,0,specPAt sq0⟩
theorem cxR05_Same:CxOk PP cR05_Same:=cxR02_Compare.consS [] R05_Same.fn.enters R05_Same.ok
/-! levee/leveeref20.SameSeen -/
def R20_SameSeen.si:Sh:=⟨[(0,.v true [.sl 143 tRead,.sl 128 tRange,.sl 126 tLook]),(1,.v true [.sl 143 tRead,.sl 128 tRange,.sl 126 tLook])],[],[],0,[]⟩
def R20_SameSeen.so:Sh:=⟨[(0,.v false [.bool])],[],[],1000,[]⟩
def R20_SameSeen.h:H:=(.s none .n (.s (some ⟨[],[],[2,3],0,[]⟩) .n (.s (some ⟨[],[],[2,3],0,[]⟩) (.s none .n (.b (.l ⟨[(5,.v false [.int .i64])],[],[2,3],0,[]⟩ .n))) (.s none (.s none .n (.b (.l ⟨[(6,.v false [.int .i64])],[],[2,3],0,[]⟩ .n))) .n))))
noncomputable def R20_SameSeen.B:(List tReadT)×(List tRangeT)×(List tLookT)×(List tReadT)×(List tRangeT)×(List tLookT)×Unit→Option (Bool×Unit):=fun (p0_0,p0_1,p0_2,p1_0,p1_1,p1_2,_)=>
  Option.bind (
  Option.bind (R20_SameReads.F (p0_0,p1_0,())) fun y1=>
  (bif (!y1.1) then
  some (.inr (false,()))
  else
  (bif ((p0_1.length:Int) !=(p1_1.length:Int)) then
  some (.inr (false,()))
  else
  (bif ((p0_2.length:Int) !=(p1_2.length:Int)) then
  some (.inr (false,()))
  else
  some (.inl (()))))):Option ((Unit)⊕_)) fun r2=>match r2 with
  | .inl (_)=>
  (Option.bind (
  loopM (S:=Int×Unit) (fun (x5,_)=>
  (bif (decide (x5<(p0_1.length:Int))) then
  bif (decide (0≤x5)&&decide (x5<(p0_1.length:Int))) then
  let e3:tRangeT:=(List.getD p0_1 (Int.toNat x5) tRange.z)
  bif (decide (0≤x5)&&decide (x5<(p1_1.length:Int))) then
  let e4:tRangeT:=(List.getD p1_1 (Int.toNat x5) tRange.z)
  Option.bind (R20_SameRange.F (e3.1,e3.2.1.1,e3.2.1.2.1,e3.2.1.2.2,e3.2.2.1.1,e3.2.2.1.2.1,e3.2.2.1.2.2,e3.2.2.2,e4.1,e4.2.1.1,e4.2.1.2.1,e4.2.1.2.2,e4.2.2.1.1,e4.2.2.1.2.1,e4.2.2.1.2.2,e4.2.2.2,())) fun y5=>
  (bif (!y5.1) then
  some (.inr (.inr (false,())))
  else
  let e6:Int:=(IntKind.i64.wrap (x5+(1:Int)))
  some (.inl (e6,())))
  else none
  else none
  else
  some (.inr (.inl (()))))) ((0:Int),()):Option ((Unit)⊕_)) fun r7=>match r7 with
  | .inl (_)=>
  (loopM (S:=Int×Unit) (fun (x6,_)=>
  (bif (decide (x6<(p0_2.length:Int))) then
  bif (decide (0≤x6)&&decide (x6<(p0_2.length:Int))) then
  let e8:tLookT:=(List.getD p0_2 (Int.toNat x6) tLook.z)
  bif (decide (0≤x6)&&decide (x6<(p1_2.length:Int))) then
  let e9:tLookT:=(List.getD p1_2 (Int.toNat x6) tLook.z)
  (bif (!(e8.1.toList==e9.1.toList)) then
  some (.inr (false,()))
  else
  bif (decide (0≤x6)&&decide (x6<(p0_2.length:Int))) then
  let e10:tLookT:=(List.getD p0_2 (Int.toNat x6) tLook.z)
  bif (decide (0≤x6)&&decide (x6<(p1_2.length:Int))) then
  let e11:tLookT:=(List.getD p1_2 (Int.toNat x6) tLook.z)
  Option.bind (R05_Same.F (e10.2,e11.2,())) fun y12=>
  (bif (!y12.1) then
  some (.inr (false,()))
  else
  let e13:Int:=(IntKind.i64.wrap (x6+(1:Int)))
  some (.inl (e13,())))
  else none
  else none)
  else none
  else none
  else
  some (.inr (true,())))) ((0:Int),()))
  | .inr r=>some r)
  | .inr r=>some r
noncomputable def R20_SameSeen.F:(List tReadT)×(List tRangeT)×(List tLookT)×(List tReadT)×(List tRangeT)×(List tLookT)×Unit→Option (Bool×Unit):=stk R20_SameSeen.B
theorem R20_SameSeen.eq:R20_SameSeen.F=R20_SameSeen.B:=stk_eq _
theorem R20_SameSeen.ev (x:TS R20_SameSeen.si):evF cR05_Same inl0 (Tryz.f39.body.getD .skip) Tryz.f39.results.toList R20_SameSeen.h R20_SameSeen.si R20_SameSeen.so x=R20_SameSeen.B x:=by kernel_rfl
theorem R20_SameSeen.fn:FnOk PP 39 (Tryz.f39.body.getD .skip) Tryz.f39.results.toList Tryz.f39.ntmps:=fnOk_mk (by kernel_rfl) (by kernel_rfl) (by kernel_rfl) (by kernel_rfl)
theorem R20_SameSeen.ok:SpecOk PP 39 ⟨2,R20_SameSeen.si,R20_SameSeen.so,R20_SameSeen.F⟩:=fn_stk cxR05_Same (inl0_ok _ _) mixed R20_SameSeen.fn R20_SameSeen.h (by kernel_rfl) R20_SameSeen.ev
noncomputable def spR20_SameSeen:List (Nat×List (Nat×AK)×Lv.Spec):=(39,[],⟨2,R20_SameSeen.si,R20_SameSeen.so,R20_SameSeen.F⟩)::spR05_Same
noncomputable abbrev cR20_SameSeen:Cx:=⟨tabAt tab0,eqAt eqs0,specAt spR20_SameSeen,0,specPAt sq0⟩
theorem cxR20_SameSeen:CxOk PP cR20_SameSeen:=cxR05_Same.consS [] R20_SameSeen.fn.enters R20_SameSeen.ok
/-! levee/leveeref02.Same -/
def R02_Same.si:Sh:=⟨[(0,.v false [.sl 27 tValue]),(1,.v false [.sl 27 tValue])],[],[],0,[]⟩
def R02_Same.so:Sh:=⟨[(0,.v false [.bool])],[],[],1000,[]⟩
def R02_Same.h:H:=.n
noncomputable def R02_Same.B:(List tValueT)×(List tValueT)×Unit→Option (Bool×Unit):=fun (p0,p1,_)=>
  Option.bind (R02_Compare.F (p0,p1,())) fun y1=>
  some ((y1.1==(0:Int)),())
noncomputable def R02_Same.F:(List tValueT)×(List tValueT)×Unit→Option (Bool×Unit):=stk R02_Same.B
theorem R02_Same.eq:R02_Same.F=R02_Same.B:=stk_eq _
theorem R02_Same.ev (x:TS R02_Same.si):evF cR20_SameSeen inl0 (Tryz.f10.body.getD .skip) Tryz.f10.results.toList R02_Same.h R02_Same.si R02_Same.so x=R02_Same.B x:=by kernel_rfl
theorem R02_Same.fn:FnOk PP 10 (Tryz.f10.body.getD .skip) Tryz.f10.results.toList Tryz.f10.ntmps:=fnOk_mk (by kernel_rfl) (by kernel_rfl) (by kernel_rfl) (by kernel_rfl)
theorem R02_Same.ok:SpecOk PP 10 ⟨2,R02_Same.si,R02_Same.so,R02_Same.F⟩:=fn_stk cxR20_SameSeen (inl0_ok _ _) mixed R02_Same.fn R02_Same.h (by kernel_rfl) R02_Same.ev
noncomputable def spR02_Same:List (Nat×List (Nat×AK)×Lv.Spec):=(10,[],⟨2,R02_Same.si,R02_Same.so,R02_Same.F⟩)::spR20_SameSeen
noncomputable abbrev cR02_Same:Cx:=⟨tabAt tab0,eqAt eqs0,specAt spR02_Same,0,specPAt sq0⟩
theorem cxR02_Same:CxOk PP cR02_Same:=cxR20_SameSeen.consS [] R02_Same.fn.enters R02_Same.ok
/-! levee/leveeref21.SameWrites -/
def R21_SameWrites.si:Sh:=⟨[(0,.v false [.sl 68 tWrite]),(1,.v false [.sl 68 tWrite])],[],[],0,[]⟩
def R21_SameWrites.so:Sh:=⟨[(0,.v false [.bool])],[],[],1000,[]⟩
def R21_SameWrites.h:H:=(.s none .n (.s none .n (.s none (.s none .n (.b (.l ⟨[(5,.v false [.int .i64])],[],[0,1],0,[]⟩ .n))) .n)))
noncomputable def R21_SameWrites.B:(List tWriteT)×(List tWriteT)×Unit→Option (Bool×Unit):=fun (p0,p1,_)=>
  (bif ((p0.length:Int) !=(p1.length:Int)) then
  some (false,())
  else
  loopM (S:=Int×Unit) (fun (x5,_)=>
  (bif (decide (x5<(p0.length:Int))) then
  bif (decide (0≤x5)&&decide (x5<(p0.length:Int))) then
  let e1:tWriteT:=(List.getD p0 (Int.toNat x5) tWrite.z)
  bif (decide (0≤x5)&&decide (x5<(p1.length:Int))) then
  let e2:tWriteT:=(List.getD p1 (Int.toNat x5) tWrite.z)
  (bif (!(e1.1.toList==e2.1.toList)) then
  some (.inr (false,()))
  else
  bif (decide (0≤x5)&&decide (x5<(p0.length:Int))) then
  let e3:tWriteT:=(List.getD p0 (Int.toNat x5) tWrite.z)
  bif (decide (0≤x5)&&decide (x5<(p1.length:Int))) then
  let e4:tWriteT:=(List.getD p1 (Int.toNat x5) tWrite.z)
  (bif (!(e3.2.1==e4.2.1)) then
  some (.inr (false,()))
  else
  bif (decide (0≤x5)&&decide (x5<(p0.length:Int))) then
  let e5:tWriteT:=(List.getD p0 (Int.toNat x5) tWrite.z)
  bif (decide (0≤x5)&&decide (x5<(p1.length:Int))) then
  let e6:tWriteT:=(List.getD p1 (Int.toNat x5) tWrite.z)
  Option.bind (R02_Same.F (e5.2.2,e6.2.2,())) fun y7=>
  (bif (!y7.1) then
  some (.inr (false,()))
  else
  let e8:Int:=(IntKind.i64.wrap (x5+(1:Int)))
  some (.inl (e8,())))
  else none
  else none)
  else none
  else none)
  else none
  else none
  else
  some (.inr (true,())))) ((0:Int),()))
noncomputable def R21_SameWrites.F:(List tWriteT)×(List tWriteT)×Unit→Option (Bool×Unit):=stk R21_SameWrites.B
theorem R21_SameWrites.eq:R21_SameWrites.F=R21_SameWrites.B:=stk_eq _
theorem R21_SameWrites.ev (x:TS R21_SameWrites.si):evF cR02_Same inl0 (Tryz.f40.body.getD .skip) Tryz.f40.results.toList R21_SameWrites.h R21_SameWrites.si R21_SameWrites.so x=R21_SameWrites.B x:=by kernel_rfl
theorem R21_SameWrites.fn:FnOk PP 40 (Tryz.f40.body.getD .skip) Tryz.f40.results.toList Tryz.f40.ntmps:=fnOk_mk (by kernel_rfl) (by kernel_rfl) (by kernel_rfl) (by kernel_rfl)
theorem R21_SameWrites.ok:SpecOk PP 40 ⟨2,R21_SameWrites.si,R21_SameWrites.so,R21_SameWrites.F⟩:=fn_stk cxR02_Same (inl0_ok _ _) mixed R21_SameWrites.fn R21_SameWrites.h (by kernel_rfl) R21_SameWrites.ev
noncomputable def spR21_SameWrites:List (Nat×List (Nat×AK)×Lv.Spec):=(40,[],⟨2,R21_SameWrites.si,R21_SameWrites.so,R21_SameWrites.F⟩)::spR02_Same
noncomputable abbrev cR21_SameWrites:Cx:=⟨tabAt tab0,eqAt eqs0,specAt spR21_SameWrites,0,specPAt sq0⟩
theorem cxR21_SameWrites:CxOk PP cR21_SameWrites:=cxR02_Same.consS [] R21_SameWrites.fn.enters R21_SameWrites.ok
/-! levee/leveeref21.Texts -/
def R21_Texts.si:Sh:=⟨[(0,.v false [.sl 9 .str]),(1,.v false [.sl 9 .str])],[],[],0,[]⟩
def R21_Texts.so:Sh:=⟨[(0,.v false [.bool])],[],[],1000,[]⟩
def R21_Texts.h:H:=(.s none .n (.s none .n (.s none (.s none .n (.b (.l ⟨[(5,.v false [.int .i64])],[],[0,1],0,[]⟩ .n))) .n)))
noncomputable def R21_Texts.B:(List ByteArray)×(List ByteArray)×Unit→Option (Bool×Unit):=fun (p0,p1,_)=>
  (bif ((p0.length:Int) !=(p1.length:Int)) then
  some (false,())
  else
  loopM (S:=Int×Unit) (fun (x5,_)=>
  (bif (decide (x5<(p0.length:Int))) then
  bif (decide (0≤x5)&&decide (x5<(p0.length:Int))) then
  let e1:ByteArray:=(List.getD p0 (Int.toNat x5) (⟨#[]⟩:ByteArray))
  bif (decide (0≤x5)&&decide (x5<(p1.length:Int))) then
  let e2:ByteArray:=(List.getD p1 (Int.toNat x5) (⟨#[]⟩:ByteArray))
  (bif (!(e1.toList==e2.toList)) then
  some (.inr (false,()))
  else
  let e3:Int:=(IntKind.i64.wrap (x5+(1:Int)))
  some (.inl (e3,())))
  else none
  else none
  else
  some (.inr (true,())))) ((0:Int),()))
noncomputable def R21_Texts.F:(List ByteArray)×(List ByteArray)×Unit→Option (Bool×Unit):=stk R21_Texts.B
theorem R21_Texts.eq:R21_Texts.F=R21_Texts.B:=stk_eq _
theorem R21_Texts.ev (x:TS R21_Texts.si):evF cR21_SameWrites inl0 (Tryz.f41.body.getD .skip) Tryz.f41.results.toList R21_Texts.h R21_Texts.si R21_Texts.so x=R21_Texts.B x:=by kernel_rfl
theorem R21_Texts.fn:FnOk PP 41 (Tryz.f41.body.getD .skip) Tryz.f41.results.toList Tryz.f41.ntmps:=fnOk_mk (by kernel_rfl) (by kernel_rfl) (by kernel_rfl) (by kernel_rfl)
theorem R21_Texts.ok:SpecOk PP 41 ⟨2,R21_Texts.si,R21_Texts.so,R21_Texts.F⟩:=fn_stk cxR21_SameWrites (inl0_ok _ _) mixed R21_Texts.fn R21_Texts.h (by kernel_rfl) R21_Texts.ev
noncomputable def spR21_Texts:List (Nat×List (Nat×AK)×Lv.Spec):=(41,[],⟨2,R21_Texts.si,R21_Texts.so,R21_Texts.F⟩)::spR21_SameWrites
noncomputable abbrev cR21_Texts:Cx:=⟨tabAt tab0,eqAt eqs0,specAt spR21_Texts,0,specPAt sq0⟩
theorem cxR21_Texts:CxOk PP cR21_Texts:=cxR21_SameWrites.consS [] R21_Texts.fn.enters R21_Texts.ok
/-! levee/leveeref08.Same -/
def R08_Same.si:Sh:=⟨[(0,.v true [.int .i64,.str,.sl 27 tValue]),(1,.v true [.int .i64,.str,.sl 27 tValue])],[],[],0,[]⟩
def R08_Same.so:Sh:=⟨[(0,.v false [.bool])],[],[],1000,[]⟩
def R08_Same.h:H:=.n
noncomputable def R08_Same.B:Int×ByteArray×(List tValueT)×Int×ByteArray×(List tValueT)×Unit→Option (Bool×Unit):=fun (p0_0,p0_1,p0_2,p1_0,p1_1,p1_2,_)=>
  (bif (p0_0==p1_0) then
  (bif (p0_1.toList==p1_1.toList) then
  Option.bind (R02_Same.F (p0_2,p1_2,())) fun y1=>
  some (y1.1,())
  else
  some (false,()))
  else
  some (false,()))
noncomputable def R08_Same.F:Int×ByteArray×(List tValueT)×Int×ByteArray×(List tValueT)×Unit→Option (Bool×Unit):=stk R08_Same.B
theorem R08_Same.eq:R08_Same.F=R08_Same.B:=stk_eq _
theorem R08_Same.ev (x:TS R08_Same.si):evF cR21_Texts inl0 (Tryz.f42.body.getD .skip) Tryz.f42.results.toList R08_Same.h R08_Same.si R08_Same.so x=R08_Same.B x:=by kernel_rfl
theorem R08_Same.fn:FnOk PP 42 (Tryz.f42.body.getD .skip) Tryz.f42.results.toList Tryz.f42.ntmps:=fnOk_mk (by kernel_rfl) (by kernel_rfl) (by kernel_rfl) (by kernel_rfl)
theorem R08_Same.ok:SpecOk PP 42 ⟨2,R08_Same.si,R08_Same.so,R08_Same.F⟩:=fn_stk cxR21_Texts (inl0_ok _ _) mixed R08_Same.fn R08_Same.h (by kernel_rfl) R08_Same.ev
noncomputable def spR08_Same:List (Nat×List (Nat×AK)×Lv.Spec):=(42,[],⟨2,R08_Same.si,R08_Same.so,R08_Same.F⟩)::spR21_Texts
noncomputable abbrev cR08_Same:Cx:=⟨tabAt tab0,eqAt eqs0,specAt spR08_Same,0,specPAt sq0⟩
theorem cxR08_Same:CxOk PP cR08_Same:=cxR21_Texts.consS [] R08_Same.fn.enters R08_Same.ok
/-! levee/leveeref21.Same -/
def R21_Same.si:Sh:=⟨[(0,.v true [.sl 143 tRead,.sl 128 tRange,.sl 126 tLook,.sl 68 tWrite,.sl 56 tStmt,.sl 9 .str]),(1,.v true [.sl 143 tRead,.sl 128 tRange,.sl 126 tLook,.sl 68 tWrite,.sl 56 tStmt,.sl 9 .str])],[],[],0,[]⟩
def R21_Same.so:Sh:=⟨[(0,.v false [.bool])],[],[],1000,[]⟩
def R21_Same.h:H:=(.s none .n (.s none (.s (some ⟨[(36,.v false [.bool])],[],[2,3],0,[]⟩) .n .n) (.s none (.s none .n (.b (.l ⟨[(5,.v false [.int .i64])],[],[2,3],0,[]⟩ .n))) .n)))
noncomputable def R21_Same.B:(List tReadT)×(List tRangeT)×(List tLookT)×(List tWriteT)×(List tStmtT)×(List ByteArray)×(List tReadT)×(List tRangeT)×(List tLookT)×(List tWriteT)×(List tStmtT)×(List ByteArray)×Unit→Option (Bool×Unit):=fun (p0_0,p0_1,p0_2,p0_3,p0_4,p0_5,p1_0,p1_1,p1_2,p1_3,p1_4,p1_5,_)=>
  Option.bind (
  Option.bind (R20_SameSeen.F (p0_0,p0_1,p0_2,p1_0,p1_1,p1_2,())) fun y1=>
  (bif (!y1.1) then
  some (.inl (true,()))
  else
  Option.bind (R21_SameWrites.F (p0_3,p1_3,())) fun y2=>
  (bif (!y2.1) then
  some (.inl (true,()))
  else
  (bif ((p0_4.length:Int) !=(p1_4.length:Int)) then
  some (.inl (true,()))
  else
  Option.bind (R21_Texts.F (p0_5,p1_5,())) fun y3=>
  some (.inl ((!y3.1),()))))):Option ((Bool×Unit)⊕_)) fun r4=>match r4 with
  | .inl (x36_4,_)=>
  ((bif x36_4 then
  some (false,())
  else
  loopM (S:=Int×Unit) (fun (x5,_)=>
  (bif (decide (x5<(p0_4.length:Int))) then
  bif (decide (0≤x5)&&decide (x5<(p0_4.length:Int))) then
  let e5:tStmtT:=(List.getD p0_4 (Int.toNat x5) tStmt.z)
  bif (decide (0≤x5)&&decide (x5<(p1_4.length:Int))) then
  let e6:tStmtT:=(List.getD p1_4 (Int.toNat x5) tStmt.z)
  Option.bind (R08_Same.F (e5.1,e5.2.1,e5.2.2,e6.1,e6.2.1,e6.2.2,())) fun y7=>
  (bif (!y7.1) then
  some (.inr (false,()))
  else
  let e8:Int:=(IntKind.i64.wrap (x5+(1:Int)))
  some (.inl (e8,())))
  else none
  else none
  else
  some (.inr (true,())))) ((0:Int),())))
  | .inr r=>some r
noncomputable def R21_Same.F:(List tReadT)×(List tRangeT)×(List tLookT)×(List tWriteT)×(List tStmtT)×(List ByteArray)×(List tReadT)×(List tRangeT)×(List tLookT)×(List tWriteT)×(List tStmtT)×(List ByteArray)×Unit→Option (Bool×Unit):=stk R21_Same.B
theorem R21_Same.eq:R21_Same.F=R21_Same.B:=stk_eq _
theorem R21_Same.ev (x:TS R21_Same.si):evF cR08_Same inl0 (Tryz.f15.body.getD .skip) Tryz.f15.results.toList R21_Same.h R21_Same.si R21_Same.so x=R21_Same.B x:=by kernel_rfl
theorem R21_Same.fn:FnOk PP 15 (Tryz.f15.body.getD .skip) Tryz.f15.results.toList Tryz.f15.ntmps:=fnOk_mk (by kernel_rfl) (by kernel_rfl) (by kernel_rfl) (by kernel_rfl)
theorem R21_Same.ok:SpecOk PP 15 ⟨2,R21_Same.si,R21_Same.so,R21_Same.F⟩:=fn_stk cxR08_Same (inl0_ok _ _) mixed R21_Same.fn R21_Same.h (by kernel_rfl) R21_Same.ev
noncomputable def spR21_Same:List (Nat×List (Nat×AK)×Lv.Spec):=(15,[],⟨2,R21_Same.si,R21_Same.so,R21_Same.F⟩)::spR08_Same
noncomputable abbrev cR21_Same:Cx:=⟨tabAt tab0,eqAt eqs0,specAt spR21_Same,0,specPAt sq0⟩
theorem cxR21_Same:CxOk PP cR21_Same:=cxR08_Same.consS [] R21_Same.fn.enters R21_Same.ok
/-! levee/leveelaw21.TxnFull -/
def L21_TxnFull.si:Sh:=⟨[(0,.v false [.int .i64])],[],[],0,[]⟩
def L21_TxnFull.so:Sh:=⟨[(0,.v false [.bool])],[],[],1000,[]⟩
def L21_TxnFull.h:H:=(.s none .n (.s (some ⟨[],[],[0],0,[]⟩) .n (.s none .n (.s (some ⟨[(3,.v false [.ptr 0 0])],[(0,true,.box 39 [.sl 143 tRead,.sl 128 tRange,.sl 126 tLook,.sl 68 tWrite,.sl 56 tStmt,.sl 9 .str])],[0],1,[]⟩) (.s none .n (.b (.l ⟨[(3,.v false [.ptr 0 0]),(4,.v false [.int .i64])],[(0,true,.box 39 [.sl 143 tRead,.sl 128 tRange,.sl 126 tLook,.sl 68 tWrite,.sl 56 tStmt,.sl 9 .str])],[0],1,[]⟩ (.s none .n (.s none (.b (.s none .n (.s none (.s (some ⟨[(5,.v false [.ptr 0 0]),(59,.v false [.bool])],[(0,true,.box 39 [.sl 143 tRead,.sl 128 tRange,.sl 126 tLook,.sl 68 tWrite,.sl 56 tStmt,.sl 9 .str])],[0,3,4],1,[]⟩) .n .n) .n))) .n))))) .n))))
noncomputable def L21_TxnFull.B:Int×Unit→Option (Bool×Unit):=fun (p0,_)=>
  Option.bind (
  Option.bind (L21_fixed.F (())) fun y1=>
  (bif (!y1.1) then
  Option.bind (L21_fixed.F (())) fun y2=>
  some (.inr (y2.1,()))
  else
  (bif (decide (p0<(1:Int))) then
  Option.bind (L21_fixed.F (())) fun y3=>
  some (.inr (y3.1,()))
  else
  (bif (decide (p0>(60:Int))) then
  Option.bind (L21_fixed.F (())) fun y4=>
  some (.inr (y4.1,()))
  else
  some (.inl (()))))):Option ((Unit)⊕_)) fun r5=>match r5 with
  | .inl (_)=>
  (Option.bind (
  loopM (S:=Int×(List tReadT)×(List tRangeT)×(List tLookT)×(List tWriteT)×(List tStmtT)×(List ByteArray)×Unit) (fun (x4,o3_0_0,o3_0_1,o3_0_2,o3_0_3,o3_0_4,o3_0_5,_)=>
  (bif (decide (x4<p0)) then
  Option.bind (L21_one.F (())) fun y6=>
  Option.bind (L21_get.F (x4,())) fun y7=>
  Option.bind (txn_Do.F (y6.1,([]:List tRelT),([]:List tLookT),o3_0_0,o3_0_1,o3_0_2,o3_0_3,o3_0_4,o3_0_5,y7.1,y7.2.1,y7.2.2.1,())) fun y8=>
  Option.bind (
  (bif (decide (x4≥(50:Int))) then
  (bif (!(y8.1.toList==(⟨#[101,114,114,111,114,32,50,49,51]⟩:ByteArray).toList)) then
  some (.inl (true,y8.2.1,y8.2.2.1,y8.2.2.2.1,y8.2.2.2.2.1,y8.2.2.2.2.2.1,y8.2.2.2.2.2.2.1,()))
  else
  Option.bind (R21_Same.F (y8.2.1,y8.2.2.1,y8.2.2.2.1,y8.2.2.2.2.1,y8.2.2.2.2.2.1,y8.2.2.2.2.2.2.1,o3_0_0,o3_0_1,o3_0_2,o3_0_3,o3_0_4,o3_0_5,())) fun y9=>
  (bif (!y9.1) then
  some (.inl (true,y8.2.1,y8.2.2.1,y8.2.2.2.1,y8.2.2.2.2.1,y8.2.2.2.2.2.1,y8.2.2.2.2.2.2.1,()))
  else
  (bif (decide (x4<(50:Int))) then
  (bif (!(y8.1.toList==(⟨#[110,111,110,101]⟩:ByteArray).toList)) then
  some (.inl (true,y8.2.1,y8.2.2.1,y8.2.2.2.1,y8.2.2.2.2.1,y8.2.2.2.2.2.1,y8.2.2.2.2.2.2.1,()))
  else
  let e10:Int:=(IntKind.i64.wrap (x4+(1:Int)))
  some (.inl (((y8.2.2.2.2.2.1.length:Int) !=e10),y8.2.1,y8.2.2.1,y8.2.2.2.1,y8.2.2.2.2.1,y8.2.2.2.2.2.1,y8.2.2.2.2.2.2.1,())))
  else
  some (.inl (false,y8.2.1,y8.2.2.1,y8.2.2.2.1,y8.2.2.2.2.1,y8.2.2.2.2.2.1,y8.2.2.2.2.2.2.1,())))))
  else
  (bif (decide (x4<(50:Int))) then
  (bif (!(y8.1.toList==(⟨#[110,111,110,101]⟩:ByteArray).toList)) then
  some (.inl (true,y8.2.1,y8.2.2.1,y8.2.2.2.1,y8.2.2.2.2.1,y8.2.2.2.2.2.1,y8.2.2.2.2.2.2.1,()))
  else
  let e11:Int:=(IntKind.i64.wrap (x4+(1:Int)))
  some (.inl (((y8.2.2.2.2.2.1.length:Int) !=e11),y8.2.1,y8.2.2.1,y8.2.2.2.1,y8.2.2.2.2.1,y8.2.2.2.2.2.1,y8.2.2.2.2.2.2.1,())))
  else
  some (.inl (false,y8.2.1,y8.2.2.1,y8.2.2.2.1,y8.2.2.2.2.1,y8.2.2.2.2.2.1,y8.2.2.2.2.2.2.1,())))):Option ((Bool×(List tReadT)×(List tRangeT)×(List tLookT)×(List tWriteT)×(List tStmtT)×(List ByteArray)×Unit)⊕_)) fun r12=>match r12 with
  | .inl (x59_12,o5_0_0_12,o5_0_1_12,o5_0_2_12,o5_0_3_12,o5_0_4_12,o5_0_5_12,_)=>
  ((bif x59_12 then
  some (.inr (.inr (false,())))
  else
  let e13:Int:=(IntKind.i64.wrap (x4+(1:Int)))
  some (.inl (e13,o5_0_0_12,o5_0_1_12,o5_0_2_12,o5_0_3_12,o5_0_4_12,o5_0_5_12,()))))
  | .inr r=>some r
  else
  some (.inr (.inl (o3_0_0,o3_0_1,o3_0_2,o3_0_3,o3_0_4,o3_0_5,()))))) ((0:Int),([]:List tReadT),([]:List tRangeT),([]:List tLookT),([]:List tWriteT),([]:List tStmtT),([]:List ByteArray),()):Option (((List tReadT)×(List tRangeT)×(List tLookT)×(List tWriteT)×(List tStmtT)×(List ByteArray)×Unit)⊕_)) fun r14=>match r14 with
  | .inl (o3_0_0_14,o3_0_1_14,o3_0_2_14,o3_0_3_14,o3_0_4_14,o3_0_5_14,_)=>
  ((bif ((o3_0_0_14.length:Int)==(bif decide ((50:Int)<p0) then (50:Int) else p0)) then
  some (((o3_0_3_14.length:Int)==(0:Int)),())
  else
  some (false,())))
  | .inr r=>some r)
  | .inr r=>some r
noncomputable def L21_TxnFull.F:Int×Unit→Option (Bool×Unit):=stk L21_TxnFull.B
theorem L21_TxnFull.eq:L21_TxnFull.F=L21_TxnFull.B:=stk_eq _
theorem L21_TxnFull.ev (x:TS L21_TxnFull.si):evF cR21_Same inl0 (Tryz.f4.body.getD .skip) Tryz.f4.results.toList L21_TxnFull.h L21_TxnFull.si L21_TxnFull.so x=L21_TxnFull.B x:=by kernel_rfl
theorem L21_TxnFull.fn:FnOk PP 4 (Tryz.f4.body.getD .skip) Tryz.f4.results.toList Tryz.f4.ntmps:=fnOk_mk (by kernel_rfl) (by kernel_rfl) (by kernel_rfl) (by kernel_rfl)
theorem L21_TxnFull.ok:SpecOk PP 4 ⟨1,L21_TxnFull.si,L21_TxnFull.so,L21_TxnFull.F⟩:=fn_stk cxR21_Same (inl0_ok _ _) mixed L21_TxnFull.fn L21_TxnFull.h (by kernel_rfl) L21_TxnFull.ev
noncomputable def spL21_TxnFull:List (Nat×List (Nat×AK)×Lv.Spec):=(4,[],⟨1,L21_TxnFull.si,L21_TxnFull.so,L21_TxnFull.F⟩)::spR21_Same
noncomputable abbrev cL21_TxnFull:Cx:=⟨tabAt tab0,eqAt eqs0,specAt spL21_TxnFull,0,specPAt sq0⟩
theorem cxL21_TxnFull:CxOk PP cL21_TxnFull:=cxR21_Same.consS [] L21_TxnFull.fn.enters L21_TxnFull.ok
end Go.Proofs.Ytniojllnooblcaa
end
section
set_option maxRecDepth 100000
namespace Go.Proofs.Ytniojllnooblcaa
open Go Lv Go.Proofs Go.RowKit Go.Shelf
/-! levee/leveeref03.Big -/
def R03_Big.si:Sh:=⟨[(0,.v false [.sl 202 tNode])],[],[],0,[]⟩
def R03_Big.so:Sh:=⟨[(0,.v false [.bool])],[],[],1000,[]⟩
def R03_Big.h:H:=(.s none .n (.s (some ⟨[],[],[0],0,[]⟩) (.s none .n (.b (.l ⟨[(3,.v false [.int .i64])],[],[0],0,[]⟩ .n))) .n))
noncomputable def R03_Big.B:(List tNodeT)×Unit→Option (Bool×Unit):=fun (p0,_)=>
  Option.bind (
  loopM (S:=Int×Unit) (fun (x3,_)=>
  (bif (decide (x3<(p0.length:Int))) then
  bif (decide (0≤x3)&&decide (x3<(p0.length:Int))) then
  let e1:tNodeT:=(List.getD p0 (Int.toNat x3) tNode.z)
  (bif (decide ((e1.2.2.2.2.size:Int)>(1000:Int))) then
  some (.inr (.inr (true,())))
  else
  let e2:Int:=(IntKind.i64.wrap (x3+(1:Int)))
  some (.inl (e2,())))
  else none
  else
  some (.inr (.inl (()))))) ((0:Int),()):Option ((Unit)⊕_)) fun r3=>match r3 with
  | .inl (_)=>
  (some ((decide ((p0.length:Int)>(120:Int))),()))
  | .inr r=>some r
noncomputable def R03_Big.F:(List tNodeT)×Unit→Option (Bool×Unit):=stk R03_Big.B
theorem R03_Big.eq:R03_Big.F=R03_Big.B:=stk_eq _
theorem R03_Big.ev (x:TS R03_Big.si):evF cL21_TxnFull inl0 (Tryz.f83.body.getD .skip) Tryz.f83.results.toList R03_Big.h R03_Big.si R03_Big.so x=R03_Big.B x:=by kernel_rfl
theorem R03_Big.fn:FnOk PP 83 (Tryz.f83.body.getD .skip) Tryz.f83.results.toList Tryz.f83.ntmps:=fnOk_mk (by kernel_rfl) (by kernel_rfl) (by kernel_rfl) (by kernel_rfl)
theorem R03_Big.ok:SpecOk PP 83 ⟨1,R03_Big.si,R03_Big.so,R03_Big.F⟩:=fn_stk cxL21_TxnFull (inl0_ok _ _) mixed R03_Big.fn R03_Big.h (by kernel_rfl) R03_Big.ev
noncomputable def spR03_Big:List (Nat×List (Nat×AK)×Lv.Spec):=(83,[],⟨1,R03_Big.si,R03_Big.so,R03_Big.F⟩)::spL21_TxnFull
noncomputable abbrev cR03_Big:Cx:=⟨tabAt tab0,eqAt eqs0,specAt spR03_Big,0,specPAt sq0⟩
theorem cxR03_Big:CxOk PP cR03_Big:=cxL21_TxnFull.consS [] R03_Big.fn.enters R03_Big.ok
/-! levee/leveeref07.Big -/
def R07_Big.si:Sh:=⟨[(0,.v true [.int .i64,.str,.sl 97 tColumn,.sl 104 (.sl 202 tNode),.str,.str,.str,.int .i64,.int .i64,.sl 202 tNode,.sl 3 (.int .i64),.bool,.sl 206 tAgg])],[],[],0,[]⟩
def R07_Big.so:Sh:=⟨[(0,.v false [.bool])],[],[],1000,[]⟩
def R07_Big.h:H:=(.s none .n (.s none .n (.s (some ⟨[(3,.v false [.int .i64])],[],[1],0,[]⟩) (.s none .n (.b (.l ⟨[(3,.v false [.int .i64]),(4,.v false [.int .i64])],[],[1],0,[]⟩ .n))) (.s (some ⟨[],[],[1,3],0,[]⟩) (.s none .n (.b (.l ⟨[(5,.v false [.int .i64])],[],[1,3],0,[]⟩ .n))) .n))))
noncomputable def R07_Big.B:Int×ByteArray×(List tColumnT)×(List (List tNodeT))×ByteArray×ByteArray×ByteArray×Int×Int×(List tNodeT)×(List Int)×Bool×(List tAggT)×Unit→Option (Bool×Unit):=fun (p0_0,p0_1,p0_2,p0_3,p0_4,p0_5,p0_6,p0_7,p0_8,p0_9,p0_10,p0_11,p0_12,_)=>
  let e1:Int:=(IntKind.i64.wrap ((p0_2.length:Int)+(p0_3.length:Int)))
  let e2:Int:=(IntKind.i64.wrap (e1+(p0_10.length:Int)))
  let e3:Int:=(IntKind.i64.wrap (e2+(p0_12.length:Int)))
  let e4:Int:=(IntKind.i64.wrap (e3+(p0_9.length:Int)))
  Option.bind (
  loopM (S:=Int×Int×Unit) (fun (x3,x4,_)=>
  (bif (decide (x4<(p0_3.length:Int))) then
  bif (decide (0≤x4)&&decide (x4<(p0_3.length:Int))) then
  let e5:(List tNodeT):=(List.getD p0_3 (Int.toNat x4) [])
  let e6:Int:=(IntKind.i64.wrap (x3+(e5.length:Int)))
  bif (decide (0≤x4)&&decide (x4<(p0_3.length:Int))) then
  let e7:(List tNodeT):=(List.getD p0_3 (Int.toNat x4) [])
  Option.bind (R03_Big.F (e7,())) fun y8=>
  (bif y8.1 then
  some (.inr (.inr (true,())))
  else
  let e9:Int:=(IntKind.i64.wrap (x4+(1:Int)))
  some (.inl (e6,e9,())))
  else none
  else none
  else
  some (.inr (.inl (x3,()))))) (e4,(0:Int),()):Option ((Int×Unit)⊕_)) fun r10=>match r10 with
  | .inl (x3_10,_)=>
  (Option.bind (
  loopM (S:=Int×Unit) (fun (x5,_)=>
  (bif (decide (x5<(p0_2.length:Int))) then
  bif (decide (0≤x5)&&decide (x5<(p0_2.length:Int))) then
  let e11:tColumnT:=(List.getD p0_2 (Int.toNat x5) tColumn.z)
  (bif (decide ((e11.1.size:Int)>(100:Int))) then
  some (.inr (.inr (true,())))
  else
  bif (decide (0≤x5)&&decide (x5<(p0_2.length:Int))) then
  let e12:tColumnT:=(List.getD p0_2 (Int.toNat x5) tColumn.z)
  (bif (decide ((e12.2.2.2.2.1.size:Int)>(100:Int))) then
  some (.inr (.inr (true,())))
  else
  let e13:Int:=(IntKind.i64.wrap (x5+(1:Int)))
  some (.inl (e13,())))
  else none)
  else none
  else
  some (.inr (.inl (()))))) ((0:Int),()):Option ((Unit)⊕_)) fun r14=>match r14 with
  | .inl (_)=>
  ((bif (decide (x3_10>(400:Int))) then
  some (true,())
  else
  Option.bind (R03_Big.F (p0_9,())) fun y15=>
  (bif y15.1 then
  some (true,())
  else
  (bif (decide ((p0_1.size:Int)>(100:Int))) then
  some (true,())
  else
  (bif (decide ((p0_4.size:Int)>(100:Int))) then
  some (true,())
  else
  (bif (decide ((p0_5.size:Int)>(100:Int))) then
  some (true,())
  else
  some ((decide ((p0_6.size:Int)>(100:Int))),())))))))
  | .inr r=>some r)
  | .inr r=>some r
noncomputable def R07_Big.F:Int×ByteArray×(List tColumnT)×(List (List tNodeT))×ByteArray×ByteArray×ByteArray×Int×Int×(List tNodeT)×(List Int)×Bool×(List tAggT)×Unit→Option (Bool×Unit):=stk R07_Big.B
theorem R07_Big.eq:R07_Big.F=R07_Big.B:=stk_eq _
theorem R07_Big.ev (x:TS R07_Big.si):evF cR03_Big inl0 (Tryz.f45.body.getD .skip) Tryz.f45.results.toList R07_Big.h R07_Big.si R07_Big.so x=R07_Big.B x:=by kernel_rfl
theorem R07_Big.fn:FnOk PP 45 (Tryz.f45.body.getD .skip) Tryz.f45.results.toList Tryz.f45.ntmps:=fnOk_mk (by kernel_rfl) (by kernel_rfl) (by kernel_rfl) (by kernel_rfl)
theorem R07_Big.ok:SpecOk PP 45 ⟨1,R07_Big.si,R07_Big.so,R07_Big.F⟩:=fn_stk cxR03_Big (inl0_ok _ _) mixed R07_Big.fn R07_Big.h (by kernel_rfl) R07_Big.ev
noncomputable def spR07_Big:List (Nat×List (Nat×AK)×Lv.Spec):=(45,[],⟨1,R07_Big.si,R07_Big.so,R07_Big.F⟩)::spR03_Big
noncomputable abbrev cR07_Big:Cx:=⟨tabAt tab0,eqAt eqs0,specAt spR07_Big,0,specPAt sq0⟩
theorem cxR07_Big:CxOk PP cR07_Big:=cxR03_Big.consS [] R07_Big.fn.enters R07_Big.ok
/-! levee/leveeref01.Digits -/
def R01_Digits.si:Sh:=⟨[(0,.v false [.int .u64])],[],[],0,[]⟩
def R01_Digits.so:Sh:=⟨[(0,.v false [.str])],[],[],1000,[]⟩
def R01_Digits.h:H:=(.s none .n (.s none .n (.s (some ⟨[(0,.v false [.int .u64]),(3,.v false [.str])],[],[],0,[]⟩) (.b (.l ⟨[(0,.v false [.int .u64]),(3,.v false [.str])],[],[],0,[]⟩ .n)) .n)))
noncomputable def R01_Digits.B:Int×Unit→Option (ByteArray×Unit):=fun (p0,_)=>
  Option.bind (
  loopM (S:=Int×ByteArray×Unit) (fun (x0,x3,_)=>
  (bif (decide (x0>(9:Int))) then
  bif (!decide ((10:Int)=0)) then
  let e1:Int:=(Int.tmod x0 (10:Int))
  bif (!decide ((10:Int)=0)) then
  let e2:Int:=(Int.tmod x0 (10:Int))
  let e3:Int:=(IntKind.u64.wrap (e2+(1:Int)))
  bif (decide (0≤e1)&&(decide (e1≤e3)&&decide (e3≤((⟨#[48,49,50,51,52,53,54,55,56,57]⟩:ByteArray).size:Int)))) then
  let e4:ByteArray:=((⟨#[48,49,50,51,52,53,54,55,56,57]⟩:ByteArray).extract (Int.toNat e1) (Int.toNat e3))
  bif (!decide (((e4.size+x3.size:Nat):Int)>IntKind.i64.max)) then
  let e5:ByteArray:=(e4++x3)
  bif (!decide ((10:Int)=0)) then
  let e6:Int:=(IntKind.u64.wrap (Int.tdiv x0 (10:Int)))
  some (.inl (e6,e5,()))
  else none
  else none
  else none
  else none
  else none
  else
  some (.inr (.inl (x0,x3,()))))) (p0,(⟨#[]⟩:ByteArray),()):Option ((Int×ByteArray×Unit)⊕_)) fun r7=>match r7 with
  | .inl (x0_7,x3_7,_)=>
  (let e8:Int:=(IntKind.u64.wrap (x0_7+(1:Int)))
  bif (decide (0≤x0_7)&&(decide (x0_7≤e8)&&decide (e8≤((⟨#[48,49,50,51,52,53,54,55,56,57]⟩:ByteArray).size:Int)))) then
  let e9:ByteArray:=((⟨#[48,49,50,51,52,53,54,55,56,57]⟩:ByteArray).extract (Int.toNat x0_7) (Int.toNat e8))
  bif (!decide (((e9.size+x3_7.size:Nat):Int)>IntKind.i64.max)) then
  let e10:ByteArray:=(e9++x3_7)
  some (e10,())
  else none
  else none)
  | .inr r=>some r
noncomputable def R01_Digits.F:Int×Unit→Option (ByteArray×Unit):=stk R01_Digits.B
theorem R01_Digits.eq:R01_Digits.F=R01_Digits.B:=stk_eq _
theorem R01_Digits.ev (x:TS R01_Digits.si):evF cR07_Big inl0 (Tryz.f143.body.getD .skip) Tryz.f143.results.toList R01_Digits.h R01_Digits.si R01_Digits.so x=R01_Digits.B x:=by kernel_rfl
theorem R01_Digits.fn:FnOk PP 143 (Tryz.f143.body.getD .skip) Tryz.f143.results.toList Tryz.f143.ntmps:=fnOk_mk (by kernel_rfl) (by kernel_rfl) (by kernel_rfl) (by kernel_rfl)
theorem R01_Digits.ok:SpecOk PP 143 ⟨1,R01_Digits.si,R01_Digits.so,R01_Digits.F⟩:=fn_stk cxR07_Big (inl0_ok _ _) mixed R01_Digits.fn R01_Digits.h (by kernel_rfl) R01_Digits.ev
noncomputable def spR01_Digits:List (Nat×List (Nat×AK)×Lv.Spec):=(143,[],⟨1,R01_Digits.si,R01_Digits.so,R01_Digits.F⟩)::spR07_Big
noncomputable abbrev cR01_Digits:Cx:=⟨tabAt tab0,eqAt eqs0,specAt spR01_Digits,0,specPAt sq0⟩
theorem cxR01_Digits:CxOk PP cR01_Digits:=cxR07_Big.consS [] R01_Digits.fn.enters R01_Digits.ok
/-! levee/leveeref01.Signed -/
def R01_Signed.si:Sh:=⟨[(0,.v false [.int .i64])],[],[],0,[]⟩
def R01_Signed.so:Sh:=⟨[(0,.v false [.str])],[],[],1000,[]⟩
def R01_Signed.h:H:=.n
noncomputable def R01_Signed.B:Int×Unit→Option (ByteArray×Unit):=fun (p0,_)=>
  (bif (decide (p0<(0:Int))) then
  let e1:Int:=(IntKind.i64.wrap (p0+(1:Int)))
  let e2:Int:=(IntKind.u64.wrap ((IntKind.u64.wrap ((IntKind.i64.wrap (0-e1))))+(1:Int)))
  Option.bind (R01_Digits.F (e2,())) fun y3=>
  bif (!decide ((((⟨#[45]⟩:ByteArray).size+y3.1.size:Nat):Int)>IntKind.i64.max)) then
  let e4:ByteArray:=((⟨#[45]⟩:ByteArray)++y3.1)
  some (e4,())
  else none
  else
  Option.bind (R01_Digits.F ((IntKind.u64.wrap (p0)),())) fun y5=>
  some (y5.1,()))
noncomputable def R01_Signed.F:Int×Unit→Option (ByteArray×Unit):=stk R01_Signed.B
theorem R01_Signed.eq:R01_Signed.F=R01_Signed.B:=stk_eq _
theorem R01_Signed.ev (x:TS R01_Signed.si):evF cR01_Digits inl0 (Tryz.f118.body.getD .skip) Tryz.f118.results.toList R01_Signed.h R01_Signed.si R01_Signed.so x=R01_Signed.B x:=by kernel_rfl
theorem R01_Signed.fn:FnOk PP 118 (Tryz.f118.body.getD .skip) Tryz.f118.results.toList Tryz.f118.ntmps:=fnOk_mk (by kernel_rfl) (by kernel_rfl) (by kernel_rfl) (by kernel_rfl)
theorem R01_Signed.ok:SpecOk PP 118 ⟨1,R01_Signed.si,R01_Signed.so,R01_Signed.F⟩:=fn_stk cxR01_Digits (inl0_ok _ _) mixed R01_Signed.fn R01_Signed.h (by kernel_rfl) R01_Signed.ev
noncomputable def spR01_Signed:List (Nat×List (Nat×AK)×Lv.Spec):=(118,[],⟨1,R01_Signed.si,R01_Signed.so,R01_Signed.F⟩)::spR01_Digits
noncomputable abbrev cR01_Signed:Cx:=⟨tabAt tab0,eqAt eqs0,specAt spR01_Signed,0,specPAt sq0⟩
theorem cxR01_Signed:CxOk PP cR01_Signed:=cxR01_Digits.consS [] R01_Signed.fn.enters R01_Signed.ok
/-! levee/leveeref01.May -/
def R01_May.si:Sh:=⟨[(0,.v true [.int .i64,.int .i64,.str])],[],[],0,[]⟩
def R01_May.so:Sh:=⟨[(0,.v false [.bool])],[],[],1000,[]⟩
def R01_May.h:H:=(.s none .n (.s none (.s (some ⟨[(10,.v false [.bool])],[],[1],0,[]⟩) .n .n) .n))
noncomputable def R01_May.B:Int×Int×ByteArray×Unit→Option (Bool×Unit):=fun (p0_0,p0_1,p0_2,_)=>
  Option.bind (
  (bif (p0_0==(0:Int)) then
  some (.inl (true,()))
  else
  some (.inl ((p0_0==(1:Int)),()))):Option ((Bool×Unit)⊕_)) fun r1=>match r1 with
  | .inl (x10_1,_)=>
  ((bif x10_1 then
  (bif (p0_2.toList==(⟨#[]⟩:ByteArray).toList) then
  (bif (decide (p0_1≥(0:Int))) then
  some ((decide (p0_1≤p0_0)),())
  else
  some (false,()))
  else
  some (false,()))
  else
  (bif (p0_0==(2:Int)) then
  some ((p0_2.toList==(⟨#[]⟩:ByteArray).toList),())
  else
  (bif (p0_0==(3:Int)) then
  (bif (p0_1==(0:Int)) then
  some ((decide ((p0_2.size:Int)≤(1000:Int))),())
  else
  some (false,()))
  else
  some (false,())))))
  | .inr r=>some r
noncomputable def R01_May.F:Int×Int×ByteArray×Unit→Option (Bool×Unit):=stk R01_May.B
theorem R01_May.eq:R01_May.F=R01_May.B:=stk_eq _
theorem R01_May.ev (x:TS R01_May.si):evF cR01_Signed inl0 (Tryz.f172.body.getD .skip) Tryz.f172.results.toList R01_May.h R01_May.si R01_May.so x=R01_May.B x:=by kernel_rfl
theorem R01_May.fn:FnOk PP 172 (Tryz.f172.body.getD .skip) Tryz.f172.results.toList Tryz.f172.ntmps:=fnOk_mk (by kernel_rfl) (by kernel_rfl) (by kernel_rfl) (by kernel_rfl)
theorem R01_May.ok:SpecOk PP 172 ⟨1,R01_May.si,R01_May.so,R01_May.F⟩:=fn_stk cxR01_Signed (inl0_ok _ _) mixed R01_May.fn R01_May.h (by kernel_rfl) R01_May.ev
noncomputable def spR01_May:List (Nat×List (Nat×AK)×Lv.Spec):=(172,[],⟨1,R01_May.si,R01_May.so,R01_May.F⟩)::spR01_Signed
noncomputable abbrev cR01_May:Cx:=⟨tabAt tab0,eqAt eqs0,specAt spR01_May,0,specPAt sq0⟩
theorem cxR01_May:CxOk PP cR01_May:=cxR01_Signed.consS [] R01_May.fn.enters R01_May.ok
/-! levee/leveeref01.Text -/
def R01_Text.si:Sh:=⟨[(0,.v true [.int .i64,.int .i64,.str])],[],[],0,[]⟩
def R01_Text.so:Sh:=⟨[(0,.v false [.str])],[],[],1000,[]⟩
def R01_Text.h:H:=(.s none .n (.s none (.s none .n (.b (.s none .n (.c .n (.s none .n (.c .n (.s none .n (.c .n (.s none .n (.c (.s none .n (.s (some ⟨[(3,.v false [.str])],[],[],0,[]⟩) (.s none .n (.b (.l ⟨[(3,.v false [.str]),(4,.v false [.int .i64])],[],[1],0,[]⟩ .n))) .n)) .n)))))))))) .n))
noncomputable def R01_Text.B:Int×Int×ByteArray×Unit→Option (ByteArray×Unit):=fun (p0_0,p0_1,p0_2,_)=>
  (bif (p0_0==(0:Int)) then
  some ((⟨#[110,117,108,108]⟩:ByteArray),())
  else
  (bif (p0_0==(1:Int)) then
  (bif (p0_1==(0:Int)) then
  some ((⟨#[102,97,108,115,101]⟩:ByteArray),())
  else
  some ((⟨#[116,114,117,101]⟩:ByteArray),()))
  else
  (bif (p0_0==(2:Int)) then
  Option.bind (R01_Signed.F (p0_1,())) fun y1=>
  some (y1.1,())
  else
  (bif (p0_0==(3:Int)) then
  Option.bind (
  loopM (S:=ByteArray×Int×Unit) (fun (x3,x4,_)=>
  (bif (decide (x4<(p0_2.size:Int))) then
  bif (decide (0≤x4)&&decide (x4<(p0_2.size:Int))) then
  let e2:Int:=(byteAt p0_2 (Int.toNat x4))
  (bif (e2==(39:Int)) then
  bif (!decide (((x3.size+(⟨#[39]⟩:ByteArray).size:Nat):Int)>IntKind.i64.max)) then
  let e3:ByteArray:=(x3++(⟨#[39]⟩:ByteArray))
  let e4:Int:=(IntKind.i64.wrap (x4+(1:Int)))
  bif (decide (0≤x4)&&(decide (x4≤e4)&&decide (e4≤(p0_2.size:Int)))) then
  let e5:ByteArray:=(p0_2.extract (Int.toNat x4) (Int.toNat e4))
  bif (!decide (((e3.size+e5.size:Nat):Int)>IntKind.i64.max)) then
  let e6:ByteArray:=(e3++e5)
  let e7:Int:=(IntKind.i64.wrap (x4+(1:Int)))
  some (.inl (e6,e7,()))
  else none
  else none
  else none
  else
  let e8:Int:=(IntKind.i64.wrap (x4+(1:Int)))
  bif (decide (0≤x4)&&(decide (x4≤e8)&&decide (e8≤(p0_2.size:Int)))) then
  let e9:ByteArray:=(p0_2.extract (Int.toNat x4) (Int.toNat e8))
  bif (!decide (((x3.size+e9.size:Nat):Int)>IntKind.i64.max)) then
  let e10:ByteArray:=(x3++e9)
  let e11:Int:=(IntKind.i64.wrap (x4+(1:Int)))
  some (.inl (e10,e11,()))
  else none
  else none)
  else none
  else
  some (.inr (.inl (x3,()))))) ((⟨#[39]⟩:ByteArray),(0:Int),()):Option ((ByteArray×Unit)⊕_)) fun r12=>match r12 with
  | .inl (x3_12,_)=>
  (bif (!decide (((x3_12.size+(⟨#[39]⟩:ByteArray).size:Nat):Int)>IntKind.i64.max)) then
  let e13:ByteArray:=(x3_12++(⟨#[39]⟩:ByteArray))
  some (e13,())
  else none)
  | .inr r=>some r
  else
  some ((⟨#[63]⟩:ByteArray),())))))
noncomputable def R01_Text.F:Int×Int×ByteArray×Unit→Option (ByteArray×Unit):=stk R01_Text.B
theorem R01_Text.eq:R01_Text.F=R01_Text.B:=stk_eq _
theorem R01_Text.ev (x:TS R01_Text.si):evF cR01_May inl0 (Tryz.f188.body.getD .skip) Tryz.f188.results.toList R01_Text.h R01_Text.si R01_Text.so x=R01_Text.B x:=by kernel_rfl
theorem R01_Text.fn:FnOk PP 188 (Tryz.f188.body.getD .skip) Tryz.f188.results.toList Tryz.f188.ntmps:=fnOk_mk (by kernel_rfl) (by kernel_rfl) (by kernel_rfl) (by kernel_rfl)
theorem R01_Text.ok:SpecOk PP 188 ⟨1,R01_Text.si,R01_Text.so,R01_Text.F⟩:=fn_stk cxR01_May (inl0_ok _ _) mixed R01_Text.fn R01_Text.h (by kernel_rfl) R01_Text.ev
noncomputable def spR01_Text:List (Nat×List (Nat×AK)×Lv.Spec):=(188,[],⟨1,R01_Text.si,R01_Text.so,R01_Text.F⟩)::spR01_May
noncomputable abbrev cR01_Text:Cx:=⟨tabAt tab0,eqAt eqs0,specAt spR01_Text,0,specPAt sq0⟩
theorem cxR01_Text:CxOk PP cR01_Text:=cxR01_May.consS [] R01_Text.fn.enters R01_Text.ok
/-! levee/leveeref03.Text -/
def R03_Text.si:Sh:=⟨[(0,.v false [.sl 202 tNode])],[],[],0,[]⟩
def R03_Text.so:Sh:=⟨[(0,.v false [.str])],[],[],1000,[]⟩
def R03_Text.h:H:=(.s none .n (.s none .n (.s none .n (.s none (.s none .n (.b (.l ⟨[(4,.v false [.str]),(5,.v false [.int .i64])],[],[0,3],0,[]⟩ (.s none .n (.s none (.b (.s (some ⟨[(4,.v false [.str])],[],[0,3,5],0,[]⟩) .n .n)) .n))))) .n))))
noncomputable def R03_Text.B:(List tNodeT)×Unit→Option (ByteArray×Unit):=fun (p0,_)=>
  loopM (S:=ByteArray×Int×Unit) (fun (x4,x5,_)=>
  (bif (decide (x5<(p0.length:Int))) then
  Option.bind (
  (bif (decide (x5>(0:Int))) then
  bif (!decide (((x4.size+(⟨#[32]⟩:ByteArray).size:Nat):Int)>IntKind.i64.max)) then
  let e1:ByteArray:=(x4++(⟨#[32]⟩:ByteArray))
  some (.inl (e1,()))
  else none
  else
  some (.inl (x4,()))):Option ((ByteArray×Unit)⊕_)) fun r2=>match r2 with
  | .inl (x4_2,_)=>
  (bif (decide (0≤x5)&&decide (x5<(p0.length:Int))) then
  let e3:tNodeT:=(List.getD p0 (Int.toNat x5) tNode.z)
  (bif (e3.1==(0:Int)) then
  Option.bind (R01_Signed.F (e3.2.1,())) fun y4=>
  bif (!decide ((((⟨#[99]⟩:ByteArray).size+y4.1.size:Nat):Int)>IntKind.i64.max)) then
  let e5:ByteArray:=((⟨#[99]⟩:ByteArray)++y4.1)
  bif (!decide (((x4_2.size+e5.size:Nat):Int)>IntKind.i64.max)) then
  let e6:ByteArray:=(x4_2++e5)
  let e7:Int:=(IntKind.i64.wrap (x5+(1:Int)))
  some (.inl (e6,e7,()))
  else none
  else none
  else
  (bif (e3.1==(1:Int)) then
  Option.bind (R01_Text.F (e3.2.2.1,e3.2.2.2.1,e3.2.2.2.2,())) fun y8=>
  bif (!decide (((x4_2.size+y8.1.size:Nat):Int)>IntKind.i64.max)) then
  let e9:ByteArray:=(x4_2++y8.1)
  let e10:Int:=(IntKind.i64.wrap (x5+(1:Int)))
  some (.inl (e9,e10,()))
  else none
  else
  (bif (decide (e3.1<(0:Int))) then
  bif (!decide (((x4_2.size+(⟨#[63]⟩:ByteArray).size:Nat):Int)>IntKind.i64.max)) then
  let e11:ByteArray:=(x4_2++(⟨#[63]⟩:ByteArray))
  let e12:Int:=(IntKind.i64.wrap (x5+(1:Int)))
  some (.inl (e11,e12,()))
  else none
  else
  (bif (decide (e3.1>(10:Int))) then
  bif (!decide (((x4_2.size+(⟨#[63]⟩:ByteArray).size:Nat):Int)>IntKind.i64.max)) then
  let e13:ByteArray:=(x4_2++(⟨#[63]⟩:ByteArray))
  let e14:Int:=(IntKind.i64.wrap (x5+(1:Int)))
  some (.inl (e13,e14,()))
  else none
  else
  bif (decide (0≤e3.1)&&decide (e3.1<([(⟨#[]⟩:ByteArray),(⟨#[]⟩:ByteArray),(⟨#[43]⟩:ByteArray),(⟨#[45]⟩:ByteArray),(⟨#[42]⟩:ByteArray),(⟨#[61]⟩:ByteArray),(⟨#[60]⟩:ByteArray),(⟨#[97,110,100]⟩:ByteArray),(⟨#[111,114]⟩:ByteArray),(⟨#[110,111,116]⟩:ByteArray),(⟨#[110,117,108,108,63]⟩:ByteArray)].length:Int))) then
  let e15:ByteArray:=(List.getD [(⟨#[]⟩:ByteArray),(⟨#[]⟩:ByteArray),(⟨#[43]⟩:ByteArray),(⟨#[45]⟩:ByteArray),(⟨#[42]⟩:ByteArray),(⟨#[61]⟩:ByteArray),(⟨#[60]⟩:ByteArray),(⟨#[97,110,100]⟩:ByteArray),(⟨#[111,114]⟩:ByteArray),(⟨#[110,111,116]⟩:ByteArray),(⟨#[110,117,108,108,63]⟩:ByteArray)] (Int.toNat e3.1) (⟨#[]⟩:ByteArray))
  bif (!decide (((x4_2.size+e15.size:Nat):Int)>IntKind.i64.max)) then
  let e16:ByteArray:=(x4_2++e15)
  let e17:Int:=(IntKind.i64.wrap (x5+(1:Int)))
  some (.inl (e16,e17,()))
  else none
  else none))))
  else none)
  | .inr r=>some r
  else
  some (.inr (x4,())))) ((⟨#[]⟩:ByteArray),(0:Int),())
noncomputable def R03_Text.F:(List tNodeT)×Unit→Option (ByteArray×Unit):=stk R03_Text.B
theorem R03_Text.eq:R03_Text.F=R03_Text.B:=stk_eq _
theorem R03_Text.ev (x:TS R03_Text.si):evF cR01_Text inl0 (Tryz.f173.body.getD .skip) Tryz.f173.results.toList R03_Text.h R03_Text.si R03_Text.so x=R03_Text.B x:=by kernel_rfl
theorem R03_Text.fn:FnOk PP 173 (Tryz.f173.body.getD .skip) Tryz.f173.results.toList Tryz.f173.ntmps:=fnOk_mk (by kernel_rfl) (by kernel_rfl) (by kernel_rfl) (by kernel_rfl)
theorem R03_Text.ok:SpecOk PP 173 ⟨1,R03_Text.si,R03_Text.so,R03_Text.F⟩:=fn_stk cxR01_Text (inl0_ok _ _) mixed R03_Text.fn R03_Text.h (by kernel_rfl) R03_Text.ev
noncomputable def spR03_Text:List (Nat×List (Nat×AK)×Lv.Spec):=(173,[],⟨1,R03_Text.si,R03_Text.so,R03_Text.F⟩)::spR01_Text
noncomputable abbrev cR03_Text:Cx:=⟨tabAt tab0,eqAt eqs0,specAt spR03_Text,0,specPAt sq0⟩
theorem cxR03_Text:CxOk PP cR03_Text:=cxR01_Text.consS [] R03_Text.fn.enters R03_Text.ok
/-! levee/leveeref07.stepText -/
def R07_stepText.si:Sh:=⟨[(0,.v true [.int .i64,.int .i64,.int .i64,.int .i64,.str])],[],[],0,[]⟩
def R07_stepText.so:Sh:=⟨[(0,.v false [.str])],[],[],1000,[]⟩
def R07_stepText.h:H:=.n
noncomputable def R07_stepText.B:Int×Int×Int×Int×ByteArray×Unit→Option (ByteArray×Unit):=fun (p0_0,p0_1,p0_2,p0_3,p0_4,_)=>
  (bif (p0_0==(10:Int)) then
  some ((⟨#[110,117,108,108,32,63]⟩:ByteArray),())
  else
  (bif (p0_0==(1:Int)) then
  (bif (decide (p0_2<(2:Int))) then
  Option.bind (R01_May.F (p0_2,p0_3,p0_4,())) fun y1=>
  (bif (!y1.1) then
  some ((⟨#[33]⟩:ByteArray),())
  else
  Option.bind (R03_Text.F ([(p0_0,(p0_1,(p0_2,(p0_3,p0_4))))],())) fun y2=>
  some (y2.1,()))
  else
  Option.bind (R03_Text.F ([(p0_0,(p0_1,(p0_2,(p0_3,p0_4))))],())) fun y3=>
  some (y3.1,()))
  else
  Option.bind (R03_Text.F ([(p0_0,(p0_1,(p0_2,(p0_3,p0_4))))],())) fun y4=>
  some (y4.1,())))
noncomputable def R07_stepText.F:Int×Int×Int×Int×ByteArray×Unit→Option (ByteArray×Unit):=stk R07_stepText.B
theorem R07_stepText.eq:R07_stepText.F=R07_stepText.B:=stk_eq _
theorem R07_stepText.ev (x:TS R07_stepText.si):evF cR03_Text inl0 (Tryz.f144.body.getD .skip) Tryz.f144.results.toList R07_stepText.h R07_stepText.si R07_stepText.so x=R07_stepText.B x:=by kernel_rfl
theorem R07_stepText.fn:FnOk PP 144 (Tryz.f144.body.getD .skip) Tryz.f144.results.toList Tryz.f144.ntmps:=fnOk_mk (by kernel_rfl) (by kernel_rfl) (by kernel_rfl) (by kernel_rfl)
theorem R07_stepText.ok:SpecOk PP 144 ⟨1,R07_stepText.si,R07_stepText.so,R07_stepText.F⟩:=fn_stk cxR03_Text (inl0_ok _ _) mixed R07_stepText.fn R07_stepText.h (by kernel_rfl) R07_stepText.ev
noncomputable def spR07_stepText:List (Nat×List (Nat×AK)×Lv.Spec):=(144,[],⟨1,R07_stepText.si,R07_stepText.so,R07_stepText.F⟩)::spR03_Text
noncomputable abbrev cR07_stepText:Cx:=⟨tabAt tab0,eqAt eqs0,specAt spR07_stepText,0,specPAt sq0⟩
theorem cxR07_stepText:CxOk PP cR07_stepText:=cxR03_Text.consS [] R07_stepText.fn.enters R07_stepText.ok
/-! levee/leveeref07.exprText -/
def R07_exprText.si:Sh:=⟨[(0,.v false [.sl 202 tNode])],[],[],0,[]⟩
def R07_exprText.so:Sh:=⟨[(0,.v false [.str])],[],[],1000,[]⟩
def R07_exprText.h:H:=(.s none .n (.s none .n (.s (some ⟨[(3,.v false [.str])],[],[],0,[]⟩) (.s none .n (.b (.l ⟨[(3,.v false [.str]),(4,.v false [.int .i64])],[],[0],0,[]⟩ .n))) .n)))
noncomputable def R07_exprText.B:(List tNodeT)×Unit→Option (ByteArray×Unit):=fun (p0,_)=>
  Option.bind (
  loopM (S:=ByteArray×Int×Unit) (fun (x3,x4,_)=>
  (bif (decide (x4<(p0.length:Int))) then
  bif (decide (0≤x4)&&decide (x4<(p0.length:Int))) then
  let e1:tNodeT:=(List.getD p0 (Int.toNat x4) tNode.z)
  Option.bind (R07_stepText.F (e1.1,e1.2.1,e1.2.2.1,e1.2.2.2.1,e1.2.2.2.2,())) fun y2=>
  bif (!decide ((((⟨#[32]⟩:ByteArray).size+y2.1.size:Nat):Int)>IntKind.i64.max)) then
  let e3:ByteArray:=((⟨#[32]⟩:ByteArray)++y2.1)
  bif (!decide (((x3.size+e3.size:Nat):Int)>IntKind.i64.max)) then
  let e4:ByteArray:=(x3++e3)
  let e5:Int:=(IntKind.i64.wrap (x4+(1:Int)))
  some (.inl (e4,e5,()))
  else none
  else none
  else none
  else
  some (.inr (.inl (x3,()))))) ((⟨#[32,91]⟩:ByteArray),(0:Int),()):Option ((ByteArray×Unit)⊕_)) fun r6=>match r6 with
  | .inl (x3_6,_)=>
  (bif (!decide (((x3_6.size+(⟨#[32,93]⟩:ByteArray).size:Nat):Int)>IntKind.i64.max)) then
  let e7:ByteArray:=(x3_6++(⟨#[32,93]⟩:ByteArray))
  some (e7,())
  else none)
  | .inr r=>some r
noncomputable def R07_exprText.F:(List tNodeT)×Unit→Option (ByteArray×Unit):=stk R07_exprText.B
theorem R07_exprText.eq:R07_exprText.F=R07_exprText.B:=stk_eq _
theorem R07_exprText.ev (x:TS R07_exprText.si):evF cR07_stepText inl0 (Tryz.f119.body.getD .skip) Tryz.f119.results.toList R07_exprText.h R07_exprText.si R07_exprText.so x=R07_exprText.B x:=by kernel_rfl
theorem R07_exprText.fn:FnOk PP 119 (Tryz.f119.body.getD .skip) Tryz.f119.results.toList Tryz.f119.ntmps:=fnOk_mk (by kernel_rfl) (by kernel_rfl) (by kernel_rfl) (by kernel_rfl)
theorem R07_exprText.ok:SpecOk PP 119 ⟨1,R07_exprText.si,R07_exprText.so,R07_exprText.F⟩:=fn_stk cxR07_stepText (inl0_ok _ _) mixed R07_exprText.fn R07_exprText.h (by kernel_rfl) R07_exprText.ev
noncomputable def spR07_exprText:List (Nat×List (Nat×AK)×Lv.Spec):=(119,[],⟨1,R07_exprText.si,R07_exprText.so,R07_exprText.F⟩)::spR07_stepText
noncomputable abbrev cR07_exprText:Cx:=⟨tabAt tab0,eqAt eqs0,specAt spR07_exprText,0,specPAt sq0⟩
theorem cxR07_exprText:CxOk PP cR07_exprText:=cxR07_stepText.consS [] R07_exprText.fn.enters R07_exprText.ok
/-! levee/leveeref07.pick -/
def R07_pick.si:Sh:=⟨[(0,.v false [.int .i64]),(1,.v false [.sl 9 .str])],[],[],0,[]⟩
def R07_pick.so:Sh:=⟨[(0,.v false [.str])],[],[],1000,[]⟩
def R07_pick.h:H:=.n
noncomputable def R07_pick.B:Int×(List ByteArray)×Unit→Option (ByteArray×Unit):=fun (p0,p1,_)=>
  (bif (decide (p0<(0:Int))) then
  some ((⟨#[33]⟩:ByteArray),())
  else
  (bif (decide (p0≥(p1.length:Int))) then
  some ((⟨#[33]⟩:ByteArray),())
  else
  bif (decide (0≤p0)&&decide (p0<(p1.length:Int))) then
  let e1:ByteArray:=(List.getD p1 (Int.toNat p0) (⟨#[]⟩:ByteArray))
  some (e1,())
  else none))
noncomputable def R07_pick.F:Int×(List ByteArray)×Unit→Option (ByteArray×Unit):=stk R07_pick.B
theorem R07_pick.eq:R07_pick.F=R07_pick.B:=stk_eq _
theorem R07_pick.ev (x:TS R07_pick.si):evF cR07_exprText inl0 (Tryz.f120.body.getD .skip) Tryz.f120.results.toList R07_pick.h R07_pick.si R07_pick.so x=R07_pick.B x:=by kernel_rfl
theorem R07_pick.fn:FnOk PP 120 (Tryz.f120.body.getD .skip) Tryz.f120.results.toList Tryz.f120.ntmps:=fnOk_mk (by kernel_rfl) (by kernel_rfl) (by kernel_rfl) (by kernel_rfl)
theorem R07_pick.ok:SpecOk PP 120 ⟨2,R07_pick.si,R07_pick.so,R07_pick.F⟩:=fn_stk cxR07_exprText (inl0_ok _ _) mixed R07_pick.fn R07_pick.h (by kernel_rfl) R07_pick.ev
noncomputable def spR07_pick:List (Nat×List (Nat×AK)×Lv.Spec):=(120,[],⟨2,R07_pick.si,R07_pick.so,R07_pick.F⟩)::spR07_exprText
noncomputable abbrev cR07_pick:Cx:=⟨tabAt tab0,eqAt eqs0,specAt spR07_pick,0,specPAt sq0⟩
theorem cxR07_pick:CxOk PP cR07_pick:=cxR07_exprText.consS [] R07_pick.fn.enters R07_pick.ok
/-! levee/leveeref07.viewText -/
def R07_viewText.si:Sh:=⟨[(0,.v true [.str,.str,.str,.int .i64,.int .i64,.sl 202 tNode,.sl 3 (.int .i64),.bool,.sl 206 tAgg])],[],[],0,[]⟩
def R07_viewText.so:Sh:=⟨[(0,.v false [.str])],[],[],1000,[]⟩
def R07_viewText.h:H:=(.s none .n (.s none .n (.s (some ⟨[(3,.v false [.str])],[],[1],0,[]⟩) .n (.s (some ⟨[(3,.v false [.str])],[],[1],0,[]⟩) .n (.s none .n (.s (some ⟨[(3,.v false [.str])],[],[1],0,[]⟩) (.s none .n (.b (.l ⟨[(3,.v false [.str]),(4,.v false [.int .i64])],[],[1],0,[]⟩ .n))) (.s (some ⟨[(3,.v false [.str])],[],[1],0,[]⟩) .n (.s none (.s none .n (.b (.l ⟨[(3,.v false [.str]),(5,.v false [.int .i64])],[],[1],0,[]⟩ (.s none .n (.s none (.b (.s (some ⟨[(3,.v false [.str])],[],[1,5],0,[]⟩) .n .n)) .n))))) .n))))))))
noncomputable def R07_viewText.B:ByteArray×ByteArray×ByteArray×Int×Int×(List tNodeT)×(List Int)×Bool×(List tAggT)×Unit→Option (ByteArray×Unit):=fun (p0_0,p0_1,p0_2,p0_3,p0_4,p0_5,p0_6,p0_7,p0_8,_)=>
  bif (!decide ((((⟨#[118,105,101,119,32]⟩:ByteArray).size+p0_0.size:Nat):Int)>IntKind.i64.max)) then
  let e1:ByteArray:=((⟨#[118,105,101,119,32]⟩:ByteArray)++p0_0)
  bif (!decide (((e1.size+(⟨#[32,102,114,111,109,32]⟩:ByteArray).size:Nat):Int)>IntKind.i64.max)) then
  let e2:ByteArray:=(e1++(⟨#[32,102,114,111,109,32]⟩:ByteArray))
  bif (!decide (((e2.size+p0_1.size:Nat):Int)>IntKind.i64.max)) then
  let e3:ByteArray:=(e2++p0_1)
  Option.bind (
  (bif (!(p0_2.toList==(⟨#[]⟩:ByteArray).toList)) then
  bif (!decide ((((⟨#[32,106,111,105,110,32]⟩:ByteArray).size+p0_2.size:Nat):Int)>IntKind.i64.max)) then
  let e4:ByteArray:=((⟨#[32,106,111,105,110,32]⟩:ByteArray)++p0_2)
  bif (!decide (((e4.size+(⟨#[32,111,110,32]⟩:ByteArray).size:Nat):Int)>IntKind.i64.max)) then
  let e5:ByteArray:=(e4++(⟨#[32,111,110,32]⟩:ByteArray))
  bif (decide (0≤(0:Int))&&decide ((0:Int)<(2:Int))) then
  Option.bind (R01_Signed.F (p0_3,())) fun y6=>
  bif (!decide (((e5.size+y6.1.size:Nat):Int)>IntKind.i64.max)) then
  let e7:ByteArray:=(e5++y6.1)
  bif (!decide (((e7.size+(⟨#[32,61,32]⟩:ByteArray).size:Nat):Int)>IntKind.i64.max)) then
  let e8:ByteArray:=(e7++(⟨#[32,61,32]⟩:ByteArray))
  bif (decide (0≤(1:Int))&&decide ((1:Int)<(2:Int))) then
  Option.bind (R01_Signed.F (p0_4,())) fun y9=>
  bif (!decide (((e8.size+y9.1.size:Nat):Int)>IntKind.i64.max)) then
  let e10:ByteArray:=(e8++y9.1)
  bif (!decide (((e3.size+e10.size:Nat):Int)>IntKind.i64.max)) then
  let e11:ByteArray:=(e3++e10)
  some (.inl (e11,()))
  else none
  else none
  else none
  else none
  else none
  else none
  else none
  else none
  else
  some (.inl (e3,()))):Option ((ByteArray×Unit)⊕_)) fun r12=>match r12 with
  | .inl (x3_12,_)=>
  (Option.bind (
  (bif (decide ((p0_5.length:Int)>(0:Int))) then
  Option.bind (R07_exprText.F (p0_5,())) fun y13=>
  bif (!decide ((((⟨#[32,119,104,101,114,101]⟩:ByteArray).size+y13.1.size:Nat):Int)>IntKind.i64.max)) then
  let e14:ByteArray:=((⟨#[32,119,104,101,114,101]⟩:ByteArray)++y13.1)
  bif (!decide (((x3_12.size+e14.size:Nat):Int)>IntKind.i64.max)) then
  let e15:ByteArray:=(x3_12++e14)
  some (.inl (e15,()))
  else none
  else none
  else
  some (.inl (x3_12,()))):Option ((ByteArray×Unit)⊕_)) fun r16=>match r16 with
  | .inl (x3_16,_)=>
  (bif (!decide (((x3_16.size+(⟨#[32,112,105,99,107]⟩:ByteArray).size:Nat):Int)>IntKind.i64.max)) then
  let e17:ByteArray:=(x3_16++(⟨#[32,112,105,99,107]⟩:ByteArray))
  Option.bind (
  loopM (S:=ByteArray×Int×Unit) (fun (x3,x4,_)=>
  (bif (decide (x4<(p0_6.length:Int))) then
  (bif (decide (x4>(0:Int))) then
  bif (!decide (((x3.size+(⟨#[32,44]⟩:ByteArray).size:Nat):Int)>IntKind.i64.max)) then
  let e18:ByteArray:=(x3++(⟨#[32,44]⟩:ByteArray))
  bif (decide (0≤x4)&&decide (x4<(p0_6.length:Int))) then
  let e19:Int:=(List.getD p0_6 (Int.toNat x4) (0:Int))
  Option.bind (R01_Signed.F (e19,())) fun y20=>
  bif (!decide ((((⟨#[32]⟩:ByteArray).size+y20.1.size:Nat):Int)>IntKind.i64.max)) then
  let e21:ByteArray:=((⟨#[32]⟩:ByteArray)++y20.1)
  bif (!decide (((e18.size+e21.size:Nat):Int)>IntKind.i64.max)) then
  let e22:ByteArray:=(e18++e21)
  let e23:Int:=(IntKind.i64.wrap (x4+(1:Int)))
  some (.inl (e22,e23,()))
  else none
  else none
  else none
  else none
  else
  bif (decide (0≤x4)&&decide (x4<(p0_6.length:Int))) then
  let e24:Int:=(List.getD p0_6 (Int.toNat x4) (0:Int))
  Option.bind (R01_Signed.F (e24,())) fun y25=>
  bif (!decide ((((⟨#[32]⟩:ByteArray).size+y25.1.size:Nat):Int)>IntKind.i64.max)) then
  let e26:ByteArray:=((⟨#[32]⟩:ByteArray)++y25.1)
  bif (!decide (((x3.size+e26.size:Nat):Int)>IntKind.i64.max)) then
  let e27:ByteArray:=(x3++e26)
  let e28:Int:=(IntKind.i64.wrap (x4+(1:Int)))
  some (.inl (e27,e28,()))
  else none
  else none
  else none)
  else
  some (.inr (.inl (x3,()))))) (e17,(0:Int),()):Option ((ByteArray×Unit)⊕_)) fun r29=>match r29 with
  | .inl (x3_29,_)=>
  (Option.bind (
  (bif p0_7 then
  bif (!decide (((x3_29.size+(⟨#[32,103,114,111,117,112]⟩:ByteArray).size:Nat):Int)>IntKind.i64.max)) then
  let e30:ByteArray:=(x3_29++(⟨#[32,103,114,111,117,112]⟩:ByteArray))
  some (.inl (e30,()))
  else none
  else
  some (.inl (x3_29,()))):Option ((ByteArray×Unit)⊕_)) fun r31=>match r31 with
  | .inl (x3_31,_)=>
  (loopM (S:=ByteArray×Int×Unit) (fun (x3,x5,_)=>
  (bif (decide (x5<(p0_8.length:Int))) then
  Option.bind (
  (bif (decide (x5>(0:Int))) then
  bif (!decide (((x3.size+(⟨#[32,44]⟩:ByteArray).size:Nat):Int)>IntKind.i64.max)) then
  let e32:ByteArray:=(x3++(⟨#[32,44]⟩:ByteArray))
  some (.inl (e32,()))
  else none
  else
  some (.inl (x3,()))):Option ((ByteArray×Unit)⊕_)) fun r33=>match r33 with
  | .inl (x3_33,_)=>
  (bif (decide (0≤x5)&&decide (x5<(p0_8.length:Int))) then
  let e34:tAggT:=(List.getD p0_8 (Int.toNat x5) tAgg.z)
  Option.bind (R07_pick.F (e34.1,[(⟨#[99,111,117,110,116]⟩:ByteArray),(⟨#[115,117,109]⟩:ByteArray),(⟨#[109,105,110]⟩:ByteArray),(⟨#[109,97,120]⟩:ByteArray)],())) fun y35=>
  bif (!decide ((((⟨#[32]⟩:ByteArray).size+y35.1.size:Nat):Int)>IntKind.i64.max)) then
  let e36:ByteArray:=((⟨#[32]⟩:ByteArray)++y35.1)
  bif (!decide (((x3_33.size+e36.size:Nat):Int)>IntKind.i64.max)) then
  let e37:ByteArray:=(x3_33++e36)
  bif (decide (0≤x5)&&decide (x5<(p0_8.length:Int))) then
  let e38:tAggT:=(List.getD p0_8 (Int.toNat x5) tAgg.z)
  (bif (e38.1 !=(0:Int)) then
  bif (decide (0≤x5)&&decide (x5<(p0_8.length:Int))) then
  let e39:tAggT:=(List.getD p0_8 (Int.toNat x5) tAgg.z)
  Option.bind (R01_Signed.F (e39.2,())) fun y40=>
  bif (!decide ((((⟨#[32]⟩:ByteArray).size+y40.1.size:Nat):Int)>IntKind.i64.max)) then
  let e41:ByteArray:=((⟨#[32]⟩:ByteArray)++y40.1)
  bif (!decide (((e37.size+e41.size:Nat):Int)>IntKind.i64.max)) then
  let e42:ByteArray:=(e37++e41)
  let e43:Int:=(IntKind.i64.wrap (x5+(1:Int)))
  some (.inl (e42,e43,()))
  else none
  else none
  else none
  else
  let e44:Int:=(IntKind.i64.wrap (x5+(1:Int)))
  some (.inl (e37,e44,())))
  else none
  else none
  else none
  else none)
  | .inr r=>some r
  else
  some (.inr (x3,())))) (x3_31,(0:Int),()))
  | .inr r=>some r)
  | .inr r=>some r
  else none)
  | .inr r=>some r)
  | .inr r=>some r
  else none
  else none
  else none
noncomputable def R07_viewText.F:ByteArray×ByteArray×ByteArray×Int×Int×(List tNodeT)×(List Int)×Bool×(List tAggT)×Unit→Option (ByteArray×Unit):=stk R07_viewText.B
theorem R07_viewText.eq:R07_viewText.F=R07_viewText.B:=stk_eq _
theorem R07_viewText.ev (x:TS R07_viewText.si):evF cR07_pick inl0 (Tryz.f84.body.getD .skip) Tryz.f84.results.toList R07_viewText.h R07_viewText.si R07_viewText.so x=R07_viewText.B x:=by kernel_rfl
theorem R07_viewText.fn:FnOk PP 84 (Tryz.f84.body.getD .skip) Tryz.f84.results.toList Tryz.f84.ntmps:=fnOk_mk (by kernel_rfl) (by kernel_rfl) (by kernel_rfl) (by kernel_rfl)
theorem R07_viewText.ok:SpecOk PP 84 ⟨1,R07_viewText.si,R07_viewText.so,R07_viewText.F⟩:=fn_stk cxR07_pick (inl0_ok _ _) mixed R07_viewText.fn R07_viewText.h (by kernel_rfl) R07_viewText.ev
noncomputable def spR07_viewText:List (Nat×List (Nat×AK)×Lv.Spec):=(84,[],⟨1,R07_viewText.si,R07_viewText.so,R07_viewText.F⟩)::spR07_pick
noncomputable abbrev cR07_viewText:Cx:=⟨tabAt tab0,eqAt eqs0,specAt spR07_viewText,0,specPAt sq0⟩
theorem cxR07_viewText:CxOk PP cR07_viewText:=cxR07_pick.consS [] R07_viewText.fn.enters R07_viewText.ok
/-! levee/leveeref07.tableText -/
def R07_tableText.si:Sh:=⟨[(0,.v true [.str,.sl 97 tColumn,.sl 104 (.sl 202 tNode)])],[],[],0,[]⟩
def R07_tableText.so:Sh:=⟨[(0,.v false [.str])],[],[],1000,[]⟩
def R07_tableText.h:H:=(.s none .n (.s none .n (.s (some ⟨[(3,.v false [.str])],[],[1],0,[]⟩) (.s none .n (.b (.l ⟨[(3,.v false [.str]),(4,.v false [.int .i64])],[],[1],0,[]⟩ (.s none .n (.s none (.b (.s none .n (.s (some ⟨[(3,.v false [.str])],[],[1,4,5],0,[]⟩) .n (.s none .n (.s (some ⟨[(3,.v false [.str])],[],[1,4,5],0,[]⟩) .n (.s (some ⟨[(3,.v false [.str])],[],[1,4,5],0,[]⟩) .n .n)))))) .n))))) (.s none .n (.s none (.s none .n (.b (.l ⟨[(3,.v false [.str]),(6,.v false [.int .i64])],[],[1],0,[]⟩ .n))) .n)))))
noncomputable def R07_tableText.B:ByteArray×(List tColumnT)×(List (List tNodeT))×Unit→Option (ByteArray×Unit):=fun (p0_0,p0_1,p0_2,_)=>
  bif (!decide ((((⟨#[116,97,98,108,101,32]⟩:ByteArray).size+p0_0.size:Nat):Int)>IntKind.i64.max)) then
  let e1:ByteArray:=((⟨#[116,97,98,108,101,32]⟩:ByteArray)++p0_0)
  bif (!decide (((e1.size+(⟨#[32,40]⟩:ByteArray).size:Nat):Int)>IntKind.i64.max)) then
  let e2:ByteArray:=(e1++(⟨#[32,40]⟩:ByteArray))
  Option.bind (
  loopM (S:=ByteArray×Int×Unit) (fun (x3,x4,_)=>
  (bif (decide (x4<(p0_1.length:Int))) then
  bif (decide (0≤x4)&&decide (x4<(p0_1.length:Int))) then
  let e3:tColumnT:=(List.getD p0_1 (Int.toNat x4) tColumn.z)
  Option.bind (
  (bif (decide (x4>(0:Int))) then
  bif (!decide (((x3.size+(⟨#[32,44]⟩:ByteArray).size:Nat):Int)>IntKind.i64.max)) then
  let e4:ByteArray:=(x3++(⟨#[32,44]⟩:ByteArray))
  some (.inl (e4,()))
  else none
  else
  some (.inl (x3,()))):Option ((ByteArray×Unit)⊕_)) fun r5=>match r5 with
  | .inl (x3_5,_)=>
  (bif (!decide ((((⟨#[32]⟩:ByteArray).size+e3.1.size:Nat):Int)>IntKind.i64.max)) then
  let e6:ByteArray:=((⟨#[32]⟩:ByteArray)++e3.1)
  bif (!decide (((e6.size+(⟨#[32]⟩:ByteArray).size:Nat):Int)>IntKind.i64.max)) then
  let e7:ByteArray:=(e6++(⟨#[32]⟩:ByteArray))
  let e8:Int:=(IntKind.i64.wrap (e3.2.1-(1:Int)))
  Option.bind (R07_pick.F (e8,[(⟨#[98,111,111,108]⟩:ByteArray),(⟨#[105,110,116]⟩:ByteArray),(⟨#[116,101,120,116]⟩:ByteArray)],())) fun y9=>
  bif (!decide (((e7.size+y9.1.size:Nat):Int)>IntKind.i64.max)) then
  let e10:ByteArray:=(e7++y9.1)
  bif (!decide (((x3_5.size+e10.size:Nat):Int)>IntKind.i64.max)) then
  let e11:ByteArray:=(x3_5++e10)
  Option.bind (
  (bif e3.2.2.1 then
  bif (!decide (((e11.size+(⟨#[32,110,117,108,108]⟩:ByteArray).size:Nat):Int)>IntKind.i64.max)) then
  let e12:ByteArray:=(e11++(⟨#[32,110,117,108,108]⟩:ByteArray))
  some (.inl (e12,()))
  else none
  else
  some (.inl (e11,()))):Option ((ByteArray×Unit)⊕_)) fun r13=>match r13 with
  | .inl (x3_13,_)=>
  (Option.bind (
  (bif e3.2.2.2.1 then
  bif (!decide (((x3_13.size+(⟨#[32,117,110,105,113,117,101]⟩:ByteArray).size:Nat):Int)>IntKind.i64.max)) then
  let e14:ByteArray:=(x3_13++(⟨#[32,117,110,105,113,117,101]⟩:ByteArray))
  some (.inl (e14,()))
  else none
  else
  some (.inl (x3_13,()))):Option ((ByteArray×Unit)⊕_)) fun r15=>match r15 with
  | .inl (x3_15,_)=>
  ((bif (!(e3.2.2.2.2.1.toList==(⟨#[]⟩:ByteArray).toList)) then
  bif (!decide ((((⟨#[32,114,101,102,32]⟩:ByteArray).size+e3.2.2.2.2.1.size:Nat):Int)>IntKind.i64.max)) then
  let e16:ByteArray:=((⟨#[32,114,101,102,32]⟩:ByteArray)++e3.2.2.2.2.1)
  bif (!decide (((e16.size+(⟨#[32]⟩:ByteArray).size:Nat):Int)>IntKind.i64.max)) then
  let e17:ByteArray:=(e16++(⟨#[32]⟩:ByteArray))
  Option.bind (R07_pick.F (e3.2.2.2.2.2,[(⟨#[114,101,115,116,114,105,99,116]⟩:ByteArray),(⟨#[99,97,115,99,97,100,101]⟩:ByteArray),(⟨#[115,101,116,110,117,108,108]⟩:ByteArray)],())) fun y18=>
  bif (!decide (((e17.size+y18.1.size:Nat):Int)>IntKind.i64.max)) then
  let e19:ByteArray:=(e17++y18.1)
  bif (!decide (((x3_15.size+e19.size:Nat):Int)>IntKind.i64.max)) then
  let e20:ByteArray:=(x3_15++e19)
  let e21:Int:=(IntKind.i64.wrap (x4+(1:Int)))
  some (.inl (e20,e21,()))
  else none
  else none
  else none
  else none
  else
  let e22:Int:=(IntKind.i64.wrap (x4+(1:Int)))
  some (.inl (x3_15,e22,()))))
  | .inr r=>some r)
  | .inr r=>some r
  else none
  else none
  else none
  else none)
  | .inr r=>some r
  else none
  else
  some (.inr (.inl (x3,()))))) (e2,(0:Int),()):Option ((ByteArray×Unit)⊕_)) fun r23=>match r23 with
  | .inl (x3_23,_)=>
  (bif (!decide (((x3_23.size+(⟨#[32,41]⟩:ByteArray).size:Nat):Int)>IntKind.i64.max)) then
  let e24:ByteArray:=(x3_23++(⟨#[32,41]⟩:ByteArray))
  loopM (S:=ByteArray×Int×Unit) (fun (x3,x6,_)=>
  (bif (decide (x6<(p0_2.length:Int))) then
  bif (decide (0≤x6)&&decide (x6<(p0_2.length:Int))) then
  let e25:(List tNodeT):=(List.getD p0_2 (Int.toNat x6) [])
  Option.bind (R07_exprText.F (e25,())) fun y26=>
  bif (!decide ((((⟨#[32,99,104,101,99,107]⟩:ByteArray).size+y26.1.size:Nat):Int)>IntKind.i64.max)) then
  let e27:ByteArray:=((⟨#[32,99,104,101,99,107]⟩:ByteArray)++y26.1)
  bif (!decide (((x3.size+e27.size:Nat):Int)>IntKind.i64.max)) then
  let e28:ByteArray:=(x3++e27)
  let e29:Int:=(IntKind.i64.wrap (x6+(1:Int)))
  some (.inl (e28,e29,()))
  else none
  else none
  else none
  else
  some (.inr (x3,())))) (e24,(0:Int),())
  else none)
  | .inr r=>some r
  else none
  else none
noncomputable def R07_tableText.F:ByteArray×(List tColumnT)×(List (List tNodeT))×Unit→Option (ByteArray×Unit):=stk R07_tableText.B
theorem R07_tableText.eq:R07_tableText.F=R07_tableText.B:=stk_eq _
theorem R07_tableText.ev (x:TS R07_tableText.si):evF cR07_viewText inl0 (Tryz.f85.body.getD .skip) Tryz.f85.results.toList R07_tableText.h R07_tableText.si R07_tableText.so x=R07_tableText.B x:=by kernel_rfl
theorem R07_tableText.fn:FnOk PP 85 (Tryz.f85.body.getD .skip) Tryz.f85.results.toList Tryz.f85.ntmps:=fnOk_mk (by kernel_rfl) (by kernel_rfl) (by kernel_rfl) (by kernel_rfl)
theorem R07_tableText.ok:SpecOk PP 85 ⟨1,R07_tableText.si,R07_tableText.so,R07_tableText.F⟩:=fn_stk cxR07_viewText (inl0_ok _ _) mixed R07_tableText.fn R07_tableText.h (by kernel_rfl) R07_tableText.ev
noncomputable def spR07_tableText:List (Nat×List (Nat×AK)×Lv.Spec):=(85,[],⟨1,R07_tableText.si,R07_tableText.so,R07_tableText.F⟩)::spR07_viewText
noncomputable abbrev cR07_tableText:Cx:=⟨tabAt tab0,eqAt eqs0,specAt spR07_tableText,0,specPAt sq0⟩
theorem cxR07_tableText:CxOk PP cR07_tableText:=cxR07_viewText.consS [] R07_tableText.fn.enters R07_tableText.ok
/-! levee/leveeref06.Sign -/
def R06_Sign.si:Sh:=⟨[(0,.v false [.int .u8])],[],[],0,[]⟩
def R06_Sign.so:Sh:=⟨[(0,.v false [.bool])],[],[],1000,[]⟩
def R06_Sign.h:H:=(.s none .n (.s none .n (.s none (.s none .n (.b (.l ⟨[(4,.v false [.int .i64])],[],[0,3],0,[]⟩ .n))) .n)))
noncomputable def R06_Sign.B:Int×Unit→Option (Bool×Unit):=fun (p0,_)=>
  loopM (S:=Int×Unit) (fun (x4,_)=>
  (bif (decide (x4<((⟨#[40,41,91,93,44,61,60,43,45,42,63]⟩:ByteArray).size:Int))) then
  bif (decide (0≤x4)&&decide (x4<((⟨#[40,41,91,93,44,61,60,43,45,42,63]⟩:ByteArray).size:Int))) then
  let e1:Int:=(byteAt (⟨#[40,41,91,93,44,61,60,43,45,42,63]⟩:ByteArray) (Int.toNat x4))
  (bif (e1==p0) then
  some (.inr (true,()))
  else
  let e2:Int:=(IntKind.i64.wrap (x4+(1:Int)))
  some (.inl (e2,())))
  else none
  else
  some (.inr (false,())))) ((0:Int),())
noncomputable def R06_Sign.F:Int×Unit→Option (Bool×Unit):=stk R06_Sign.B
theorem R06_Sign.eq:R06_Sign.F=R06_Sign.B:=stk_eq _
theorem R06_Sign.ev (x:TS R06_Sign.si):evF cR07_tableText inl0 (Tryz.f145.body.getD .skip) Tryz.f145.results.toList R06_Sign.h R06_Sign.si R06_Sign.so x=R06_Sign.B x:=by kernel_rfl
theorem R06_Sign.fn:FnOk PP 145 (Tryz.f145.body.getD .skip) Tryz.f145.results.toList Tryz.f145.ntmps:=fnOk_mk (by kernel_rfl) (by kernel_rfl) (by kernel_rfl) (by kernel_rfl)
theorem R06_Sign.ok:SpecOk PP 145 ⟨1,R06_Sign.si,R06_Sign.so,R06_Sign.F⟩:=fn_stk cxR07_tableText (inl0_ok _ _) mixed R06_Sign.fn R06_Sign.h (by kernel_rfl) R06_Sign.ev
noncomputable def spR06_Sign:List (Nat×List (Nat×AK)×Lv.Spec):=(145,[],⟨1,R06_Sign.si,R06_Sign.so,R06_Sign.F⟩)::spR07_tableText
noncomputable abbrev cR06_Sign:Cx:=⟨tabAt tab0,eqAt eqs0,specAt spR06_Sign,0,specPAt sq0⟩
theorem cxR06_Sign:CxOk PP cR06_Sign:=cxR07_tableText.consS [] R06_Sign.fn.enters R06_Sign.ok
/-! levee/leveeref06.Letter -/
def R06_Letter.si:Sh:=⟨[(0,.v false [.int .u8])],[],[],0,[]⟩
def R06_Letter.so:Sh:=⟨[(0,.v false [.bool])],[],[],1000,[]⟩
def R06_Letter.h:H:=.n
noncomputable def R06_Letter.B:Int×Unit→Option (Bool×Unit):=fun (p0,_)=>
  (bif (decide (p0≥(97:Int))) then
  some ((decide (p0≤(122:Int))),())
  else
  some (false,()))
noncomputable def R06_Letter.F:Int×Unit→Option (Bool×Unit):=stk R06_Letter.B
theorem R06_Letter.eq:R06_Letter.F=R06_Letter.B:=stk_eq _
theorem R06_Letter.ev (x:TS R06_Letter.si):evF cR06_Sign inl0 (Tryz.f146.body.getD .skip) Tryz.f146.results.toList R06_Letter.h R06_Letter.si R06_Letter.so x=R06_Letter.B x:=by kernel_rfl
theorem R06_Letter.fn:FnOk PP 146 (Tryz.f146.body.getD .skip) Tryz.f146.results.toList Tryz.f146.ntmps:=fnOk_mk (by kernel_rfl) (by kernel_rfl) (by kernel_rfl) (by kernel_rfl)
theorem R06_Letter.ok:SpecOk PP 146 ⟨1,R06_Letter.si,R06_Letter.so,R06_Letter.F⟩:=fn_stk cxR06_Sign (inl0_ok _ _) mixed R06_Letter.fn R06_Letter.h (by kernel_rfl) R06_Letter.ev
noncomputable def spR06_Letter:List (Nat×List (Nat×AK)×Lv.Spec):=(146,[],⟨1,R06_Letter.si,R06_Letter.so,R06_Letter.F⟩)::spR06_Sign
noncomputable abbrev cR06_Letter:Cx:=⟨tabAt tab0,eqAt eqs0,specAt spR06_Letter,0,specPAt sq0⟩
theorem cxR06_Letter:CxOk PP cR06_Letter:=cxR06_Sign.consS [] R06_Letter.fn.enters R06_Letter.ok
/-! levee/leveeref06.Digit -/
def R06_Digit.si:Sh:=⟨[(0,.v false [.int .u8])],[],[],0,[]⟩
def R06_Digit.so:Sh:=⟨[(0,.v false [.bool])],[],[],1000,[]⟩
def R06_Digit.h:H:=.n
noncomputable def R06_Digit.B:Int×Unit→Option (Bool×Unit):=fun (p0,_)=>
  (bif (decide (p0≥(48:Int))) then
  some ((decide (p0≤(57:Int))),())
  else
  some (false,()))
noncomputable def R06_Digit.F:Int×Unit→Option (Bool×Unit):=stk R06_Digit.B
theorem R06_Digit.eq:R06_Digit.F=R06_Digit.B:=stk_eq _
theorem R06_Digit.ev (x:TS R06_Digit.si):evF cR06_Letter inl0 (Tryz.f149.body.getD .skip) Tryz.f149.results.toList R06_Digit.h R06_Digit.si R06_Digit.so x=R06_Digit.B x:=by kernel_rfl
theorem R06_Digit.fn:FnOk PP 149 (Tryz.f149.body.getD .skip) Tryz.f149.results.toList Tryz.f149.ntmps:=fnOk_mk (by kernel_rfl) (by kernel_rfl) (by kernel_rfl) (by kernel_rfl)
theorem R06_Digit.ok:SpecOk PP 149 ⟨1,R06_Digit.si,R06_Digit.so,R06_Digit.F⟩:=fn_stk cxR06_Letter (inl0_ok _ _) mixed R06_Digit.fn R06_Digit.h (by kernel_rfl) R06_Digit.ev
noncomputable def spR06_Digit:List (Nat×List (Nat×AK)×Lv.Spec):=(149,[],⟨1,R06_Digit.si,R06_Digit.so,R06_Digit.F⟩)::spR06_Letter
noncomputable abbrev cR06_Digit:Cx:=⟨tabAt tab0,eqAt eqs0,specAt spR06_Digit,0,specPAt sq0⟩
theorem cxR06_Digit:CxOk PP cR06_Digit:=cxR06_Letter.consS [] R06_Digit.fn.enters R06_Digit.ok
/-! levee/leveeref06.Inner -/
def R06_Inner.si:Sh:=⟨[(0,.v false [.int .u8])],[],[],0,[]⟩
def R06_Inner.so:Sh:=⟨[(0,.v false [.bool])],[],[],1000,[]⟩
def R06_Inner.h:H:=.n
noncomputable def R06_Inner.B:Int×Unit→Option (Bool×Unit):=fun (p0,_)=>
  Option.bind (R06_Letter.F (p0,())) fun y1=>
  (bif y1.1 then
  some (true,())
  else
  Option.bind (R06_Digit.F (p0,())) fun y2=>
  (bif y2.1 then
  some (true,())
  else
  some ((p0==(95:Int)),())))
noncomputable def R06_Inner.F:Int×Unit→Option (Bool×Unit):=stk R06_Inner.B
theorem R06_Inner.eq:R06_Inner.F=R06_Inner.B:=stk_eq _
theorem R06_Inner.ev (x:TS R06_Inner.si):evF cR06_Digit inl0 (Tryz.f147.body.getD .skip) Tryz.f147.results.toList R06_Inner.h R06_Inner.si R06_Inner.so x=R06_Inner.B x:=by kernel_rfl
theorem R06_Inner.fn:FnOk PP 147 (Tryz.f147.body.getD .skip) Tryz.f147.results.toList Tryz.f147.ntmps:=fnOk_mk (by kernel_rfl) (by kernel_rfl) (by kernel_rfl) (by kernel_rfl)
theorem R06_Inner.ok:SpecOk PP 147 ⟨1,R06_Inner.si,R06_Inner.so,R06_Inner.F⟩:=fn_stk cxR06_Digit (inl0_ok _ _) mixed R06_Inner.fn R06_Inner.h (by kernel_rfl) R06_Inner.ev
noncomputable def spR06_Inner:List (Nat×List (Nat×AK)×Lv.Spec):=(147,[],⟨1,R06_Inner.si,R06_Inner.so,R06_Inner.F⟩)::spR06_Digit
noncomputable abbrev cR06_Inner:Cx:=⟨tabAt tab0,eqAt eqs0,specAt spR06_Inner,0,specPAt sq0⟩
theorem cxR06_Inner:CxOk PP cR06_Inner:=cxR06_Digit.consS [] R06_Inner.fn.enters R06_Inner.ok
/-! levee/leveeref06.Word -/
def R06_Word.si:Sh:=⟨[(0,.v false [.str])],[],[],0,[]⟩
def R06_Word.so:Sh:=⟨[(0,.v false [.bool])],[],[],1000,[]⟩
def R06_Word.h:H:=(.s none .n (.s (some ⟨[],[],[0],0,[]⟩) (.s none .n (.b (.l ⟨[(3,.v false [.int .i64])],[],[0],0,[]⟩ .n))) .n))
noncomputable def R06_Word.B:ByteArray×Unit→Option (Bool×Unit):=fun (p0,_)=>
  Option.bind (
  loopM (S:=Int×Unit) (fun (x3,_)=>
  (bif (decide (x3<(p0.size:Int))) then
  bif (decide (0≤x3)&&decide (x3<(p0.size:Int))) then
  let e1:Int:=(byteAt p0 (Int.toNat x3))
  Option.bind (R06_Inner.F (e1,())) fun y2=>
  (bif (!y2.1) then
  some (.inr (.inr (false,())))
  else
  let e3:Int:=(IntKind.i64.wrap (x3+(1:Int)))
  some (.inl (e3,())))
  else none
  else
  some (.inr (.inl (()))))) ((0:Int),()):Option ((Unit)⊕_)) fun r4=>match r4 with
  | .inl (_)=>
  ((bif (decide ((p0.size:Int)≥(1:Int))) then
  (bif (decide ((p0.size:Int)≤(30:Int))) then
  bif (decide (0≤(0:Int))&&decide ((0:Int)<(p0.size:Int))) then
  let e5:Int:=(byteAt p0 0)
  Option.bind (R06_Letter.F (e5,())) fun y6=>
  some (y6.1,())
  else none
  else
  some (false,()))
  else
  some (false,())))
  | .inr r=>some r
noncomputable def R06_Word.F:ByteArray×Unit→Option (Bool×Unit):=stk R06_Word.B
theorem R06_Word.eq:R06_Word.F=R06_Word.B:=stk_eq _
theorem R06_Word.ev (x:TS R06_Word.si):evF cR06_Inner inl0 (Tryz.f148.body.getD .skip) Tryz.f148.results.toList R06_Word.h R06_Word.si R06_Word.so x=R06_Word.B x:=by kernel_rfl
theorem R06_Word.fn:FnOk PP 148 (Tryz.f148.body.getD .skip) Tryz.f148.results.toList Tryz.f148.ntmps:=fnOk_mk (by kernel_rfl) (by kernel_rfl) (by kernel_rfl) (by kernel_rfl)
theorem R06_Word.ok:SpecOk PP 148 ⟨1,R06_Word.si,R06_Word.so,R06_Word.F⟩:=fn_stk cxR06_Inner (inl0_ok _ _) mixed R06_Word.fn R06_Word.h (by kernel_rfl) R06_Word.ev
noncomputable def spR06_Word:List (Nat×List (Nat×AK)×Lv.Spec):=(148,[],⟨1,R06_Word.si,R06_Word.so,R06_Word.F⟩)::spR06_Inner
noncomputable abbrev cR06_Word:Cx:=⟨tabAt tab0,eqAt eqs0,specAt spR06_Word,0,specPAt sq0⟩
theorem cxR06_Word:CxOk PP cR06_Word:=cxR06_Inner.consS [] R06_Word.fn.enters R06_Word.ok
/-! levee/leveeref01.Nulls -/
def R01_Nulls.si:Sh:=⟨[(0,.v true [.int .i64,.int .i64,.str]),(1,.v true [.int .i64,.int .i64,.str])],[],[],0,[]⟩
def R01_Nulls.so:Sh:=⟨[(0,.v false [.bool])],[],[],1000,[]⟩
def R01_Nulls.h:H:=.n
noncomputable def R01_Nulls.B:Int×Int×ByteArray×Int×Int×ByteArray×Unit→Option (Bool×Unit):=fun (p0_0,p0_1,p0_2,p1_0,p1_1,p1_2,_)=>
  (bif (p0_0==(0:Int)) then
  some (true,())
  else
  some ((p1_0==(0:Int)),()))
noncomputable def R01_Nulls.F:Int×Int×ByteArray×Int×Int×ByteArray×Unit→Option (Bool×Unit):=stk R01_Nulls.B
theorem R01_Nulls.eq:R01_Nulls.F=R01_Nulls.B:=stk_eq _
theorem R01_Nulls.ev (x:TS R01_Nulls.si):evF cR06_Word inl0 (Tryz.f189.body.getD .skip) Tryz.f189.results.toList R01_Nulls.h R01_Nulls.si R01_Nulls.so x=R01_Nulls.B x:=by kernel_rfl
theorem R01_Nulls.fn:FnOk PP 189 (Tryz.f189.body.getD .skip) Tryz.f189.results.toList Tryz.f189.ntmps:=fnOk_mk (by kernel_rfl) (by kernel_rfl) (by kernel_rfl) (by kernel_rfl)
theorem R01_Nulls.ok:SpecOk PP 189 ⟨2,R01_Nulls.si,R01_Nulls.so,R01_Nulls.F⟩:=fn_stk cxR06_Word (inl0_ok _ _) mixed R01_Nulls.fn R01_Nulls.h (by kernel_rfl) R01_Nulls.ev
noncomputable def spR01_Nulls:List (Nat×List (Nat×AK)×Lv.Spec):=(189,[],⟨2,R01_Nulls.si,R01_Nulls.so,R01_Nulls.F⟩)::spR06_Word
noncomputable abbrev cR01_Nulls:Cx:=⟨tabAt tab0,eqAt eqs0,specAt spR01_Nulls,0,specPAt sq0⟩
theorem cxR01_Nulls:CxOk PP cR01_Nulls:=cxR06_Word.consS [] R01_Nulls.fn.enters R01_Nulls.ok
/-! levee/leveeref01.Ints -/
def R01_Ints.si:Sh:=⟨[(0,.v true [.int .i64,.int .i64,.str]),(1,.v true [.int .i64,.int .i64,.str])],[],[],0,[]⟩
def R01_Ints.so:Sh:=⟨[(0,.v false [.bool])],[],[],1000,[]⟩
def R01_Ints.h:H:=.n
noncomputable def R01_Ints.B:Int×Int×ByteArray×Int×Int×ByteArray×Unit→Option (Bool×Unit):=fun (p0_0,p0_1,p0_2,p1_0,p1_1,p1_2,_)=>
  (bif (p0_0==(2:Int)) then
  some ((p1_0==(2:Int)),())
  else
  some (false,()))
noncomputable def R01_Ints.F:Int×Int×ByteArray×Int×Int×ByteArray×Unit→Option (Bool×Unit):=stk R01_Ints.B
theorem R01_Ints.eq:R01_Ints.F=R01_Ints.B:=stk_eq _
theorem R01_Ints.ev (x:TS R01_Ints.si):evF cR01_Nulls inl0 (Tryz.f190.body.getD .skip) Tryz.f190.results.toList R01_Ints.h R01_Ints.si R01_Ints.so x=R01_Ints.B x:=by kernel_rfl
theorem R01_Ints.fn:FnOk PP 190 (Tryz.f190.body.getD .skip) Tryz.f190.results.toList Tryz.f190.ntmps:=fnOk_mk (by kernel_rfl) (by kernel_rfl) (by kernel_rfl) (by kernel_rfl)
theorem R01_Ints.ok:SpecOk PP 190 ⟨2,R01_Ints.si,R01_Ints.so,R01_Ints.F⟩:=fn_stk cxR01_Nulls (inl0_ok _ _) mixed R01_Ints.fn R01_Ints.h (by kernel_rfl) R01_Ints.ev
noncomputable def spR01_Ints:List (Nat×List (Nat×AK)×Lv.Spec):=(190,[],⟨2,R01_Ints.si,R01_Ints.so,R01_Ints.F⟩)::spR01_Nulls
noncomputable abbrev cR01_Ints:Cx:=⟨tabAt tab0,eqAt eqs0,specAt spR01_Ints,0,specPAt sq0⟩
theorem cxR01_Ints:CxOk PP cR01_Ints:=cxR01_Nulls.consS [] R01_Ints.fn.enters R01_Ints.ok
/-! levee/leveeref01.Least -/
def R01_Least.si:Sh:=⟨[],[],[],0,[]⟩
def R01_Least.so:Sh:=⟨[(0,.v false [.int .i64])],[],[],1000,[]⟩
def R01_Least.h:H:=.n
noncomputable def R01_Least.B:Unit→Option (Int×Unit):=fun (_)=>
  some ((-9223372036854775808:Int),())
noncomputable def R01_Least.F:Unit→Option (Int×Unit):=stk R01_Least.B
theorem R01_Least.eq:R01_Least.F=R01_Least.B:=stk_eq _
theorem R01_Least.ev (x:TS R01_Least.si):evF cR01_Ints inl0 (Tryz.f191.body.getD .skip) Tryz.f191.results.toList R01_Least.h R01_Least.si R01_Least.so x=R01_Least.B x:=by kernel_rfl
theorem R01_Least.fn:FnOk PP 191 (Tryz.f191.body.getD .skip) Tryz.f191.results.toList Tryz.f191.ntmps:=fnOk_mk (by kernel_rfl) (by kernel_rfl) (by kernel_rfl) (by kernel_rfl)
theorem R01_Least.ok:SpecOk PP 191 ⟨0,R01_Least.si,R01_Least.so,R01_Least.F⟩:=fn_stk cxR01_Ints (inl0_ok _ _) mixed R01_Least.fn R01_Least.h (by kernel_rfl) R01_Least.ev
noncomputable def spR01_Least:List (Nat×List (Nat×AK)×Lv.Spec):=(191,[],⟨0,R01_Least.si,R01_Least.so,R01_Least.F⟩)::spR01_Ints
noncomputable abbrev cR01_Least:Cx:=⟨tabAt tab0,eqAt eqs0,specAt spR01_Least,0,specPAt sq0⟩
theorem cxR01_Least:CxOk PP cR01_Least:=cxR01_Ints.consS [] R01_Least.fn.enters R01_Least.ok
/-! levee/leveeref01.Mul -/
def R01_Mul.si:Sh:=⟨[(0,.v true [.int .i64,.int .i64,.str]),(1,.v true [.int .i64,.int .i64,.str])],[],[],0,[]⟩
def R01_Mul.so:Sh:=⟨[(0,.tup [(true,[.int .i64,.int .i64,.str]),(false,[.bool])])],[],[],1000,[]⟩
def R01_Mul.h:H:=(.s none .n (.s none .n (.s none .n (.s (some ⟨[],[],[2,3,4],0,[]⟩) .n (.s none (.s (some ⟨[(44,.v false [.bool])],[],[2,3,4],0,[]⟩) .n .n) .n)))))
noncomputable def R01_Mul.B:Int×Int×ByteArray×Int×Int×ByteArray×Unit→Option (Int×Int×ByteArray×Bool×Unit):=fun (p0_0,p0_1,p0_2,p1_0,p1_1,p1_2,_)=>
  Option.bind (R01_Nulls.F (p0_0,p0_1,p0_2,p1_0,p1_1,p1_2,())) fun y1=>
  (bif y1.1 then
  some ((0:Int),(0:Int),(⟨#[]⟩:ByteArray),true,())
  else
  Option.bind (R01_Ints.F (p0_0,p0_1,p0_2,p1_0,p1_1,p1_2,())) fun y2=>
  (bif (!y2.1) then
  some ((0:Int),(0:Int),(⟨#[]⟩:ByteArray),false,())
  else
  Option.bind (
  (bif (p0_1==(0:Int)) then
  Option.bind (R01_Int.F ((0:Int),())) fun y3=>
  some (.inr (y3.1,y3.2.1,y3.2.2.1,true,()))
  else
  (bif (p1_1==(0:Int)) then
  Option.bind (R01_Int.F ((0:Int),())) fun y4=>
  some (.inr (y4.1,y4.2.1,y4.2.2.1,true,()))
  else
  some (.inl (())))):Option ((Unit)⊕_)) fun r5=>match r5 with
  | .inl (_)=>
  (Option.bind (
  (bif (p0_1==(-1:Int)) then
  Option.bind (R01_Least.F (())) fun y6=>
  (bif (p1_1==y6.1) then
  some (.inl (true,()))
  else
  (bif (p1_1==(-1:Int)) then
  Option.bind (R01_Least.F (())) fun y7=>
  some (.inl ((p0_1==y7.1),()))
  else
  some (.inl (false,()))))
  else
  (bif (p1_1==(-1:Int)) then
  Option.bind (R01_Least.F (())) fun y8=>
  some (.inl ((p0_1==y8.1),()))
  else
  some (.inl (false,())))):Option ((Bool×Unit)⊕_)) fun r9=>match r9 with
  | .inl (x44_9,_)=>
  ((bif x44_9 then
  some ((0:Int),(0:Int),(⟨#[]⟩:ByteArray),false,())
  else
  let e10:Int:=(IntKind.i64.wrap (p0_1*p1_1))
  bif (!decide (p1_1=0)) then
  let e11:Int:=(IntKind.i64.wrap (Int.tdiv e10 p1_1))
  (bif (e11 !=p0_1) then
  some ((0:Int),(0:Int),(⟨#[]⟩:ByteArray),false,())
  else
  bif (!decide (p1_1=0)) then
  let e12:Int:=(Int.tmod e10 p1_1)
  (bif (e12 !=(0:Int)) then
  some ((0:Int),(0:Int),(⟨#[]⟩:ByteArray),false,())
  else
  Option.bind (R01_Int.F (e10,())) fun y13=>
  some (y13.1,y13.2.1,y13.2.2.1,true,()))
  else none)
  else none))
  | .inr r=>some r)
  | .inr r=>some r))
noncomputable def R01_Mul.F:Int×Int×ByteArray×Int×Int×ByteArray×Unit→Option (Int×Int×ByteArray×Bool×Unit):=stk R01_Mul.B
theorem R01_Mul.eq:R01_Mul.F=R01_Mul.B:=stk_eq _
theorem R01_Mul.ev (x:TS R01_Mul.si):evF cR01_Least inl0 (Tryz.f174.body.getD .skip) Tryz.f174.results.toList R01_Mul.h R01_Mul.si R01_Mul.so x=R01_Mul.B x:=by kernel_rfl
theorem R01_Mul.fn:FnOk PP 174 (Tryz.f174.body.getD .skip) Tryz.f174.results.toList Tryz.f174.ntmps:=fnOk_mk (by kernel_rfl) (by kernel_rfl) (by kernel_rfl) (by kernel_rfl)
theorem R01_Mul.ok:SpecOk PP 174 ⟨2,R01_Mul.si,R01_Mul.so,R01_Mul.F⟩:=fn_stk cxR01_Least (inl0_ok _ _) mixed R01_Mul.fn R01_Mul.h (by kernel_rfl) R01_Mul.ev
noncomputable def spR01_Mul:List (Nat×List (Nat×AK)×Lv.Spec):=(174,[],⟨2,R01_Mul.si,R01_Mul.so,R01_Mul.F⟩)::spR01_Least
noncomputable abbrev cR01_Mul:Cx:=⟨tabAt tab0,eqAt eqs0,specAt spR01_Mul,0,specPAt sq0⟩
theorem cxR01_Mul:CxOk PP cR01_Mul:=cxR01_Least.consS [] R01_Mul.fn.enters R01_Mul.ok
/-! levee/leveeref01.Most -/
def R01_Most.si:Sh:=⟨[],[],[],0,[]⟩
def R01_Most.so:Sh:=⟨[(0,.v false [.int .i64])],[],[],1000,[]⟩
def R01_Most.h:H:=.n
noncomputable def R01_Most.B:Unit→Option (Int×Unit):=fun (_)=>
  some ((9223372036854775807:Int),())
noncomputable def R01_Most.F:Unit→Option (Int×Unit):=stk R01_Most.B
theorem R01_Most.eq:R01_Most.F=R01_Most.B:=stk_eq _
theorem R01_Most.ev (x:TS R01_Most.si):evF cR01_Mul inl0 (Tryz.f192.body.getD .skip) Tryz.f192.results.toList R01_Most.h R01_Most.si R01_Most.so x=R01_Most.B x:=by kernel_rfl
theorem R01_Most.fn:FnOk PP 192 (Tryz.f192.body.getD .skip) Tryz.f192.results.toList Tryz.f192.ntmps:=fnOk_mk (by kernel_rfl) (by kernel_rfl) (by kernel_rfl) (by kernel_rfl)
theorem R01_Most.ok:SpecOk PP 192 ⟨0,R01_Most.si,R01_Most.so,R01_Most.F⟩:=fn_stk cxR01_Mul (inl0_ok _ _) mixed R01_Most.fn R01_Most.h (by kernel_rfl) R01_Most.ev
noncomputable def spR01_Most:List (Nat×List (Nat×AK)×Lv.Spec):=(192,[],⟨0,R01_Most.si,R01_Most.so,R01_Most.F⟩)::spR01_Mul
noncomputable abbrev cR01_Most:Cx:=⟨tabAt tab0,eqAt eqs0,specAt spR01_Most,0,specPAt sq0⟩
theorem cxR01_Most:CxOk PP cR01_Most:=cxR01_Mul.consS [] R01_Most.fn.enters R01_Most.ok
/-! levee/leveeref01.Add -/
def R01_Add.si:Sh:=⟨[(0,.v true [.int .i64,.int .i64,.str]),(1,.v true [.int .i64,.int .i64,.str])],[],[],0,[]⟩
def R01_Add.so:Sh:=⟨[(0,.tup [(true,[.int .i64,.int .i64,.str]),(false,[.bool])])],[],[],1000,[]⟩
def R01_Add.h:H:=(.s none .n (.s none .n (.s none (.s (some ⟨[(41,.v false [.bool])],[],[2,3,4],0,[]⟩) .n .n) .n)))
noncomputable def R01_Add.B:Int×Int×ByteArray×Int×Int×ByteArray×Unit→Option (Int×Int×ByteArray×Bool×Unit):=fun (p0_0,p0_1,p0_2,p1_0,p1_1,p1_2,_)=>
  Option.bind (R01_Nulls.F (p0_0,p0_1,p0_2,p1_0,p1_1,p1_2,())) fun y1=>
  (bif y1.1 then
  some ((0:Int),(0:Int),(⟨#[]⟩:ByteArray),true,())
  else
  Option.bind (
  Option.bind (R01_Ints.F (p0_0,p0_1,p0_2,p1_0,p1_1,p1_2,())) fun y2=>
  (bif (!y2.1) then
  some (.inl (true,()))
  else
  (bif (decide (p1_1>(0:Int))) then
  Option.bind (R01_Most.F (())) fun y3=>
  let e4:Int:=(IntKind.i64.wrap (y3.1-p1_1))
  (bif (decide (p0_1>e4)) then
  some (.inl (true,()))
  else
  (bif (decide (p1_1<(0:Int))) then
  Option.bind (R01_Least.F (())) fun y5=>
  let e6:Int:=(IntKind.i64.wrap (y5.1-p1_1))
  some (.inl ((decide (p0_1<e6)),()))
  else
  some (.inl (false,()))))
  else
  (bif (decide (p1_1<(0:Int))) then
  Option.bind (R01_Least.F (())) fun y7=>
  let e8:Int:=(IntKind.i64.wrap (y7.1-p1_1))
  some (.inl ((decide (p0_1<e8)),()))
  else
  some (.inl (false,()))))):Option ((Bool×Unit)⊕_)) fun r9=>match r9 with
  | .inl (x41_9,_)=>
  ((bif x41_9 then
  some ((0:Int),(0:Int),(⟨#[]⟩:ByteArray),false,())
  else
  let e10:Int:=(IntKind.i64.wrap (p0_1+p1_1))
  Option.bind (R01_Int.F (e10,())) fun y11=>
  some (y11.1,y11.2.1,y11.2.2.1,true,())))
  | .inr r=>some r)
noncomputable def R01_Add.F:Int×Int×ByteArray×Int×Int×ByteArray×Unit→Option (Int×Int×ByteArray×Bool×Unit):=stk R01_Add.B
theorem R01_Add.eq:R01_Add.F=R01_Add.B:=stk_eq _
theorem R01_Add.ev (x:TS R01_Add.si):evF cR01_Most inl0 (Tryz.f175.body.getD .skip) Tryz.f175.results.toList R01_Add.h R01_Add.si R01_Add.so x=R01_Add.B x:=by kernel_rfl
theorem R01_Add.fn:FnOk PP 175 (Tryz.f175.body.getD .skip) Tryz.f175.results.toList Tryz.f175.ntmps:=fnOk_mk (by kernel_rfl) (by kernel_rfl) (by kernel_rfl) (by kernel_rfl)
theorem R01_Add.ok:SpecOk PP 175 ⟨2,R01_Add.si,R01_Add.so,R01_Add.F⟩:=fn_stk cxR01_Most (inl0_ok _ _) mixed R01_Add.fn R01_Add.h (by kernel_rfl) R01_Add.ev
noncomputable def spR01_Add:List (Nat×List (Nat×AK)×Lv.Spec):=(175,[],⟨2,R01_Add.si,R01_Add.so,R01_Add.F⟩)::spR01_Most
noncomputable abbrev cR01_Add:Cx:=⟨tabAt tab0,eqAt eqs0,specAt spR01_Add,0,specPAt sq0⟩
theorem cxR01_Add:CxOk PP cR01_Add:=cxR01_Most.consS [] R01_Add.fn.enters R01_Add.ok
end Go.Proofs.Ytniojllnooblcaa
end
