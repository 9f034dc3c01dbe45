import Derived.Test.YtniojllnooblcaaGreatDoorM4
set_option linter.all false
set_option linter.unusedVariables false
set_option linter.unusedSimpArgs false
set_option linter.unusedSectionVars false
section
set_option maxRecDepth 100000
namespace Go.Proofs.Ytniojllnooblcaa
open Go Lv Go.Proofs Go.RowKit Go.Shelf
abbrev tValueT:=Int×(Int×ByteArray)
abbrev tValue:Ty:=(.pair (.int .i64) (.pair (.int .i64) .str))
abbrev tWriteT:=ByteArray×(Bool×(List tValueT))
abbrev tWrite:Ty:=(.pair .str (.pair .bool (.sl 27 tValue)))
abbrev tRecT:=(List tValueT)×Int
abbrev tRec:Ty:=(.pair (.sl 27 tValue) (.int .i64))
abbrev tRelT:=ByteArray×(List tRecT)
abbrev tRel:Ty:=(.pair .str (.sl 77 tRec))
abbrev tColumnT:=ByteArray×(Int×(Bool×(Bool×(ByteArray×Int))))
abbrev tColumn:Ty:=(.pair .str (.pair (.int .i64) (.pair .bool (.pair .bool (.pair .str (.int .i64))))))
abbrev tNodeT:=Int×(Int×tValueT)
abbrev tNode:Ty:=(.pair (.int .i64) (.pair (.int .i64) tValue))
abbrev tTableT:=ByteArray×((List tColumnT)×(List (List tNodeT)))
abbrev tTable:Ty:=(.pair .str (.pair (.sl 97 tColumn) (.sl 104 (.sl 202 tNode))))
abbrev tAggT:=Int×Int
abbrev tAgg:Ty:=(.pair (.int .i64) (.int .i64))
abbrev tViewT:=ByteArray×(ByteArray×(ByteArray×(tAggT×((List tNodeT)×((List Int)×(Bool×(List tAggT)))))))
abbrev tView:Ty:=(.pair .str (.pair .str (.pair .str (.pair tAgg (.pair (.sl 202 tNode) (.pair (.sl 3 (.int .i64)) (.pair .bool (.sl 206 tAgg))))))))
abbrev tDefT:=Int×(tTableT×tViewT)
abbrev tDef:Ty:=(.pair (.int .i64) (.pair tTable tView))
abbrev tStmtT:=Int×(ByteArray×(List tValueT))
abbrev tStmt:Ty:=(.pair (.int .i64) (.pair .str (.sl 27 tValue)))
abbrev tReadT:=ByteArray×(tValueT×Int)
abbrev tRead:Ty:=(.pair .str (.pair tValue (.int .i64)))
abbrev tRangeT:=ByteArray×(tValueT×(tValueT×(List tReadT)))
abbrev tRange:Ty:=(.pair .str (.pair tValue (.pair tValue (.sl 143 tRead))))
abbrev tLookT:=ByteArray×(List tRecT)
abbrev tLook:Ty:=(.pair .str (.sl 171 tRec))
abbrev tSeenT:=(List tReadT)×((List tRangeT)×(List tLookT))
abbrev tSeen:Ty:=(.pair (.sl 143 tRead) (.pair (.sl 128 tRange) (.sl 126 tLook)))
abbrev tTxnT:=tSeenT×((List tWriteT)×((List tStmtT)×(List ByteArray)))
abbrev tTxn:Ty:=(.pair tSeen (.pair (.sl 68 tWrite) (.pair (.sl 56 tStmt) (.sl 9 .str))))
abbrev tDoerT:=tTxnT×((List tRelT)×(List tLookT))
abbrev tDoer:Ty:=(.pair tTxn (.pair (.sl 74 tRel) (.sl 123 tLook)))
abbrev tTokT:=Int×(ByteArray×tValueT)
abbrev tTok:Ty:=(.pair (.int .i64) (.pair .str tValue))
abbrev tParserT:=(List tTokT)×(Int×Bool)
abbrev tParser:Ty:=(.pair (.sl 235 tTok) (.pair (.int .i64) .bool))
abbrev tAskT:=(List tDefT)×((List tRelT)×((List tLookT)×(tValueT×tValueT)))
abbrev tAsk:Ty:=(.pair (.sl 110 tDef) (.pair (.sl 74 tRel) (.pair (.sl 123 tLook) (.pair tValue tValue))))
noncomputable abbrev PP:=Tryz.prog
def tab0:List (Nat×TI):=[
 (3,⟨.int .i64,1,8,17592186044416,[.int .i64 0],some (.int .i64)⟩),
 (4,⟨.bool,1,1,140737488355328,[.bool false],some .bool⟩),
 (5,⟨.int .u8,1,1,140737488355328,[.int .u8 0],some (.int .u8)⟩),
 (9,⟨.str,1,16,8796093022208,[.string ⟨#[]⟩],some .str⟩),
 (23,⟨.sl 110,1,24,5864062014805,[.slice none 0 0],some (.sl 110 tDef)⟩),
 (24,⟨.sl 74,1,24,5864062014805,[.slice none 0 0],some (.sl 74 tRel)⟩),
 (25,⟨.sl 123,1,24,5864062014805,[.slice none 0 0],some (.sl 123 tLook)⟩),
 (27,⟨.st [(3,0),(3,1),(9,2)],3,32,4398046511104,[.int .i64 0,.int .i64 0,.string ⟨#[]⟩],some tValue⟩),
 (29,⟨.st [(23,0),(24,1),(25,2),(27,3),(27,6)],9,136,1034834473200,[.slice none 0 0,.slice none 0 0,.slice none 0 0,.int .i64 0,.int .i64 0,.string ⟨#[]⟩,.int .i64 0,.int .i64 0,.string ⟨#[]⟩],some tAsk⟩),
 (30,⟨.sl 143,1,24,5864062014805,[.slice none 0 0],some (.sl 143 tRead)⟩),
 (31,⟨.sl 128,1,24,5864062014805,[.slice none 0 0],some (.sl 128 tRange)⟩),
 (32,⟨.sl 126,1,24,5864062014805,[.slice none 0 0],some (.sl 126 tLook)⟩),
 (34,⟨.st [(30,0),(31,1),(32,2)],3,72,1954687338268,[.slice none 0 0,.slice none 0 0,.slice none 0 0],some tSeen⟩),
 (35,⟨.sl 68,1,24,5864062014805,[.slice none 0 0],some (.sl 68 tWrite)⟩),
 (36,⟨.sl 56,1,24,5864062014805,[.slice none 0 0],some (.sl 56 tStmt)⟩),
 (37,⟨.sl 9,1,24,5864062014805,[.slice none 0 0],some (.sl 9 .str)⟩),
 (39,⟨.st [(34,0),(35,3),(36,4),(37,5)],6,144,977343669134,[.slice none 0 0,.slice none 0 0,.slice none 0 0,.slice none 0 0,.slice none 0 0,.slice none 0 0],some tTxn⟩),
 (43,⟨.sl 46,1,24,5864062014805,[.slice none 0 0],some (.sl 46 (.sl 27 tValue))⟩),
 (45,⟨.sl 27,1,24,5864062014805,[.slice none 0 0],some (.sl 27 tValue)⟩),
 (46,⟨.sl 27,1,24,5864062014805,[.slice none 0 0],some (.sl 27 tValue)⟩),
 (56,⟨.st [(3,0),(9,1),(46,2)],3,48,2932031007402,[.int .i64 0,.string ⟨#[]⟩,.slice none 0 0],some tStmt⟩),
 (68,⟨.st [(9,0),(4,1),(46,2)],3,48,2932031007402,[.string ⟨#[]⟩,.bool false,.slice none 0 0],some tWrite⟩),
 (71,⟨.sl 77,1,24,5864062014805,[.slice none 0 0],some (.sl 77 tRec)⟩),
 (74,⟨.st [(9,0),(71,1)],2,40,3518437208883,[.string ⟨#[]⟩,.slice none 0 0],some tRel⟩),
 (77,⟨.st [(46,0),(3,1)],2,32,4398046511104,[.slice none 0 0,.int .i64 0],some tRec⟩),
 (91,⟨.st [(39,0),(24,6),(25,7)],8,192,733007751850,[.slice none 0 0,.slice none 0 0,.slice none 0 0,.slice none 0 0,.slice none 0 0,.slice none 0 0,.slice none 0 0,.slice none 0 0],some tDoer⟩),
 (93,⟨.int .i64,1,8,17592186044416,[.int .i64 0],some (.int .i64)⟩),
 (97,⟨.st [(9,0),(3,1),(4,2),(4,3),(9,4),(3,5)],6,56,2513169434916,[.string ⟨#[]⟩,.int .i64 0,.bool false,.bool false,.string ⟨#[]⟩,.int .i64 0],some tColumn⟩),
 (98,⟨.sl 97,1,24,5864062014805,[.slice none 0 0],some (.sl 97 tColumn)⟩),
 (99,⟨.sl 104,1,24,5864062014805,[.slice none 0 0],some (.sl 104 (.sl 202 tNode))⟩),
 (101,⟨.st [(9,0),(98,1),(99,2)],3,64,2199023255552,[.string ⟨#[]⟩,.slice none 0 0,.slice none 0 0],some tTable⟩),
 (102,⟨.arr 2 3,2,16,8796093022208,[.int .i64 0,.int .i64 0],some tAgg⟩),
 (104,⟨.sl 202,1,24,5864062014805,[.slice none 0 0],some (.sl 202 tNode)⟩),
 (105,⟨.sl 3,1,24,5864062014805,[.slice none 0 0],some (.sl 3 (.int .i64))⟩),
 (106,⟨.sl 206,1,24,5864062014805,[.slice none 0 0],some (.sl 206 tAgg)⟩),
 (108,⟨.st [(9,0),(9,1),(9,2),(102,3),(104,5),(105,6),(4,7),(106,8)],9,144,977343669134,[.string ⟨#[]⟩,.string ⟨#[]⟩,.string ⟨#[]⟩,.int .i64 0,.int .i64 0,.slice none 0 0,.slice none 0 0,.bool false,.slice none 0 0],some tView⟩),
 (110,⟨.st [(3,0),(101,1),(108,4)],13,216,651562446089,[.int .i64 0,.string ⟨#[]⟩,.slice none 0 0,.slice none 0 0,.string ⟨#[]⟩,.string ⟨#[]⟩,.string ⟨#[]⟩,.int .i64 0,.int .i64 0,.slice none 0 0,.slice none 0 0,.bool false,.slice none 0 0],some tDef⟩),
 (121,⟨.sl 171,1,24,5864062014805,[.slice none 0 0],some (.sl 171 tRec)⟩),
 (123,⟨.st [(9,0),(121,1)],2,40,3518437208883,[.string ⟨#[]⟩,.slice none 0 0],some tLook⟩),
 (126,⟨.st [(9,0),(121,1)],2,40,3518437208883,[.string ⟨#[]⟩,.slice none 0 0],some tLook⟩),
 (128,⟨.st [(9,0),(27,1),(27,4),(30,7)],8,104,1353245080339,[.string ⟨#[]⟩,.int .i64 0,.int .i64 0,.string ⟨#[]⟩,.int .i64 0,.int .i64 0,.string ⟨#[]⟩,.slice none 0 0],some tRange⟩),
 (138,⟨.int .u64,1,8,17592186044416,[.int .u64 0],some (.int .u64)⟩),
 (143,⟨.st [(9,0),(27,1),(3,4)],5,56,2513169434916,[.string ⟨#[]⟩,.int .i64 0,.int .i64 0,.string ⟨#[]⟩,.int .i64 0],some tRead⟩),
 (171,⟨.st [(46,0),(3,1)],2,32,4398046511104,[.slice none 0 0,.int .i64 0],some tRec⟩),
 (185,⟨.int .u64,1,8,17592186044416,[.int .u64 0],some (.int .u64)⟩),
 (202,⟨.st [(3,0),(3,1),(27,2)],5,48,2932031007402,[.int .i64 0,.int .i64 0,.int .i64 0,.int .i64 0,.string ⟨#[]⟩],some tNode⟩),
 (206,⟨.st [(3,0),(3,1)],2,16,8796093022208,[.int .i64 0,.int .i64 0],some tAgg⟩),
 (207,⟨.sl 235,1,24,5864062014805,[.slice none 0 0],some (.sl 235 tTok)⟩),
 (212,⟨.st [(207,0),(3,1),(4,2)],3,40,3518437208883,[.slice none 0 0,.int .i64 0,.bool false],some tParser⟩),
 (235,⟨.st [(3,0),(9,1),(27,2)],5,56,2513169434916,[.int .i64 0,.string ⟨#[]⟩,.int .i64 0,.int .i64 0,.string ⟨#[]⟩],some tTok⟩)]
theorem tab_ok:TabOk PP (tabAt tab0):=tabOk_of (by kernel_rfl)
def eqs0:List (Nat×Ty):=[(27,tValue),(97,tColumn),(102,tAgg),(143,tRead),(202,tNode),(206,tAgg)]
theorem eqs_ok:EqOk PP (eqAt eqs0):=eqOk_of tab_ok (by kernel_rfl)
theorem mixed:PP.follows .mixedOrders=true:=by kernel_rfl
noncomputable def sp0:List (Nat×List (Nat×AK)×Lv.Spec):=[]
noncomputable def sq0:List (Nat×List (Nat×AK)×Lv.SpecP):=[]
noncomputable abbrev c0:Cx:=⟨tabAt tab0,eqAt eqs0,specAt sp0,0,specPAt sq0⟩
theorem cx0:CxOk PP c0:=CxOk.nilP tab_ok eqs_ok
/-! levee/txn.of -/
def txn_of.si:Sh:=⟨[(0,.v true [.str,.bool,.sl 27 tValue]),(1,.v false [.str]),(2,.v true [.int .i64,.int .i64,.str])],[],[],0,[]⟩
def txn_of.so:Sh:=⟨[(0,.v false [.bool])],[],[],1000,[]⟩
def txn_of.h:H:=.n
noncomputable def txn_of.B:ByteArray×Bool×(List tValueT)×ByteArray×Int×Int×ByteArray×Unit→Option (Bool×Unit):=fun (p0_0,p0_1,p0_2,p1,p2_0,p2_1,p2_2,_)=>
  (bif (p0_0.toList==p1.toList) then
  (bif (decide ((p0_2.length:Int)>(0:Int))) then
  bif (decide (0≤(0:Int))&&decide ((0:Int)<(p0_2.length:Int))) then
  let e1:tValueT:=(List.getD p0_2 0 tValue.z)
  some ((Ty.eq tValue e1 (p2_0,(p2_1,p2_2))),())
  else none
  else
  some (false,()))
  else
  some (false,()))
noncomputable def txn_of.F:ByteArray×Bool×(List tValueT)×ByteArray×Int×Int×ByteArray×Unit→Option (Bool×Unit):=stk txn_of.B
theorem txn_of.eq:txn_of.F=txn_of.B:=stk_eq _
theorem txn_of.ev (x:TS txn_of.si):evF c0 inl0 (Tryz.f31.body.getD .skip) Tryz.f31.results.toList txn_of.h txn_of.si txn_of.so x=txn_of.B x:=by kernel_rfl
theorem txn_of.fn:FnOk PP 31 (Tryz.f31.body.getD .skip) Tryz.f31.results.toList Tryz.f31.ntmps:=fnOk_mk (by kernel_rfl) (by kernel_rfl) (by kernel_rfl) (by kernel_rfl)
theorem txn_of.ok:SpecOk PP 31 ⟨3,txn_of.si,txn_of.so,txn_of.F⟩:=fn_stk cx0 (inl0_ok _ _) mixed txn_of.fn txn_of.h (by kernel_rfl) txn_of.ev
noncomputable def sptxn_of:List (Nat×List (Nat×AK)×Lv.Spec):=(31,[],⟨3,txn_of.si,txn_of.so,txn_of.F⟩)::sp0
noncomputable abbrev ctxn_of:Cx:=⟨tabAt tab0,eqAt eqs0,specAt sptxn_of,0,specPAt sq0⟩
theorem cxtxn_of:CxOk PP ctxn_of:=cx0.consS [] txn_of.fn.enters txn_of.ok
/-! slices.Clone[levee/api.Row,levee/api.Value] -/
def slices_Clone_api_Row_api_Value.si:Sh:=⟨[(0,.v false [.sl 27 tValue])],[],[],0,[]⟩
def slices_Clone_api_Row_api_Value.so:Sh:=⟨[(0,.v false [.ref 1000])],[(1000,false,.arr 27 tValue)],[],1001,[]⟩
def slices_Clone_api_Row_api_Value.h:H:=.n
noncomputable def slices_Clone_api_Row_api_Value.B:(List tValueT)×Unit→Option ((List tValueT)×Unit):=fun (p0,_)=>
  (bif p0.isEmpty then
  both (fun b1=>(bif b1 then
  some ([],())
  else
  bif (Nat.ble (([]:List tValueT).length+p0.length) 4398046511104) then
  some ((([]:List tValueT)++p0),())
  else none))
  else
  bif (Nat.ble (([]:List tValueT).length+p0.length) 4398046511104) then
  some ((([]:List tValueT)++p0),())
  else none)
noncomputable def slices_Clone_api_Row_api_Value.F:(List tValueT)×Unit→Option ((List tValueT)×Unit):=stk slices_Clone_api_Row_api_Value.B
theorem slices_Clone_api_Row_api_Value.eq:slices_Clone_api_Row_api_Value.F=slices_Clone_api_Row_api_Value.B:=stk_eq _
theorem slices_Clone_api_Row_api_Value.ev (x:TS slices_Clone_api_Row_api_Value.si):evF ctxn_of inl0 (Tryz.f32.body.getD .skip) Tryz.f32.results.toList slices_Clone_api_Row_api_Value.h slices_Clone_api_Row_api_Value.si slices_Clone_api_Row_api_Value.so x=slices_Clone_api_Row_api_Value.B x:=by kernel_rfl
theorem slices_Clone_api_Row_api_Value.fn:FnOk PP 32 (Tryz.f32.body.getD .skip) Tryz.f32.results.toList Tryz.f32.ntmps:=fnOk_mk (by kernel_rfl) (by kernel_rfl) (by kernel_rfl) (by kernel_rfl)
theorem slices_Clone_api_Row_api_Value.ok:SpecOk PP 32 ⟨1,slices_Clone_api_Row_api_Value.si,slices_Clone_api_Row_api_Value.so,slices_Clone_api_Row_api_Value.F⟩:=fn_stk cxtxn_of (inl0_ok _ _) mixed slices_Clone_api_Row_api_Value.fn slices_Clone_api_Row_api_Value.h (by kernel_rfl) slices_Clone_api_Row_api_Value.ev
noncomputable def spslices_Clone_api_Row_api_Value:List (Nat×List (Nat×AK)×Lv.Spec):=(32,[],⟨1,slices_Clone_api_Row_api_Value.si,slices_Clone_api_Row_api_Value.so,slices_Clone_api_Row_api_Value.F⟩)::sptxn_of
noncomputable abbrev cslices_Clone_api_Row_api_Value:Cx:=⟨tabAt tab0,eqAt eqs0,specAt spslices_Clone_api_Row_api_Value,0,specPAt sq0⟩
theorem cxslices_Clone_api_Row_api_Value:CxOk PP cslices_Clone_api_Row_api_Value:=cxtxn_of.consS [] slices_Clone_api_Row_api_Value.fn.enters slices_Clone_api_Row_api_Value.ok
/-! levee/reads.Look -/
def reads_Look.si:Sh:=⟨[(0,.v false [.sl 74 tRel]),(1,.v false [.str])],[],[],0,[]⟩
def reads_Look.so:Sh:=⟨[(0,.v true [.str,.sl 77 tRec])],[],[],1000,[]⟩
def reads_Look.h:H:=.n
noncomputable def reads_Look.B:(List tRelT)×ByteArray×Unit→Option (ByteArray×(List tRecT)×Unit):=fun (p0,p1,_)=>
  loopM (S:=Int×Unit) (fun (x8,_)=>
  (bif (decide (x8<(p0.length:Int))) then
  Option.bind (
  bif (decide (0≤x8)&&decide (x8<(p0.length:Int))) then
  let e1:tRelT:=(List.getD p0 (Int.toNat x8) tRel.z)
  some (.inl ((e1.1.toList==p1.toList),()))
  else none:Option ((Bool×Unit)⊕_)) fun r2=>match r2 with
  | .inl (x16_2,_)=>
  ((bif x16_2 then
  Option.map Sum.inr ((bif (decide (x8<(0:Int))) then
  some ((⟨#[]⟩:ByteArray),([]:List tRecT),())
  else
  bif (decide (0≤x8)&&decide (x8<(p0.length:Int))) then
  let e3:tRelT:=(List.getD p0 (Int.toNat x8) tRel.z)
  some (e3.1,e3.2,())
  else none))
  else
  let e4:Int:=(IntKind.i64.wrap (x8+(1:Int)))
  some (.inl (e4,()))))
  | .inr r=>some r
  else
  Option.map Sum.inr ((bif (decide ((-1:Int)<(0:Int))) then
  some ((⟨#[]⟩:ByteArray),([]:List tRecT),())
  else
  bif (decide (0≤(-1:Int))&&decide ((-1:Int)<(p0.length:Int))) then
  let e5:tRelT:=(List.getD p0 (Int.toNat (-1:Int)) tRel.z)
  some (e5.1,e5.2,())
  else none)))) ((0:Int),())
noncomputable def reads_Look.F:(List tRelT)×ByteArray×Unit→Option (ByteArray×(List tRecT)×Unit):=stk reads_Look.B
theorem reads_Look.eq:reads_Look.F=reads_Look.B:=stk_eq _
noncomputable def reads_Look.ins:Nat→List (Option Slot)→Heap→Option (Code×List ResultVar×H):=fun g xs hp=>bif Nat.beq g 53&&cloK xs hp 1 54 then some (Tryz.f53.body.getD .skip,Tryz.f53.results.toList,(.s none .n (.s none (.s none .n (.b (.l ⟨[(8,.v false [.int .i64])],[],[0,1,7],0,[]⟩ (.s none .n (.s none .n (.s none (.b (.s none .n (.s (some ⟨[(16,.v false [.bool])],[],[0,1,5,7,8],0,[]⟩) .n .n))) .n)))))) .n))) else bif Nat.beq g 54 then some (Tryz.f54.body.getD .skip,Tryz.f54.results.toList,.n) else none
theorem reads_Look.ins_ok:∀n xs hp code res h,reads_Look.ins n xs hp=some (code,res,h)→∃nt,FnOk PP n code res nt:=by
  intro n xs hp code res h e
  unfold reads_Look.ins at e
  cases e0:(Nat.beq n 53&&cloK xs hp 1 54) with
  |true=>rw [e0] at e;cases e;rw [Nat.eq_of_beq_eq_true (Bool.and_eq_true_iff.1 e0).1];exact ⟨_,fnOk_mk (by kernel_rfl) (by kernel_rfl) (by kernel_rfl) (by kernel_rfl)⟩
  |false=>
  rw [e0] at e
  cases e1:(Nat.beq n 54) with
  |true=>rw [e1] at e;cases e;rw [Nat.eq_of_beq_eq_true e1];exact ⟨_,fnOk_mk (by kernel_rfl) (by kernel_rfl) (by kernel_rfl) (by kernel_rfl)⟩
  |false=>
  rw [e1] at e
  cases e
theorem reads_Look.ev (x:TS reads_Look.si):evF cslices_Clone_api_Row_api_Value (inlS cslices_Clone_api_Row_api_Value reads_Look.ins (inlS cslices_Clone_api_Row_api_Value reads_Look.ins (inlS cslices_Clone_api_Row_api_Value reads_Look.ins inl0))) (Tryz.f26.body.getD .skip) Tryz.f26.results.toList reads_Look.h reads_Look.si reads_Look.so x=reads_Look.B x:=by kernel_rfl
theorem reads_Look.fn:FnOk PP 26 (Tryz.f26.body.getD .skip) Tryz.f26.results.toList Tryz.f26.ntmps:=fnOk_mk (by kernel_rfl) (by kernel_rfl) (by kernel_rfl) (by kernel_rfl)
theorem reads_Look.ok:SpecOk PP 26 ⟨2,reads_Look.si,reads_Look.so,reads_Look.F⟩:=fn_stk cxslices_Clone_api_Row_api_Value (inlS_ok cxslices_Clone_api_Row_api_Value (inlS_ok cxslices_Clone_api_Row_api_Value (inlS_ok cxslices_Clone_api_Row_api_Value (inl0_ok _ _) (drawnOk cxslices_Clone_api_Row_api_Value mixed) reads_Look.ins_ok) (drawnOk cxslices_Clone_api_Row_api_Value mixed) reads_Look.ins_ok) (drawnOk cxslices_Clone_api_Row_api_Value mixed) reads_Look.ins_ok) mixed reads_Look.fn reads_Look.h (by kernel_rfl) reads_Look.ev
noncomputable def spreads_Look:List (Nat×List (Nat×AK)×Lv.Spec):=(26,[],⟨2,reads_Look.si,reads_Look.so,reads_Look.F⟩)::spslices_Clone_api_Row_api_Value
noncomputable abbrev creads_Look:Cx:=⟨tabAt tab0,eqAt eqs0,specAt spreads_Look,0,specPAt sq0⟩
theorem cxreads_Look:CxOk PP creads_Look:=cxslices_Clone_api_Row_api_Value.consS [] reads_Look.fn.enters reads_Look.ok
/-! levee/value.May -/
def value_May.si:Sh:=⟨[(0,.v true [.int .i64,.int .i64,.str])],[],[],0,[]⟩
def value_May.so:Sh:=⟨[(0,.v false [.bool])],[],[],1000,[]⟩
def value_May.h:H:=.n
noncomputable def value_May.B:Int×Int×ByteArray×Unit→Option (Bool×Unit):=fun (p0_0,p0_1,p0_2,_)=>
  (bif (p0_0==(0:Int)) then
  some ((Ty.eq tValue (p0_0,(p0_1,p0_2)) ((0:Int),((0:Int),(⟨#[]⟩:ByteArray)))),())
  else
  (bif (p0_0==(1:Int)) then
  (bif (p0_1==(0:Int)) then
  some ((p0_2.toList==(⟨#[]⟩:ByteArray).toList),())
  else
  (bif (p0_1==(1:Int)) then
  some ((p0_2.toList==(⟨#[]⟩:ByteArray).toList),())
  else
  some (false,())))
  else
  (bif (p0_0==(2:Int)) then
  some ((p0_2.toList==(⟨#[]⟩:ByteArray).toList),())
  else
  (bif (p0_0==(3:Int)) then
  (bif (p0_1==(0:Int)) then
  some ((decide ((p0_2.size:Int)≤(1000:Int))),())
  else
  some (false,()))
  else
  some (false,())))))
noncomputable def value_May.F:Int×Int×ByteArray×Unit→Option (Bool×Unit):=stk value_May.B
theorem value_May.eq:value_May.F=value_May.B:=stk_eq _
theorem value_May.ev (x:TS value_May.si):evF creads_Look inl0 (Tryz.f110.body.getD .skip) Tryz.f110.results.toList value_May.h value_May.si value_May.so x=value_May.B x:=by kernel_rfl
theorem value_May.fn:FnOk PP 110 (Tryz.f110.body.getD .skip) Tryz.f110.results.toList Tryz.f110.ntmps:=fnOk_mk (by kernel_rfl) (by kernel_rfl) (by kernel_rfl) (by kernel_rfl)
theorem value_May.ok:SpecOk PP 110 ⟨1,value_May.si,value_May.so,value_May.F⟩:=fn_stk cxreads_Look (inl0_ok _ _) mixed value_May.fn value_May.h (by kernel_rfl) value_May.ev
noncomputable def spvalue_May:List (Nat×List (Nat×AK)×Lv.Spec):=(110,[],⟨1,value_May.si,value_May.so,value_May.F⟩)::spreads_Look
noncomputable abbrev cvalue_May:Cx:=⟨tabAt tab0,eqAt eqs0,specAt spvalue_May,0,specPAt sq0⟩
theorem cxvalue_May:CxOk PP cvalue_May:=cxreads_Look.consS [] value_May.fn.enters value_May.ok
/-! levee/row.May$1 -/
def row_May_1.si:Sh:=⟨[(0,.v true [.int .i64,.int .i64,.str])],[],[],0,[]⟩
def row_May_1.so:Sh:=⟨[(0,.v false [.bool])],[],[],1000,[]⟩
def row_May_1.h:H:=.n
noncomputable def row_May_1.B:Int×Int×ByteArray×Unit→Option (Bool×Unit):=fun (p0_0,p0_1,p0_2,_)=>
  Option.bind (value_May.F (p0_0,p0_1,p0_2,())) fun y1=>
  some ((!y1.1),())
noncomputable def row_May_1.F:Int×Int×ByteArray×Unit→Option (Bool×Unit):=stk row_May_1.B
theorem row_May_1.eq:row_May_1.F=row_May_1.B:=stk_eq _
theorem row_May_1.ev (x:TS row_May_1.si):evF cvalue_May inl0 (Tryz.f109.body.getD .skip) Tryz.f109.results.toList row_May_1.h row_May_1.si row_May_1.so x=row_May_1.B x:=by kernel_rfl
theorem row_May_1.fn:FnOk PP 109 (Tryz.f109.body.getD .skip) Tryz.f109.results.toList Tryz.f109.ntmps:=fnOk_mk (by kernel_rfl) (by kernel_rfl) (by kernel_rfl) (by kernel_rfl)
theorem row_May_1.ok:SpecOk PP 109 ⟨1,row_May_1.si,row_May_1.so,row_May_1.F⟩:=fn_stk cxvalue_May (inl0_ok _ _) mixed row_May_1.fn row_May_1.h (by kernel_rfl) row_May_1.ev
noncomputable def sprow_May_1:List (Nat×List (Nat×AK)×Lv.Spec):=(109,[],⟨1,row_May_1.si,row_May_1.so,row_May_1.F⟩)::spvalue_May
noncomputable abbrev crow_May_1:Cx:=⟨tabAt tab0,eqAt eqs0,specAt sprow_May_1,0,specPAt sq0⟩
theorem cxrow_May_1:CxOk PP crow_May_1:=cxvalue_May.consS [] row_May_1.fn.enters row_May_1.ok
/-! levee/row.May -/
def row_May.si:Sh:=⟨[(0,.v false [.sl 27 tValue])],[],[],0,[]⟩
def row_May.so:Sh:=⟨[(0,.v false [.bool])],[],[],1000,[]⟩
def row_May.h:H:=.n
noncomputable def row_May.B:(List tValueT)×Unit→Option (Bool×Unit):=fun (p0,_)=>
  (bif (decide ((p0.length:Int)≤(40:Int))) then
  loopM (S:=Int×Unit) (fun (x8,_)=>
  (bif (decide (x8<(p0.length:Int))) then
  Option.bind (
  bif (decide (0≤x8)&&decide (x8<(p0.length:Int))) then
  let e1:tValueT:=(List.getD p0 (Int.toNat x8) tValue.z)
  Option.bind (row_May_1.F (e1.1,e1.2.1,e1.2.2,())) fun y2=>
  some (.inl (y2.1,()))
  else none:Option ((Bool×Unit)⊕_)) fun r3=>match r3 with
  | .inl (x16_3,_)=>
  ((bif x16_3 then
  some (.inr ((!(decide (x8≥(0:Int)))),()))
  else
  let e4:Int:=(IntKind.i64.wrap (x8+(1:Int)))
  some (.inl (e4,()))))
  | .inr r=>some r
  else
  some (.inr ((!(decide ((-1:Int)≥(0:Int)))),())))) ((0:Int),())
  else
  some (false,()))
noncomputable def row_May.F:(List tValueT)×Unit→Option (Bool×Unit):=stk row_May.B
theorem row_May.eq:row_May.F=row_May.B:=stk_eq _
noncomputable def row_May.ins:Nat→List (Option Slot)→Heap→Option (Code×List ResultVar×H):=fun g xs hp=>bif Nat.beq g 108 then some (Tryz.f108.body.getD .skip,Tryz.f108.results.toList,.n) else bif Nat.beq g 134 then some (Tryz.f134.body.getD .skip,Tryz.f134.results.toList,(.s none .n (.s none (.s none .n (.b (.l ⟨[(8,.v false [.int .i64])],[],[0,1,7],0,[]⟩ (.s none .n (.s none .n (.s none (.b (.s none .n (.s (some ⟨[(16,.v false [.bool])],[],[0,1,5,7,8],0,[]⟩) .n .n))) .n)))))) .n))) else none
theorem row_May.ins_ok:∀n xs hp code res h,row_May.ins n xs hp=some (code,res,h)→∃nt,FnOk PP n code res nt:=by
  intro n xs hp code res h e
  unfold row_May.ins at e
  cases e0:(Nat.beq n 108) with
  |true=>rw [e0] at e;cases e;rw [Nat.eq_of_beq_eq_true e0];exact ⟨_,fnOk_mk (by kernel_rfl) (by kernel_rfl) (by kernel_rfl) (by kernel_rfl)⟩
  |false=>
  rw [e0] at e
  cases e1:(Nat.beq n 134) with
  |true=>rw [e1] at e;cases e;rw [Nat.eq_of_beq_eq_true e1];exact ⟨_,fnOk_mk (by kernel_rfl) (by kernel_rfl) (by kernel_rfl) (by kernel_rfl)⟩
  |false=>
  rw [e1] at e
  cases e
theorem row_May.ev (x:TS row_May.si):evF crow_May_1 (inlS crow_May_1 row_May.ins (inlS crow_May_1 row_May.ins (inlS crow_May_1 row_May.ins inl0))) (Tryz.f71.body.getD .skip) Tryz.f71.results.toList row_May.h row_May.si row_May.so x=row_May.B x:=by kernel_rfl
theorem row_May.fn:FnOk PP 71 (Tryz.f71.body.getD .skip) Tryz.f71.results.toList Tryz.f71.ntmps:=fnOk_mk (by kernel_rfl) (by kernel_rfl) (by kernel_rfl) (by kernel_rfl)
theorem row_May.ok:SpecOk PP 71 ⟨1,row_May.si,row_May.so,row_May.F⟩:=fn_stk cxrow_May_1 (inlS_ok cxrow_May_1 (inlS_ok cxrow_May_1 (inlS_ok cxrow_May_1 (inl0_ok _ _) (drawnOk cxrow_May_1 mixed) row_May.ins_ok) (drawnOk cxrow_May_1 mixed) row_May.ins_ok) (drawnOk cxrow_May_1 mixed) row_May.ins_ok) mixed row_May.fn row_May.h (by kernel_rfl) row_May.ev
noncomputable def sprow_May:List (Nat×List (Nat×AK)×Lv.Spec):=(71,[],⟨1,row_May.si,row_May.so,row_May.F⟩)::sprow_May_1
noncomputable abbrev crow_May:Cx:=⟨tabAt tab0,eqAt eqs0,specAt sprow_May,0,specPAt sq0⟩
theorem cxrow_May:CxOk PP crow_May:=cxrow_May_1.consS [] row_May.fn.enters row_May.ok
/-! levee/rel.right -/
def rel_right.si:Sh:=⟨[(0,.v true [.sl 27 tValue,.int .i64])],[],[],0,[]⟩
def rel_right.so:Sh:=⟨[(0,.v false [.bool])],[],[],1000,[]⟩
def rel_right.h:H:=.n
noncomputable def rel_right.B:(List tValueT)×Int×Unit→Option (Bool×Unit):=fun (p0_0,p0_1,_)=>
  Option.bind (row_May.F (p0_0,())) fun y1=>
  (bif y1.1 then
  (bif (decide ((p0_0.length:Int)>(0:Int))) then
  bif (decide (0≤(0:Int))&&decide ((0:Int)<(p0_0.length:Int))) then
  let e2:tValueT:=(List.getD p0_0 0 tValue.z)
  (bif (e2.1 !=(0:Int)) then
  some ((decide (p0_1≥(0:Int))),())
  else
  some (false,()))
  else none
  else
  some (false,()))
  else
  some (false,()))
noncomputable def rel_right.F:(List tValueT)×Int×Unit→Option (Bool×Unit):=stk rel_right.B
theorem rel_right.eq:rel_right.F=rel_right.B:=stk_eq _
theorem rel_right.ev (x:TS rel_right.si):evF crow_May inl0 (Tryz.f88.body.getD .skip) Tryz.f88.results.toList rel_right.h rel_right.si rel_right.so x=rel_right.B x:=by kernel_rfl
theorem rel_right.fn:FnOk PP 88 (Tryz.f88.body.getD .skip) Tryz.f88.results.toList Tryz.f88.ntmps:=fnOk_mk (by kernel_rfl) (by kernel_rfl) (by kernel_rfl) (by kernel_rfl)
theorem rel_right.ok:SpecOk PP 88 ⟨1,rel_right.si,rel_right.so,rel_right.F⟩:=fn_stk cxrow_May (inl0_ok _ _) mixed rel_right.fn rel_right.h (by kernel_rfl) rel_right.ev
noncomputable def sprel_right:List (Nat×List (Nat×AK)×Lv.Spec):=(88,[],⟨1,rel_right.si,rel_right.so,rel_right.F⟩)::sprow_May
noncomputable abbrev crel_right:Cx:=⟨tabAt tab0,eqAt eqs0,specAt sprel_right,0,specPAt sq0⟩
theorem cxrel_right:CxOk PP crel_right:=cxrow_May.consS [] rel_right.fn.enters rel_right.ok
/-! cmp.isNaN[int] -/
def cmp_isNaN_int.si:Sh:=⟨[(0,.v false [.int .i64])],[],[],0,[]⟩
def cmp_isNaN_int.so:Sh:=⟨[(0,.v false [.bool])],[],[],1000,[]⟩
def cmp_isNaN_int.h:H:=.n
noncomputable def cmp_isNaN_int.B:Int×Unit→Option (Bool×Unit):=fun (p0,_)=>
  some ((p0 !=p0),())
noncomputable def cmp_isNaN_int.F:Int×Unit→Option (Bool×Unit):=stk cmp_isNaN_int.B
theorem cmp_isNaN_int.eq:cmp_isNaN_int.F=cmp_isNaN_int.B:=stk_eq _
theorem cmp_isNaN_int.ev (x:TS cmp_isNaN_int.si):evF crel_right inl0 (Tryz.f91.body.getD .skip) Tryz.f91.results.toList cmp_isNaN_int.h cmp_isNaN_int.si cmp_isNaN_int.so x=cmp_isNaN_int.B x:=by kernel_rfl
theorem cmp_isNaN_int.fn:FnOk PP 91 (Tryz.f91.body.getD .skip) Tryz.f91.results.toList Tryz.f91.ntmps:=fnOk_mk (by kernel_rfl) (by kernel_rfl) (by kernel_rfl) (by kernel_rfl)
theorem cmp_isNaN_int.ok:SpecOk PP 91 ⟨1,cmp_isNaN_int.si,cmp_isNaN_int.so,cmp_isNaN_int.F⟩:=fn_stk cxrel_right (inl0_ok _ _) mixed cmp_isNaN_int.fn cmp_isNaN_int.h (by kernel_rfl) cmp_isNaN_int.ev
noncomputable def spcmp_isNaN_int:List (Nat×List (Nat×AK)×Lv.Spec):=(91,[],⟨1,cmp_isNaN_int.si,cmp_isNaN_int.so,cmp_isNaN_int.F⟩)::sprel_right
noncomputable abbrev ccmp_isNaN_int:Cx:=⟨tabAt tab0,eqAt eqs0,specAt spcmp_isNaN_int,0,specPAt sq0⟩
theorem cxcmp_isNaN_int:CxOk PP ccmp_isNaN_int:=cxrel_right.consS [] cmp_isNaN_int.fn.enters cmp_isNaN_int.ok
/-! cmp.Compare[int] -/
def cmp_Compare_int.si:Sh:=⟨[(0,.v false [.int .i64]),(1,.v false [.int .i64])],[],[],0,[]⟩
def cmp_Compare_int.so:Sh:=⟨[(0,.v false [.int .i64])],[],[],1000,[]⟩
def cmp_Compare_int.h:H:=.n
noncomputable def cmp_Compare_int.B:Int×Int×Unit→Option (Int×Unit):=fun (p0,p1,_)=>
  Option.bind (cmp_isNaN_int.F (p0,())) fun y1=>
  Option.bind (cmp_isNaN_int.F (p1,())) fun y2=>
  (bif y1.1 then
  (bif y2.1 then
  some ((0:Int),())
  else
  some ((-1:Int),()))
  else
  (bif y2.1 then
  some ((1:Int),())
  else
  (bif (decide (p0<p1)) then
  some ((-1:Int),())
  else
  (bif (decide (p0>p1)) then
  some ((1:Int),())
  else
  some ((0:Int),())))))
noncomputable def cmp_Compare_int.F:Int×Int×Unit→Option (Int×Unit):=stk cmp_Compare_int.B
theorem cmp_Compare_int.eq:cmp_Compare_int.F=cmp_Compare_int.B:=stk_eq _
theorem cmp_Compare_int.ev (x:TS cmp_Compare_int.si):evF ccmp_isNaN_int inl0 (Tryz.f56.body.getD .skip) Tryz.f56.results.toList cmp_Compare_int.h cmp_Compare_int.si cmp_Compare_int.so x=cmp_Compare_int.B x:=by kernel_rfl
theorem cmp_Compare_int.fn:FnOk PP 56 (Tryz.f56.body.getD .skip) Tryz.f56.results.toList Tryz.f56.ntmps:=fnOk_mk (by kernel_rfl) (by kernel_rfl) (by kernel_rfl) (by kernel_rfl)
theorem cmp_Compare_int.ok:SpecOk PP 56 ⟨2,cmp_Compare_int.si,cmp_Compare_int.so,cmp_Compare_int.F⟩:=fn_stk cxcmp_isNaN_int (inl0_ok _ _) mixed cmp_Compare_int.fn cmp_Compare_int.h (by kernel_rfl) cmp_Compare_int.ev
noncomputable def spcmp_Compare_int:List (Nat×List (Nat×AK)×Lv.Spec):=(56,[],⟨2,cmp_Compare_int.si,cmp_Compare_int.so,cmp_Compare_int.F⟩)::spcmp_isNaN_int
noncomputable abbrev ccmp_Compare_int:Cx:=⟨tabAt tab0,eqAt eqs0,specAt spcmp_Compare_int,0,specPAt sq0⟩
theorem cxcmp_Compare_int:CxOk PP ccmp_Compare_int:=cxcmp_isNaN_int.consS [] cmp_Compare_int.fn.enters cmp_Compare_int.ok
/-! strings.Compare -/
def strings_Compare.si:Sh:=⟨[(0,.v false [.str]),(1,.v false [.str])],[],[],0,[]⟩
def strings_Compare.so:Sh:=⟨[(0,.v false [.int .i64])],[],[],1000,[]⟩
noncomputable def strings_Compare.B:TS strings_Compare.si→Option (TS strings_Compare.so):=fun (a,b,_)=>some (cmpB a b,())
noncomputable def strings_Compare.F:TS strings_Compare.si→Option (TS strings_Compare.so):=stk strings_Compare.B
theorem strings_Compare.eq:strings_Compare.F=strings_Compare.B:=stk_eq _
theorem strings_Compare.ok:SpecOk PP 57 ⟨2,strings_Compare.si,strings_Compare.so,strings_Compare.F⟩:=by
  rw [strings_Compare.eq]
  exact compare_ok
theorem strings_Compare.en:Lv.Enters PP 57:=⟨_,Tryz.func57,by kernel_rfl,by decide⟩
noncomputable def spstrings_Compare:List (Nat×List (Nat×AK)×Lv.Spec):=(57,[],⟨2,strings_Compare.si,strings_Compare.so,strings_Compare.F⟩)::spcmp_Compare_int
noncomputable abbrev cstrings_Compare:Cx:=⟨tabAt tab0,eqAt eqs0,specAt spstrings_Compare,0,specPAt sq0⟩
theorem cxstrings_Compare:CxOk PP cstrings_Compare:=cxcmp_Compare_int.consS [] strings_Compare.en strings_Compare.ok
/-! cmp.Or[int] -/
def cmp_Or_int.si:Sh:=⟨[(0,.v false [.sl 3 (.int .i64)])],[],[],0,[]⟩
def cmp_Or_int.so:Sh:=⟨[(0,.v false [.int .i64])],[],[],1000,[]⟩
def cmp_Or_int.h:H:=(.s none .n (.s none .n (.s none (.s none .n (.b (.l ⟨[(8,.v false [.int .i64])],[],[3,6,7],0,[]⟩ .n))) .n)))
noncomputable def cmp_Or_int.B:(List Int)×Unit→Option (Int×Unit):=fun (p0,_)=>
  loopM (S:=Int×Unit) (fun (x8,_)=>
  (bif (decide (x8<(p0.length:Int))) then
  bif (decide (0≤x8)&&decide (x8<(p0.length:Int))) then
  let e1:Int:=(List.getD p0 (Int.toNat x8) (0:Int))
  (bif (e1 !=(0:Int)) then
  some (.inr (e1,()))
  else
  let e2:Int:=(IntKind.i64.wrap (x8+(1:Int)))
  some (.inl (e2,())))
  else none
  else
  some (.inr ((0:Int),())))) ((0:Int),())
noncomputable def cmp_Or_int.F:(List Int)×Unit→Option (Int×Unit):=stk cmp_Or_int.B
theorem cmp_Or_int.eq:cmp_Or_int.F=cmp_Or_int.B:=stk_eq _
theorem cmp_Or_int.ev (x:TS cmp_Or_int.si):evF cstrings_Compare inl0 (Tryz.f55.body.getD .skip) Tryz.f55.results.toList cmp_Or_int.h cmp_Or_int.si cmp_Or_int.so x=cmp_Or_int.B x:=by kernel_rfl
theorem cmp_Or_int.fn:FnOk PP 55 (Tryz.f55.body.getD .skip) Tryz.f55.results.toList Tryz.f55.ntmps:=fnOk_mk (by kernel_rfl) (by kernel_rfl) (by kernel_rfl) (by kernel_rfl)
theorem cmp_Or_int.ok:SpecOk PP 55 ⟨1,cmp_Or_int.si,cmp_Or_int.so,cmp_Or_int.F⟩:=fn_stk cxstrings_Compare (inl0_ok _ _) mixed cmp_Or_int.fn cmp_Or_int.h (by kernel_rfl) cmp_Or_int.ev
noncomputable def spcmp_Or_int:List (Nat×List (Nat×AK)×Lv.Spec):=(55,[],⟨1,cmp_Or_int.si,cmp_Or_int.so,cmp_Or_int.F⟩)::spstrings_Compare
noncomputable abbrev ccmp_Or_int:Cx:=⟨tabAt tab0,eqAt eqs0,specAt spcmp_Or_int,0,specPAt sq0⟩
theorem cxcmp_Or_int:CxOk PP ccmp_Or_int:=cxstrings_Compare.consS [] cmp_Or_int.fn.enters cmp_Or_int.ok
/-! levee/value.Compare -/
def value_Compare.si:Sh:=⟨[(0,.v true [.int .i64,.int .i64,.str]),(1,.v true [.int .i64,.int .i64,.str])],[],[],0,[]⟩
def value_Compare.so:Sh:=⟨[(0,.v false [.int .i64])],[],[],1000,[]⟩
def value_Compare.h:H:=.n
noncomputable def value_Compare.B:Int×Int×ByteArray×Int×Int×ByteArray×Unit→Option (Int×Unit):=fun (p0_0,p0_1,p0_2,p1_0,p1_1,p1_2,_)=>
  Option.bind (cmp_Compare_int.F (p0_0,p1_0,())) fun y1=>
  Option.bind (cmp_Compare_int.F (p0_1,p1_1,())) fun y2=>
  Option.bind (strings_Compare.F (p0_2,p1_2,())) fun y3=>
  Option.bind (cmp_Or_int.F ([y1.1,y2.1,y3.1],())) fun y4=>
  some (y4.1,())
noncomputable def value_Compare.F:Int×Int×ByteArray×Int×Int×ByteArray×Unit→Option (Int×Unit):=stk value_Compare.B
theorem value_Compare.eq:value_Compare.F=value_Compare.B:=stk_eq _
theorem value_Compare.ev (x:TS value_Compare.si):evF ccmp_Or_int inl0 (Tryz.f27.body.getD .skip) Tryz.f27.results.toList value_Compare.h value_Compare.si value_Compare.so x=value_Compare.B x:=by kernel_rfl
theorem value_Compare.fn:FnOk PP 27 (Tryz.f27.body.getD .skip) Tryz.f27.results.toList Tryz.f27.ntmps:=fnOk_mk (by kernel_rfl) (by kernel_rfl) (by kernel_rfl) (by kernel_rfl)
theorem value_Compare.ok:SpecOk PP 27 ⟨2,value_Compare.si,value_Compare.so,value_Compare.F⟩:=fn_stk cxcmp_Or_int (inl0_ok _ _) mixed value_Compare.fn value_Compare.h (by kernel_rfl) value_Compare.ev
noncomputable def spvalue_Compare:List (Nat×List (Nat×AK)×Lv.Spec):=(27,[],⟨2,value_Compare.si,value_Compare.so,value_Compare.F⟩)::spcmp_Or_int
noncomputable abbrev cvalue_Compare:Cx:=⟨tabAt tab0,eqAt eqs0,specAt spvalue_Compare,0,specPAt sq0⟩
theorem cxvalue_Compare:CxOk PP cvalue_Compare:=cxcmp_Or_int.consS [] value_Compare.fn.enters value_Compare.ok
/-! levee/rel.May -/
def rel_May.si:Sh:=⟨[(0,.v true [.str,.sl 77 tRec])],[],[],0,[]⟩
def rel_May.so:Sh:=⟨[(0,.v false [.bool])],[],[],1000,[]⟩
def rel_May.h:H:=(.s none .n (.s none (.s none .n (.b (.l ⟨[(8,.v false [.int .i64])],[],[1,6,7],0,[]⟩ .n))) .n))
noncomputable def rel_May.B:ByteArray×(List tRecT)×Unit→Option (Bool×Unit):=fun (p0_0,p0_1,_)=>
  loopM (S:=Int×Unit) (fun (x8,_)=>
  (bif (decide (x8<(p0_1.length:Int))) then
  bif (decide (0≤x8)&&decide (x8<(p0_1.length:Int))) then
  let e1:tRecT:=(List.getD p0_1 (Int.toNat x8) tRec.z)
  Option.bind (rel_right.F (e1.1,e1.2,())) fun y2=>
  (bif (!y2.1) then
  some (.inr (false,()))
  else
  (bif (decide (x8>(0:Int))) then
  let e3:Int:=(IntKind.i64.wrap (x8-(1:Int)))
  bif (decide (0≤e3)&&decide (e3<(p0_1.length:Int))) then
  let e4:tRecT:=(List.getD p0_1 (Int.toNat e3) tRec.z)
  bif (decide (0≤(0:Int))&&decide ((0:Int)<(e4.1.length:Int))) then
  let e5:tValueT:=(List.getD e4.1 0 tValue.z)
  bif (decide (0≤(0:Int))&&decide ((0:Int)<(e1.1.length:Int))) then
  let e6:tValueT:=(List.getD e1.1 0 tValue.z)
  Option.bind (value_Compare.F (e5.1,e5.2.1,e5.2.2,e6.1,e6.2.1,e6.2.2,())) fun y7=>
  (bif (decide (y7.1≥(0:Int))) then
  some (.inr (false,()))
  else
  let e8:Int:=(IntKind.i64.wrap (x8+(1:Int)))
  some (.inl (e8,())))
  else none
  else none
  else none
  else
  let e9:Int:=(IntKind.i64.wrap (x8+(1:Int)))
  some (.inl (e9,()))))
  else none
  else
  some (.inr (true,())))) ((0:Int),())
noncomputable def rel_May.F:ByteArray×(List tRecT)×Unit→Option (Bool×Unit):=stk rel_May.B
theorem rel_May.eq:rel_May.F=rel_May.B:=stk_eq _
theorem rel_May.ev (x:TS rel_May.si):evF cvalue_Compare inl0 (Tryz.f50.body.getD .skip) Tryz.f50.results.toList rel_May.h rel_May.si rel_May.so x=rel_May.B x:=by kernel_rfl
theorem rel_May.fn:FnOk PP 50 (Tryz.f50.body.getD .skip) Tryz.f50.results.toList Tryz.f50.ntmps:=fnOk_mk (by kernel_rfl) (by kernel_rfl) (by kernel_rfl) (by kernel_rfl)
theorem rel_May.ok:SpecOk PP 50 ⟨1,rel_May.si,rel_May.so,rel_May.F⟩:=fn_stk cxvalue_Compare (inl0_ok _ _) mixed rel_May.fn rel_May.h (by kernel_rfl) rel_May.ev
noncomputable def sprel_May:List (Nat×List (Nat×AK)×Lv.Spec):=(50,[],⟨1,rel_May.si,rel_May.so,rel_May.F⟩)::spvalue_Compare
noncomputable abbrev crel_May:Cx:=⟨tabAt tab0,eqAt eqs0,specAt sprel_May,0,specPAt sq0⟩
theorem cxrel_May:CxOk PP crel_May:=cxvalue_Compare.consS [] rel_May.fn.enters rel_May.ok
/-! levee/rel.find$1 -/
def rel_find_1.si:Sh:=⟨[(0,.v true [.sl 27 tValue,.int .i64]),(1,.v true [.int .i64,.int .i64,.str])],[],[],0,[]⟩
def rel_find_1.so:Sh:=⟨[(0,.v false [.int .i64])],[],[],1000,[]⟩
def rel_find_1.h:H:=.n
noncomputable def rel_find_1.B:(List tValueT)×Int×Int×Int×ByteArray×Unit→Option (Int×Unit):=fun (p0_0,p0_1,p1_0,p1_1,p1_2,_)=>
  bif (decide (0≤(0:Int))&&decide ((0:Int)<(p0_0.length:Int))) then
  let e1:tValueT:=(List.getD p0_0 0 tValue.z)
  Option.bind (value_Compare.F (e1.1,e1.2.1,e1.2.2,p1_0,p1_1,p1_2,())) fun y2=>
  some (y2.1,())
  else none
noncomputable def rel_find_1.F:(List tValueT)×Int×Int×Int×ByteArray×Unit→Option (Int×Unit):=stk rel_find_1.B
theorem rel_find_1.eq:rel_find_1.F=rel_find_1.B:=stk_eq _
theorem rel_find_1.ev (x:TS rel_find_1.si):evF crel_May inl0 (Tryz.f90.body.getD .skip) Tryz.f90.results.toList rel_find_1.h rel_find_1.si rel_find_1.so x=rel_find_1.B x:=by kernel_rfl
theorem rel_find_1.fn:FnOk PP 90 (Tryz.f90.body.getD .skip) Tryz.f90.results.toList Tryz.f90.ntmps:=fnOk_mk (by kernel_rfl) (by kernel_rfl) (by kernel_rfl) (by kernel_rfl)
theorem rel_find_1.ok:SpecOk PP 90 ⟨2,rel_find_1.si,rel_find_1.so,rel_find_1.F⟩:=fn_stk cxrel_May (inl0_ok _ _) mixed rel_find_1.fn rel_find_1.h (by kernel_rfl) rel_find_1.ev
noncomputable def sprel_find_1:List (Nat×List (Nat×AK)×Lv.Spec):=(90,[],⟨2,rel_find_1.si,rel_find_1.so,rel_find_1.F⟩)::sprel_May
noncomputable abbrev crel_find_1:Cx:=⟨tabAt tab0,eqAt eqs0,specAt sprel_find_1,0,specPAt sq0⟩
theorem cxrel_find_1:CxOk PP crel_find_1:=cxrel_May.consS [] rel_find_1.fn.enters rel_find_1.ok
/-! levee/rel.find -/
def rel_find.si:Sh:=⟨[(0,.v true [.str,.sl 77 tRec]),(1,.v true [.int .i64,.int .i64,.str])],[],[],0,[]⟩
def rel_find.so:Sh:=⟨[(0,.tup [(false,[.int .i64]),(false,[.bool])])],[],[],1000,[]⟩
def rel_find.h:H:=.n
noncomputable def rel_find.B:ByteArray×(List tRecT)×Int×Int×ByteArray×Unit→Option (Int×Bool×Unit):=fun (p0_0,p0_1,p1_0,p1_1,p1_2,_)=>
  Option.bind (
  loopM (S:=Int×Int×Unit) (fun (x9,x10,_)=>
  (bif (decide (x9<x10)) then
  let e1:Int:=(IntKind.i64.wrap (x9+x10))
  bif (!decide ((1:Int)<0)) then
  Option.bind (
  bif (decide (0≤(IntKind.i64.wrap ((Int.fdiv (IntKind.u64.wrap (e1)) (2^min (Int.toNat (1:Int)) IntKind.u64.bits)))))&&decide ((IntKind.i64.wrap ((Int.fdiv (IntKind.u64.wrap (e1)) (2^min (Int.toNat (1:Int)) IntKind.u64.bits))))<(p0_1.length:Int))) then
  let e2:tRecT:=(List.getD p0_1 (Int.toNat (IntKind.i64.wrap ((Int.fdiv (IntKind.u64.wrap (e1)) (2^min (Int.toNat (1:Int)) IntKind.u64.bits))))) tRec.z)
  Option.bind (rel_find_1.F (e2.1,e2.2,p1_0,p1_1,p1_2,())) fun y3=>
  some (.inl ((decide (y3.1<(0:Int))),()))
  else none:Option ((Bool×Unit)⊕_)) fun r4=>match r4 with
  | .inl (x31_4,_)=>
  ((bif x31_4 then
  let e5:Int:=(IntKind.i64.wrap ((IntKind.i64.wrap ((Int.fdiv (IntKind.u64.wrap (e1)) (2^min (Int.toNat (1:Int)) IntKind.u64.bits))))+(1:Int)))
  some (.inl (e5,x10,()))
  else
  some (.inl (x9,(IntKind.i64.wrap ((Int.fdiv (IntKind.u64.wrap (e1)) (2^min (Int.toNat (1:Int)) IntKind.u64.bits)))),()))))
  | .inr r=>some r
  else none
  else
  some (.inr (.inl (x9,()))))) ((0:Int),(p0_1.length:Int),()):Option ((Int×Unit)⊕_)) fun r6=>match r6 with
  | .inl (x9_6,_)=>
  ((bif (decide (x9_6<(p0_1.length:Int))) then
  bif (decide (0≤x9_6)&&decide (x9_6<(p0_1.length:Int))) then
  let e7:tRecT:=(List.getD p0_1 (Int.toNat x9_6) tRec.z)
  Option.bind (rel_find_1.F (e7.1,e7.2,p1_0,p1_1,p1_2,())) fun y8=>
  some (x9_6,(y8.1==(0:Int)),())
  else none
  else
  some (x9_6,false,())))
  | .inr r=>some r
noncomputable def rel_find.F:ByteArray×(List tRecT)×Int×Int×ByteArray×Unit→Option (Int×Bool×Unit):=stk rel_find.B
theorem rel_find.eq:rel_find.F=rel_find.B:=stk_eq _
noncomputable def rel_find.ins:Nat→List (Option Slot)→Heap→Option (Code×List ResultVar×H):=fun g xs hp=>bif Nat.beq g 89 then some (Tryz.f89.body.getD .skip,Tryz.f89.results.toList,(.s none .n (.s none .n (.s none .n (.s (some ⟨[(9,.v false [.int .i64])],[],[0,2,4,8],0,[]⟩) (.b (.l ⟨[(9,.v false [.int .i64]),(10,.v false [.int .i64])],[],[0,2,4,8],0,[]⟩ (.s none .n (.b (.s none .n (.s (some ⟨[(31,.v false [.bool])],[],[0,2,4,8,9,10,11],0,[]⟩) .n .n)))))) .n))))) else none
theorem rel_find.ins_ok:∀n xs hp code res h,rel_find.ins n xs hp=some (code,res,h)→∃nt,FnOk PP n code res nt:=by
  intro n xs hp code res h e
  unfold rel_find.ins at e
  cases e0:(Nat.beq n 89) with
  |true=>rw [e0] at e;cases e;rw [Nat.eq_of_beq_eq_true e0];exact ⟨_,fnOk_mk (by kernel_rfl) (by kernel_rfl) (by kernel_rfl) (by kernel_rfl)⟩
  |false=>
  rw [e0] at e
  cases e
theorem rel_find.ev (x:TS rel_find.si):evF crel_find_1 (inlS crel_find_1 rel_find.ins (inlS crel_find_1 rel_find.ins (inlS crel_find_1 rel_find.ins inl0))) (Tryz.f51.body.getD .skip) Tryz.f51.results.toList rel_find.h rel_find.si rel_find.so x=rel_find.B x:=by kernel_rfl
theorem rel_find.fn:FnOk PP 51 (Tryz.f51.body.getD .skip) Tryz.f51.results.toList Tryz.f51.ntmps:=fnOk_mk (by kernel_rfl) (by kernel_rfl) (by kernel_rfl) (by kernel_rfl)
theorem rel_find.ok:SpecOk PP 51 ⟨2,rel_find.si,rel_find.so,rel_find.F⟩:=fn_stk cxrel_find_1 (inlS_ok cxrel_find_1 (inlS_ok cxrel_find_1 (inlS_ok cxrel_find_1 (inl0_ok _ _) (drawnOk cxrel_find_1 mixed) rel_find.ins_ok) (drawnOk cxrel_find_1 mixed) rel_find.ins_ok) (drawnOk cxrel_find_1 mixed) rel_find.ins_ok) mixed rel_find.fn rel_find.h (by kernel_rfl) rel_find.ev
noncomputable def sprel_find:List (Nat×List (Nat×AK)×Lv.Spec):=(51,[],⟨2,rel_find.si,rel_find.so,rel_find.F⟩)::sprel_find_1
noncomputable abbrev crel_find:Cx:=⟨tabAt tab0,eqAt eqs0,specAt sprel_find,0,specPAt sq0⟩
theorem cxrel_find:CxOk PP crel_find:=cxrel_find_1.consS [] rel_find.fn.enters rel_find.ok
/-! levee/rel.copied -/
def rel_copied.si:Sh:=⟨[(0,.v true [.sl 27 tValue,.int .i64])],[],[],0,[]⟩
def rel_copied.so:Sh:=⟨[(0,.v true [.ref 1000,.int .i64])],[(1000,false,.arr 27 tValue)],[],1001,[]⟩
def rel_copied.h:H:=.n
noncomputable def rel_copied.B:(List tValueT)×Int×Unit→Option (Int×(List tValueT)×Unit):=fun (p0_0,p0_1,_)=>
  Option.bind (slices_Clone_api_Row_api_Value.F (p0_0,())) fun y1=>
  some (p0_1,y1.1,())
noncomputable def rel_copied.F:(List tValueT)×Int×Unit→Option (Int×(List tValueT)×Unit):=stk rel_copied.B
theorem rel_copied.eq:rel_copied.F=rel_copied.B:=stk_eq _
theorem rel_copied.ev (x:TS rel_copied.si):evF crel_find inl0 (Tryz.f61.body.getD .skip) Tryz.f61.results.toList rel_copied.h rel_copied.si rel_copied.so x=rel_copied.B x:=by kernel_rfl
theorem rel_copied.fn:FnOk PP 61 (Tryz.f61.body.getD .skip) Tryz.f61.results.toList Tryz.f61.ntmps:=fnOk_mk (by kernel_rfl) (by kernel_rfl) (by kernel_rfl) (by kernel_rfl)
theorem rel_copied.ok:SpecOk PP 61 ⟨1,rel_copied.si,rel_copied.so,rel_copied.F⟩:=fn_stk cxrel_find (inl0_ok _ _) mixed rel_copied.fn rel_copied.h (by kernel_rfl) rel_copied.ev
noncomputable def sprel_copied:List (Nat×List (Nat×AK)×Lv.Spec):=(61,[],⟨1,rel_copied.si,rel_copied.so,rel_copied.F⟩)::sprel_find
noncomputable abbrev crel_copied:Cx:=⟨tabAt tab0,eqAt eqs0,specAt sprel_copied,0,specPAt sq0⟩
theorem cxrel_copied:CxOk PP crel_copied:=cxrel_find.consS [] rel_copied.fn.enters rel_copied.ok
/-! levee/rel.Get -/
def rel_Get.si:Sh:=⟨[(0,.v true [.str,.sl 77 tRec]),(1,.v true [.int .i64,.int .i64,.str])],[],[],0,[]⟩
def rel_Get.so:Sh:=⟨[(0,.tup [(true,[.ref 1000,.int .i64]),(false,[.bool])])],[(1000,false,.arr 27 tValue)],[],1001,[]⟩
def rel_Get.h:H:=.n
noncomputable def rel_Get.B:ByteArray×(List tRecT)×Int×Int×ByteArray×Unit→Option (Int×Bool×(List tValueT)×Unit):=fun (p0_0,p0_1,p1_0,p1_1,p1_2,_)=>
  Option.bind (rel_May.F (p0_0,p0_1,())) fun y1=>
  (bif (!y1.1) then
  some ((0:Int),false,[],())
  else
  Option.bind (rel_find.F (p0_0,p0_1,p1_0,p1_1,p1_2,())) fun y2=>
  (bif (!y2.2.1) then
  some ((0:Int),false,[],())
  else
  bif (decide (0≤y2.1)&&decide (y2.1<(p0_1.length:Int))) then
  let e3:tRecT:=(List.getD p0_1 (Int.toNat y2.1) tRec.z)
  Option.bind (rel_copied.F (e3.1,e3.2,())) fun y4=>
  some (y4.1,true,y4.2.1,())
  else none))
noncomputable def rel_Get.F:ByteArray×(List tRecT)×Int×Int×ByteArray×Unit→Option (Int×Bool×(List tValueT)×Unit):=stk rel_Get.B
theorem rel_Get.eq:rel_Get.F=rel_Get.B:=stk_eq _
theorem rel_Get.ev (x:TS rel_Get.si):evF crel_copied inl0 (Tryz.f33.body.getD .skip) Tryz.f33.results.toList rel_Get.h rel_Get.si rel_Get.so x=rel_Get.B x:=by kernel_rfl
theorem rel_Get.fn:FnOk PP 33 (Tryz.f33.body.getD .skip) Tryz.f33.results.toList Tryz.f33.ntmps:=fnOk_mk (by kernel_rfl) (by kernel_rfl) (by kernel_rfl) (by kernel_rfl)
theorem rel_Get.ok:SpecOk PP 33 ⟨2,rel_Get.si,rel_Get.so,rel_Get.F⟩:=fn_stk cxrel_copied (inl0_ok _ _) mixed rel_Get.fn rel_Get.h (by kernel_rfl) rel_Get.ev
noncomputable def sprel_Get:List (Nat×List (Nat×AK)×Lv.Spec):=(33,[],⟨2,rel_Get.si,rel_Get.so,rel_Get.F⟩)::sprel_copied
noncomputable abbrev crel_Get:Cx:=⟨tabAt tab0,eqAt eqs0,specAt sprel_Get,0,specPAt sq0⟩
theorem cxrel_Get:CxOk PP crel_Get:=cxrel_copied.consS [] rel_Get.fn.enters rel_Get.ok
/-! levee/leveelaw21.one -/
def L21_one.si:Sh:=⟨[],[],[],0,[]⟩
def L21_one.so:Sh:=⟨[(0,.v false [.ref 1000])],[(1000,false,.arr 110 tDef)],[],1001,[]⟩
def L21_one.h:H:=.n
noncomputable def L21_one.B:Unit→Option ((List tDefT)×Unit):=fun (_)=>
  some ([((0:Int),(((⟨#[116]⟩:ByteArray),([((⟨#[107]⟩:ByteArray),((2:Int),(false,(false,((⟨#[]⟩:ByteArray),(0:Int)))))),((⟨#[97]⟩:ByteArray),((2:Int),(false,(false,((⟨#[]⟩:ByteArray),(0:Int))))))],([]:List (List tNodeT)))),((⟨#[]⟩:ByteArray),((⟨#[]⟩:ByteArray),((⟨#[]⟩:ByteArray),(((0:Int),(0:Int)),(([]:List tNodeT),(([]:List Int),(false,([]:List tAggT))))))))))],())
noncomputable def L21_one.F:Unit→Option ((List tDefT)×Unit):=stk L21_one.B
theorem L21_one.eq:L21_one.F=L21_one.B:=stk_eq _
theorem L21_one.ev (x:TS L21_one.si):evF crel_Get inl0 (Tryz.f13.body.getD .skip) Tryz.f13.results.toList L21_one.h L21_one.si L21_one.so x=L21_one.B x:=by kernel_rfl
theorem L21_one.fn:FnOk PP 13 (Tryz.f13.body.getD .skip) Tryz.f13.results.toList Tryz.f13.ntmps:=fnOk_mk (by kernel_rfl) (by kernel_rfl) (by kernel_rfl) (by kernel_rfl)
theorem L21_one.ok:SpecOk PP 13 ⟨0,L21_one.si,L21_one.so,L21_one.F⟩:=fn_stk cxrel_Get (inl0_ok _ _) mixed L21_one.fn L21_one.h (by kernel_rfl) L21_one.ev
noncomputable def spL21_one:List (Nat×List (Nat×AK)×Lv.Spec):=(13,[],⟨0,L21_one.si,L21_one.so,L21_one.F⟩)::sprel_Get
noncomputable abbrev cL21_one:Cx:=⟨tabAt tab0,eqAt eqs0,specAt spL21_one,0,specPAt sq0⟩
theorem cxL21_one:CxOk PP cL21_one:=cxrel_Get.consS [] L21_one.fn.enters L21_one.ok
/-! levee/leveeref01.Int -/
def R01_Int.si:Sh:=⟨[(0,.v false [.int .i64])],[],[],0,[]⟩
def R01_Int.so:Sh:=⟨[(0,.v true [.int .i64,.int .i64,.str])],[],[],1000,[]⟩
def R01_Int.h:H:=.n
noncomputable def R01_Int.B:Int×Unit→Option (Int×Int×ByteArray×Unit):=fun (p0,_)=>
  some ((2:Int),p0,(⟨#[]⟩:ByteArray),())
noncomputable def R01_Int.F:Int×Unit→Option (Int×Int×ByteArray×Unit):=stk R01_Int.B
theorem R01_Int.eq:R01_Int.F=R01_Int.B:=stk_eq _
theorem R01_Int.ev (x:TS R01_Int.si):evF cL21_one inl0 (Tryz.f17.body.getD .skip) Tryz.f17.results.toList R01_Int.h R01_Int.si R01_Int.so x=R01_Int.B x:=by kernel_rfl
theorem R01_Int.fn:FnOk PP 17 (Tryz.f17.body.getD .skip) Tryz.f17.results.toList Tryz.f17.ntmps:=fnOk_mk (by kernel_rfl) (by kernel_rfl) (by kernel_rfl) (by kernel_rfl)
theorem R01_Int.ok:SpecOk PP 17 ⟨1,R01_Int.si,R01_Int.so,R01_Int.F⟩:=fn_stk cxL21_one (inl0_ok _ _) mixed R01_Int.fn R01_Int.h (by kernel_rfl) R01_Int.ev
noncomputable def spR01_Int:List (Nat×List (Nat×AK)×Lv.Spec):=(17,[],⟨1,R01_Int.si,R01_Int.so,R01_Int.F⟩)::spL21_one
noncomputable abbrev cR01_Int:Cx:=⟨tabAt tab0,eqAt eqs0,specAt spR01_Int,0,specPAt sq0⟩
theorem cxR01_Int:CxOk PP cR01_Int:=cxL21_one.consS [] R01_Int.fn.enters R01_Int.ok
/-! levee/leveelaw21.put -/
def L21_put.si:Sh:=⟨[(0,.v false [.int .i64]),(1,.v false [.int .i64])],[],[],0,[]⟩
def L21_put.so:Sh:=⟨[(0,.v true [.int .i64,.str,.ref 1000])],[(1000,false,.arr 27 tValue)],[],1001,[]⟩
def L21_put.h:H:=.n
noncomputable def L21_put.B:Int×Int×Unit→Option (Int×ByteArray×(List tValueT)×Unit):=fun (p0,p1,_)=>
  Option.bind (R01_Int.F (p0,())) fun y1=>
  Option.bind (R01_Int.F (p1,())) fun y2=>
  some ((2:Int),(⟨#[116]⟩:ByteArray),[(y1.1,(y1.2.1,y1.2.2.1)),(y2.1,(y2.2.1,y2.2.2.1))],())
noncomputable def L21_put.F:Int×Int×Unit→Option (Int×ByteArray×(List tValueT)×Unit):=stk L21_put.B
theorem L21_put.eq:L21_put.F=L21_put.B:=stk_eq _
theorem L21_put.ev (x:TS L21_put.si):evF cR01_Int inl0 (Tryz.f16.body.getD .skip) Tryz.f16.results.toList L21_put.h L21_put.si L21_put.so x=L21_put.B x:=by kernel_rfl
theorem L21_put.fn:FnOk PP 16 (Tryz.f16.body.getD .skip) Tryz.f16.results.toList Tryz.f16.ntmps:=fnOk_mk (by kernel_rfl) (by kernel_rfl) (by kernel_rfl) (by kernel_rfl)
theorem L21_put.ok:SpecOk PP 16 ⟨2,L21_put.si,L21_put.so,L21_put.F⟩:=fn_stk cxR01_Int (inl0_ok _ _) mixed L21_put.fn L21_put.h (by kernel_rfl) L21_put.ev
noncomputable def spL21_put:List (Nat×List (Nat×AK)×Lv.Spec):=(16,[],⟨2,L21_put.si,L21_put.so,L21_put.F⟩)::spR01_Int
noncomputable abbrev cL21_put:Cx:=⟨tabAt tab0,eqAt eqs0,specAt spL21_put,0,specPAt sq0⟩
theorem cxL21_put:CxOk PP cL21_put:=cxR01_Int.consS [] L21_put.fn.enters L21_put.ok
/-! slices.Clone[[]levee/api.Read,levee/api.Read] -/
def slices_Clone_sl_api_Read_api_Read.si:Sh:=⟨[(0,.v false [.sl 143 tRead])],[],[],0,[]⟩
def slices_Clone_sl_api_Read_api_Read.so:Sh:=⟨[(0,.v false [.ref 1000])],[(1000,false,.arr 143 tRead)],[],1001,[]⟩
def slices_Clone_sl_api_Read_api_Read.h:H:=.n
noncomputable def slices_Clone_sl_api_Read_api_Read.B:(List tReadT)×Unit→Option ((List tReadT)×Unit):=fun (p0,_)=>
  (bif p0.isEmpty then
  both (fun b1=>(bif b1 then
  some ([],())
  else
  bif (Nat.ble (([]:List tReadT).length+p0.length) 2513169434916) then
  some ((([]:List tReadT)++p0),())
  else none))
  else
  bif (Nat.ble (([]:List tReadT).length+p0.length) 2513169434916) then
  some ((([]:List tReadT)++p0),())
  else none)
noncomputable def slices_Clone_sl_api_Read_api_Read.F:(List tReadT)×Unit→Option ((List tReadT)×Unit):=stk slices_Clone_sl_api_Read_api_Read.B
theorem slices_Clone_sl_api_Read_api_Read.eq:slices_Clone_sl_api_Read_api_Read.F=slices_Clone_sl_api_Read_api_Read.B:=stk_eq _
theorem slices_Clone_sl_api_Read_api_Read.ev (x:TS slices_Clone_sl_api_Read_api_Read.si):evF cL21_put inl0 (Tryz.f62.body.getD .skip) Tryz.f62.results.toList slices_Clone_sl_api_Read_api_Read.h slices_Clone_sl_api_Read_api_Read.si slices_Clone_sl_api_Read_api_Read.so x=slices_Clone_sl_api_Read_api_Read.B x:=by kernel_rfl
theorem slices_Clone_sl_api_Read_api_Read.fn:FnOk PP 62 (Tryz.f62.body.getD .skip) Tryz.f62.results.toList Tryz.f62.ntmps:=fnOk_mk (by kernel_rfl) (by kernel_rfl) (by kernel_rfl) (by kernel_rfl)
theorem slices_Clone_sl_api_Read_api_Read.ok:SpecOk PP 62 ⟨1,slices_Clone_sl_api_Read_api_Read.si,slices_Clone_sl_api_Read_api_Read.so,slices_Clone_sl_api_Read_api_Read.F⟩:=fn_stk cxL21_put (inl0_ok _ _) mixed slices_Clone_sl_api_Read_api_Read.fn slices_Clone_sl_api_Read_api_Read.h (by kernel_rfl) slices_Clone_sl_api_Read_api_Read.ev
noncomputable def spslices_Clone_sl_api_Read_api_Read:List (Nat×List (Nat×AK)×Lv.Spec):=(62,[],⟨1,slices_Clone_sl_api_Read_api_Read.si,slices_Clone_sl_api_Read_api_Read.so,slices_Clone_sl_api_Read_api_Read.F⟩)::spL21_put
noncomputable abbrev cslices_Clone_sl_api_Read_api_Read:Cx:=⟨tabAt tab0,eqAt eqs0,specAt spslices_Clone_sl_api_Read_api_Read,0,specPAt sq0⟩
theorem cxslices_Clone_sl_api_Read_api_Read:CxOk PP cslices_Clone_sl_api_Read_api_Read:=cxL21_put.consS [] slices_Clone_sl_api_Read_api_Read.fn.enters slices_Clone_sl_api_Read_api_Read.ok
/-! slices.Clone[[]levee/api.Range,levee/api.Range] -/
def slices_Clone_sl_api_Range_api_Range.si:Sh:=⟨[(0,.v false [.sl 128 tRange])],[],[],0,[]⟩
def slices_Clone_sl_api_Range_api_Range.so:Sh:=⟨[(0,.v false [.ref 1000])],[(1000,false,.arr 128 tRange)],[],1001,[]⟩
def slices_Clone_sl_api_Range_api_Range.h:H:=.n
noncomputable def slices_Clone_sl_api_Range_api_Range.B:(List tRangeT)×Unit→Option ((List tRangeT)×Unit):=fun (p0,_)=>
  (bif p0.isEmpty then
  both (fun b1=>(bif b1 then
  some ([],())
  else
  bif (Nat.ble (([]:List tRangeT).length+p0.length) 1353245080339) then
  some ((([]:List tRangeT)++p0),())
  else none))
  else
  bif (Nat.ble (([]:List tRangeT).length+p0.length) 1353245080339) then
  some ((([]:List tRangeT)++p0),())
  else none)
noncomputable def slices_Clone_sl_api_Range_api_Range.F:(List tRangeT)×Unit→Option ((List tRangeT)×Unit):=stk slices_Clone_sl_api_Range_api_Range.B
theorem slices_Clone_sl_api_Range_api_Range.eq:slices_Clone_sl_api_Range_api_Range.F=slices_Clone_sl_api_Range_api_Range.B:=stk_eq _
theorem slices_Clone_sl_api_Range_api_Range.ev (x:TS slices_Clone_sl_api_Range_api_Range.si):evF cslices_Clone_sl_api_Read_api_Read inl0 (Tryz.f63.body.getD .skip) Tryz.f63.results.toList slices_Clone_sl_api_Range_api_Range.h slices_Clone_sl_api_Range_api_Range.si slices_Clone_sl_api_Range_api_Range.so x=slices_Clone_sl_api_Range_api_Range.B x:=by kernel_rfl
theorem slices_Clone_sl_api_Range_api_Range.fn:FnOk PP 63 (Tryz.f63.body.getD .skip) Tryz.f63.results.toList Tryz.f63.ntmps:=fnOk_mk (by kernel_rfl) (by kernel_rfl) (by kernel_rfl) (by kernel_rfl)
theorem slices_Clone_sl_api_Range_api_Range.ok:SpecOk PP 63 ⟨1,slices_Clone_sl_api_Range_api_Range.si,slices_Clone_sl_api_Range_api_Range.so,slices_Clone_sl_api_Range_api_Range.F⟩:=fn_stk cxslices_Clone_sl_api_Read_api_Read (inl0_ok _ _) mixed slices_Clone_sl_api_Range_api_Range.fn slices_Clone_sl_api_Range_api_Range.h (by kernel_rfl) slices_Clone_sl_api_Range_api_Range.ev
noncomputable def spslices_Clone_sl_api_Range_api_Range:List (Nat×List (Nat×AK)×Lv.Spec):=(63,[],⟨1,slices_Clone_sl_api_Range_api_Range.si,slices_Clone_sl_api_Range_api_Range.so,slices_Clone_sl_api_Range_api_Range.F⟩)::spslices_Clone_sl_api_Read_api_Read
noncomputable abbrev cslices_Clone_sl_api_Range_api_Range:Cx:=⟨tabAt tab0,eqAt eqs0,specAt spslices_Clone_sl_api_Range_api_Range,0,specPAt sq0⟩
theorem cxslices_Clone_sl_api_Range_api_Range:CxOk PP cslices_Clone_sl_api_Range_api_Range:=cxslices_Clone_sl_api_Read_api_Read.consS [] slices_Clone_sl_api_Range_api_Range.fn.enters slices_Clone_sl_api_Range_api_Range.ok
/-! slices.Clone[[]levee/api.Look,levee/api.Look] -/
def slices_Clone_sl_api_Look_api_Look.si:Sh:=⟨[(0,.v false [.sl 126 tLook])],[],[],0,[]⟩
def slices_Clone_sl_api_Look_api_Look.so:Sh:=⟨[(0,.v false [.ref 1000])],[(1000,false,.arr 126 tLook)],[],1001,[]⟩
def slices_Clone_sl_api_Look_api_Look.h:H:=.n
noncomputable def slices_Clone_sl_api_Look_api_Look.B:(List tLookT)×Unit→Option ((List tLookT)×Unit):=fun (p0,_)=>
  (bif p0.isEmpty then
  both (fun b1=>(bif b1 then
  some ([],())
  else
  bif (Nat.ble (([]:List tLookT).length+p0.length) 3518437208883) then
  some ((([]:List tLookT)++p0),())
  else none))
  else
  bif (Nat.ble (([]:List tLookT).length+p0.length) 3518437208883) then
  some ((([]:List tLookT)++p0),())
  else none)
noncomputable def slices_Clone_sl_api_Look_api_Look.F:(List tLookT)×Unit→Option ((List tLookT)×Unit):=stk slices_Clone_sl_api_Look_api_Look.B
theorem slices_Clone_sl_api_Look_api_Look.eq:slices_Clone_sl_api_Look_api_Look.F=slices_Clone_sl_api_Look_api_Look.B:=stk_eq _
theorem slices_Clone_sl_api_Look_api_Look.ev (x:TS slices_Clone_sl_api_Look_api_Look.si):evF cslices_Clone_sl_api_Range_api_Range inl0 (Tryz.f64.body.getD .skip) Tryz.f64.results.toList slices_Clone_sl_api_Look_api_Look.h slices_Clone_sl_api_Look_api_Look.si slices_Clone_sl_api_Look_api_Look.so x=slices_Clone_sl_api_Look_api_Look.B x:=by kernel_rfl
theorem slices_Clone_sl_api_Look_api_Look.fn:FnOk PP 64 (Tryz.f64.body.getD .skip) Tryz.f64.results.toList Tryz.f64.ntmps:=fnOk_mk (by kernel_rfl) (by kernel_rfl) (by kernel_rfl) (by kernel_rfl)
theorem slices_Clone_sl_api_Look_api_Look.ok:SpecOk PP 64 ⟨1,slices_Clone_sl_api_Look_api_Look.si,slices_Clone_sl_api_Look_api_Look.so,slices_Clone_sl_api_Look_api_Look.F⟩:=fn_stk cxslices_Clone_sl_api_Range_api_Range (inl0_ok _ _) mixed slices_Clone_sl_api_Look_api_Look.fn slices_Clone_sl_api_Look_api_Look.h (by kernel_rfl) slices_Clone_sl_api_Look_api_Look.ev
noncomputable def spslices_Clone_sl_api_Look_api_Look:List (Nat×List (Nat×AK)×Lv.Spec):=(64,[],⟨1,slices_Clone_sl_api_Look_api_Look.si,slices_Clone_sl_api_Look_api_Look.so,slices_Clone_sl_api_Look_api_Look.F⟩)::spslices_Clone_sl_api_Range_api_Range
noncomputable abbrev cslices_Clone_sl_api_Look_api_Look:Cx:=⟨tabAt tab0,eqAt eqs0,specAt spslices_Clone_sl_api_Look_api_Look,0,specPAt sq0⟩
theorem cxslices_Clone_sl_api_Look_api_Look:CxOk PP cslices_Clone_sl_api_Look_api_Look:=cxslices_Clone_sl_api_Range_api_Range.consS [] slices_Clone_sl_api_Look_api_Look.fn.enters slices_Clone_sl_api_Look_api_Look.ok
/-! slices.Clone[levee/api.Bag,levee/api.Count] -/
def slices_Clone_api_Bag_api_Count.si:Sh:=⟨[(0,.v false [.sl 171 tRec])],[],[],0,[]⟩
def slices_Clone_api_Bag_api_Count.so:Sh:=⟨[(0,.v false [.ref 1000])],[(1000,false,.arr 171 tRec)],[],1001,[]⟩
def slices_Clone_api_Bag_api_Count.h:H:=.n
noncomputable def slices_Clone_api_Bag_api_Count.B:(List tRecT)×Unit→Option ((List tRecT)×Unit):=fun (p0,_)=>
  (bif p0.isEmpty then
  both (fun b1=>(bif b1 then
  some ([],())
  else
  bif (Nat.ble (([]:List tRecT).length+p0.length) 4398046511104) then
  some ((([]:List tRecT)++p0),())
  else none))
  else
  bif (Nat.ble (([]:List tRecT).length+p0.length) 4398046511104) then
  some ((([]:List tRecT)++p0),())
  else none)
noncomputable def slices_Clone_api_Bag_api_Count.F:(List tRecT)×Unit→Option ((List tRecT)×Unit):=stk slices_Clone_api_Bag_api_Count.B
theorem slices_Clone_api_Bag_api_Count.eq:slices_Clone_api_Bag_api_Count.F=slices_Clone_api_Bag_api_Count.B:=stk_eq _
theorem slices_Clone_api_Bag_api_Count.ev (x:TS slices_Clone_api_Bag_api_Count.si):evF cslices_Clone_sl_api_Look_api_Look inl0 (Tryz.f103.body.getD .skip) Tryz.f103.results.toList slices_Clone_api_Bag_api_Count.h slices_Clone_api_Bag_api_Count.si slices_Clone_api_Bag_api_Count.so x=slices_Clone_api_Bag_api_Count.B x:=by kernel_rfl
theorem slices_Clone_api_Bag_api_Count.fn:FnOk PP 103 (Tryz.f103.body.getD .skip) Tryz.f103.results.toList Tryz.f103.ntmps:=fnOk_mk (by kernel_rfl) (by kernel_rfl) (by kernel_rfl) (by kernel_rfl)
theorem slices_Clone_api_Bag_api_Count.ok:SpecOk PP 103 ⟨1,slices_Clone_api_Bag_api_Count.si,slices_Clone_api_Bag_api_Count.so,slices_Clone_api_Bag_api_Count.F⟩:=fn_stk cxslices_Clone_sl_api_Look_api_Look (inl0_ok _ _) mixed slices_Clone_api_Bag_api_Count.fn slices_Clone_api_Bag_api_Count.h (by kernel_rfl) slices_Clone_api_Bag_api_Count.ev
noncomputable def spslices_Clone_api_Bag_api_Count:List (Nat×List (Nat×AK)×Lv.Spec):=(103,[],⟨1,slices_Clone_api_Bag_api_Count.si,slices_Clone_api_Bag_api_Count.so,slices_Clone_api_Bag_api_Count.F⟩)::spslices_Clone_sl_api_Look_api_Look
noncomputable abbrev cslices_Clone_api_Bag_api_Count:Cx:=⟨tabAt tab0,eqAt eqs0,specAt spslices_Clone_api_Bag_api_Count,0,specPAt sq0⟩
theorem cxslices_Clone_api_Bag_api_Count:CxOk PP cslices_Clone_api_Bag_api_Count:=cxslices_Clone_sl_api_Look_api_Look.consS [] slices_Clone_api_Bag_api_Count.fn.enters slices_Clone_api_Bag_api_Count.ok
/-! levee/txn.counts -/
def txn_counts.si:Sh:=⟨[(0,.v false [.sl 171 tRec])],[],[],0,[]⟩
def txn_counts.so:Sh:=⟨[(0,.v false [.ref 1000])],[(1000,false,.arr 171 tRec)],[],1001,[]⟩
def txn_counts.h:H:=(.s none .n (.s none .n (.s none (.s none .n (.b (.l ⟨[(3,.v false [.ref 0]),(8,.v false [.ref 0]),(10,.v false [.int .i64])],[(0,true,.arr 171 tRec)],[9],1,[]⟩ .n))) .n)))
noncomputable def txn_counts.B:(List tRecT)×Unit→Option ((List tRecT)×Unit):=fun (p0,_)=>
  Option.bind (slices_Clone_api_Bag_api_Count.F (p0,())) fun y1=>
  loopM (S:=Int×(List tRecT)×Unit) (fun (x10,o3_0,_)=>
  (bif (decide (x10<(y1.1.length:Int))) then
  bif (decide (0≤x10)&&decide (x10<(o3_0.length:Int))) then
  let e2:tRecT:=(List.getD o3_0 (Int.toNat x10) tRec.z)
  Option.bind (slices_Clone_api_Row_api_Value.F (e2.1,())) fun y3=>
  bif (decide (0≤x10)&&decide (x10<(o3_0.length:Int))) then
  let e4:Int:=(IntKind.i64.wrap (x10+(1:Int)))
  some (.inl (e4,(List.set o3_0 (Int.toNat x10) (y3.1,(List.getD o3_0 (Int.toNat x10) tRec.z).2)),()))
  else none
  else none
  else
  some (.inr (o3_0,())))) ((0:Int),y1.1,())
noncomputable def txn_counts.F:(List tRecT)×Unit→Option ((List tRecT)×Unit):=stk txn_counts.B
theorem txn_counts.eq:txn_counts.F=txn_counts.B:=stk_eq _
theorem txn_counts.ev (x:TS txn_counts.si):evF cslices_Clone_api_Bag_api_Count inl0 (Tryz.f65.body.getD .skip) Tryz.f65.results.toList txn_counts.h txn_counts.si txn_counts.so x=txn_counts.B x:=by kernel_rfl
theorem txn_counts.fn:FnOk PP 65 (Tryz.f65.body.getD .skip) Tryz.f65.results.toList Tryz.f65.ntmps:=fnOk_mk (by kernel_rfl) (by kernel_rfl) (by kernel_rfl) (by kernel_rfl)
theorem txn_counts.ok:SpecOk PP 65 ⟨1,txn_counts.si,txn_counts.so,txn_counts.F⟩:=fn_stk cxslices_Clone_api_Bag_api_Count (inl0_ok _ _) mixed txn_counts.fn txn_counts.h (by kernel_rfl) txn_counts.ev
noncomputable def sptxn_counts:List (Nat×List (Nat×AK)×Lv.Spec):=(65,[],⟨1,txn_counts.si,txn_counts.so,txn_counts.F⟩)::spslices_Clone_api_Bag_api_Count
noncomputable abbrev ctxn_counts:Cx:=⟨tabAt tab0,eqAt eqs0,specAt sptxn_counts,0,specPAt sq0⟩
theorem cxtxn_counts:CxOk PP ctxn_counts:=cxslices_Clone_api_Bag_api_Count.consS [] txn_counts.fn.enters txn_counts.ok
/-! slices.Clone[[]levee/api.Write,levee/api.Write] -/
def slices_Clone_sl_api_Write_api_Write.si:Sh:=⟨[(0,.v false [.sl 68 tWrite])],[],[],0,[]⟩
def slices_Clone_sl_api_Write_api_Write.so:Sh:=⟨[(0,.v false [.ref 1000])],[(1000,false,.arr 68 tWrite)],[],1001,[]⟩
def slices_Clone_sl_api_Write_api_Write.h:H:=.n
noncomputable def slices_Clone_sl_api_Write_api_Write.B:(List tWriteT)×Unit→Option ((List tWriteT)×Unit):=fun (p0,_)=>
  (bif p0.isEmpty then
  both (fun b1=>(bif b1 then
  some ([],())
  else
  bif (Nat.ble (([]:List tWriteT).length+p0.length) 2932031007402) then
  some ((([]:List tWriteT)++p0),())
  else none))
  else
  bif (Nat.ble (([]:List tWriteT).length+p0.length) 2932031007402) then
  some ((([]:List tWriteT)++p0),())
  else none)
noncomputable def slices_Clone_sl_api_Write_api_Write.F:(List tWriteT)×Unit→Option ((List tWriteT)×Unit):=stk slices_Clone_sl_api_Write_api_Write.B
theorem slices_Clone_sl_api_Write_api_Write.eq:slices_Clone_sl_api_Write_api_Write.F=slices_Clone_sl_api_Write_api_Write.B:=stk_eq _
theorem slices_Clone_sl_api_Write_api_Write.ev (x:TS slices_Clone_sl_api_Write_api_Write.si):evF ctxn_counts inl0 (Tryz.f66.body.getD .skip) Tryz.f66.results.toList slices_Clone_sl_api_Write_api_Write.h slices_Clone_sl_api_Write_api_Write.si slices_Clone_sl_api_Write_api_Write.so x=slices_Clone_sl_api_Write_api_Write.B x:=by kernel_rfl
theorem slices_Clone_sl_api_Write_api_Write.fn:FnOk PP 66 (Tryz.f66.body.getD .skip) Tryz.f66.results.toList Tryz.f66.ntmps:=fnOk_mk (by kernel_rfl) (by kernel_rfl) (by kernel_rfl) (by kernel_rfl)
theorem slices_Clone_sl_api_Write_api_Write.ok:SpecOk PP 66 ⟨1,slices_Clone_sl_api_Write_api_Write.si,slices_Clone_sl_api_Write_api_Write.so,slices_Clone_sl_api_Write_api_Write.F⟩:=fn_stk cxtxn_counts (inl0_ok _ _) mixed slices_Clone_sl_api_Write_api_Write.fn slices_Clone_sl_api_Write_api_Write.h (by kernel_rfl) slices_Clone_sl_api_Write_api_Write.ev
noncomputable def spslices_Clone_sl_api_Write_api_Write:List (Nat×List (Nat×AK)×Lv.Spec):=(66,[],⟨1,slices_Clone_sl_api_Write_api_Write.si,slices_Clone_sl_api_Write_api_Write.so,slices_Clone_sl_api_Write_api_Write.F⟩)::sptxn_counts
noncomputable abbrev cslices_Clone_sl_api_Write_api_Write:Cx:=⟨tabAt tab0,eqAt eqs0,specAt spslices_Clone_sl_api_Write_api_Write,0,specPAt sq0⟩
theorem cxslices_Clone_sl_api_Write_api_Write:CxOk PP cslices_Clone_sl_api_Write_api_Write:=cxtxn_counts.consS [] slices_Clone_sl_api_Write_api_Write.fn.enters slices_Clone_sl_api_Write_api_Write.ok
/-! slices.Clone[[]levee/api.Stmt,levee/api.Stmt] -/
def slices_Clone_sl_api_Stmt_api_Stmt.si:Sh:=⟨[(0,.v false [.sl 56 tStmt])],[],[],0,[]⟩
def slices_Clone_sl_api_Stmt_api_Stmt.so:Sh:=⟨[(0,.v false [.ref 1000])],[(1000,false,.arr 56 tStmt)],[],1001,[]⟩
def slices_Clone_sl_api_Stmt_api_Stmt.h:H:=.n
noncomputable def slices_Clone_sl_api_Stmt_api_Stmt.B:(List tStmtT)×Unit→Option ((List tStmtT)×Unit):=fun (p0,_)=>
  (bif p0.isEmpty then
  both (fun b1=>(bif b1 then
  some ([],())
  else
  bif (Nat.ble (([]:List tStmtT).length+p0.length) 2932031007402) then
  some ((([]:List tStmtT)++p0),())
  else none))
  else
  bif (Nat.ble (([]:List tStmtT).length+p0.length) 2932031007402) then
  some ((([]:List tStmtT)++p0),())
  else none)
noncomputable def slices_Clone_sl_api_Stmt_api_Stmt.F:(List tStmtT)×Unit→Option ((List tStmtT)×Unit):=stk slices_Clone_sl_api_Stmt_api_Stmt.B
theorem slices_Clone_sl_api_Stmt_api_Stmt.eq:slices_Clone_sl_api_Stmt_api_Stmt.F=slices_Clone_sl_api_Stmt_api_Stmt.B:=stk_eq _
theorem slices_Clone_sl_api_Stmt_api_Stmt.ev (x:TS slices_Clone_sl_api_Stmt_api_Stmt.si):evF cslices_Clone_sl_api_Write_api_Write inl0 (Tryz.f67.body.getD .skip) Tryz.f67.results.toList slices_Clone_sl_api_Stmt_api_Stmt.h slices_Clone_sl_api_Stmt_api_Stmt.si slices_Clone_sl_api_Stmt_api_Stmt.so x=slices_Clone_sl_api_Stmt_api_Stmt.B x:=by kernel_rfl
theorem slices_Clone_sl_api_Stmt_api_Stmt.fn:FnOk PP 67 (Tryz.f67.body.getD .skip) Tryz.f67.results.toList Tryz.f67.ntmps:=fnOk_mk (by kernel_rfl) (by kernel_rfl) (by kernel_rfl) (by kernel_rfl)
theorem slices_Clone_sl_api_Stmt_api_Stmt.ok:SpecOk PP 67 ⟨1,slices_Clone_sl_api_Stmt_api_Stmt.si,slices_Clone_sl_api_Stmt_api_Stmt.so,slices_Clone_sl_api_Stmt_api_Stmt.F⟩:=fn_stk cxslices_Clone_sl_api_Write_api_Write (inl0_ok _ _) mixed slices_Clone_sl_api_Stmt_api_Stmt.fn slices_Clone_sl_api_Stmt_api_Stmt.h (by kernel_rfl) slices_Clone_sl_api_Stmt_api_Stmt.ev
noncomputable def spslices_Clone_sl_api_Stmt_api_Stmt:List (Nat×List (Nat×AK)×Lv.Spec):=(67,[],⟨1,slices_Clone_sl_api_Stmt_api_Stmt.si,slices_Clone_sl_api_Stmt_api_Stmt.so,slices_Clone_sl_api_Stmt_api_Stmt.F⟩)::spslices_Clone_sl_api_Write_api_Write
noncomputable abbrev cslices_Clone_sl_api_Stmt_api_Stmt:Cx:=⟨tabAt tab0,eqAt eqs0,specAt spslices_Clone_sl_api_Stmt_api_Stmt,0,specPAt sq0⟩
theorem cxslices_Clone_sl_api_Stmt_api_Stmt:CxOk PP cslices_Clone_sl_api_Stmt_api_Stmt:=cxslices_Clone_sl_api_Write_api_Write.consS [] slices_Clone_sl_api_Stmt_api_Stmt.fn.enters slices_Clone_sl_api_Stmt_api_Stmt.ok
/-! slices.Clone[[]string,string] -/
def slices_Clone_sl_string_string.si:Sh:=⟨[(0,.v false [.sl 9 .str])],[],[],0,[]⟩
def slices_Clone_sl_string_string.so:Sh:=⟨[(0,.v false [.ref 1000])],[(1000,false,.arr 9 .str)],[],1001,[]⟩
def slices_Clone_sl_string_string.h:H:=.n
noncomputable def slices_Clone_sl_string_string.B:(List ByteArray)×Unit→Option ((List ByteArray)×Unit):=fun (p0,_)=>
  (bif p0.isEmpty then
  both (fun b1=>(bif b1 then
  some ([],())
  else
  bif (Nat.ble (([]:List ByteArray).length+p0.length) 8796093022208) then
  some ((([]:List ByteArray)++p0),())
  else none))
  else
  bif (Nat.ble (([]:List ByteArray).length+p0.length) 8796093022208) then
  some ((([]:List ByteArray)++p0),())
  else none)
noncomputable def slices_Clone_sl_string_string.F:(List ByteArray)×Unit→Option ((List ByteArray)×Unit):=stk slices_Clone_sl_string_string.B
theorem slices_Clone_sl_string_string.eq:slices_Clone_sl_string_string.F=slices_Clone_sl_string_string.B:=stk_eq _
theorem slices_Clone_sl_string_string.ev (x:TS slices_Clone_sl_string_string.si):evF cslices_Clone_sl_api_Stmt_api_Stmt inl0 (Tryz.f68.body.getD .skip) Tryz.f68.results.toList slices_Clone_sl_string_string.h slices_Clone_sl_string_string.si slices_Clone_sl_string_string.so x=slices_Clone_sl_string_string.B x:=by kernel_rfl
theorem slices_Clone_sl_string_string.fn:FnOk PP 68 (Tryz.f68.body.getD .skip) Tryz.f68.results.toList Tryz.f68.ntmps:=fnOk_mk (by kernel_rfl) (by kernel_rfl) (by kernel_rfl) (by kernel_rfl)
theorem slices_Clone_sl_string_string.ok:SpecOk PP 68 ⟨1,slices_Clone_sl_string_string.si,slices_Clone_sl_string_string.so,slices_Clone_sl_string_string.F⟩:=fn_stk cxslices_Clone_sl_api_Stmt_api_Stmt (inl0_ok _ _) mixed slices_Clone_sl_string_string.fn slices_Clone_sl_string_string.h (by kernel_rfl) slices_Clone_sl_string_string.ev
noncomputable def spslices_Clone_sl_string_string:List (Nat×List (Nat×AK)×Lv.Spec):=(68,[],⟨1,slices_Clone_sl_string_string.si,slices_Clone_sl_string_string.so,slices_Clone_sl_string_string.F⟩)::spslices_Clone_sl_api_Stmt_api_Stmt
noncomputable abbrev cslices_Clone_sl_string_string:Cx:=⟨tabAt tab0,eqAt eqs0,specAt spslices_Clone_sl_string_string,0,specPAt sq0⟩
theorem cxslices_Clone_sl_string_string:CxOk PP cslices_Clone_sl_string_string:=cxslices_Clone_sl_api_Stmt_api_Stmt.consS [] slices_Clone_sl_string_string.fn.enters slices_Clone_sl_string_string.ok
/-! levee/txn.copied -/
def txn_copied.si:Sh:=⟨[(0,.v true [.sl 143 tRead,.sl 128 tRange,.sl 126 tLook,.sl 68 tWrite,.sl 56 tStmt,.sl 9 .str])],[],[],0,[]⟩
def txn_copied.so:Sh:=⟨[(0,.v true [.ref 1000,.ref 1001,.ref 1002,.ref 1003,.ref 1004,.ref 1005])],[(1000,false,.arr 143 tRead),(1001,false,.arr 128 tRange),(1002,false,.arr 126 tLook),(1003,false,.arr 68 tWrite),(1004,false,.arr 56 tStmt),(1005,false,.arr 9 .str)],[],1006,[]⟩
def txn_copied.h:H:=(.s none .n (.s none .n (.s (some ⟨[(3,.v false [.ptr 0 0])],[(0,true,.box 34 [.ref 1,.ref 2,.ref 3]),(1,false,.arr 143 tRead),(2,false,.arr 128 tRange),(3,false,.arr 126 tLook)],[1,2],4,[]⟩) (.s none .n (.b (.l ⟨[(3,.v false [.ptr 0 0]),(27,.v false [.ref 2]),(29,.v false [.int .i64])],[(0,true,.box 34 [.ref 1,.ref 2,.ref 3]),(1,false,.arr 143 tRead),(2,false,.arr 128 tRange),(3,false,.arr 126 tLook)],[1,2,28],4,[]⟩ .n))) (.s (some ⟨[(3,.v false [.ptr 0 0])],[(0,true,.box 34 [.ref 1,.ref 2,.ref 3]),(1,false,.arr 143 tRead),(2,false,.arr 128 tRange),(3,false,.arr 126 tLook)],[1,2],4,[]⟩) (.s none .n (.b (.l ⟨[(3,.v false [.ptr 0 0]),(44,.v false [.ref 3]),(46,.v false [.int .i64])],[(0,true,.box 34 [.ref 1,.ref 2,.ref 3]),(1,false,.arr 143 tRead),(2,false,.arr 128 tRange),(3,false,.arr 126 tLook)],[1,2,45],4,[]⟩ .n))) (.s none .n (.s (some ⟨[(8,.v false [.ptr 0 0])],[(0,true,.box 39 [.ref 1,.ref 2,.ref 3,.ref 4,.ref 5,.ref 6]),(1,false,.arr 143 tRead),(2,false,.arr 128 tRange),(3,false,.arr 126 tLook),(4,false,.arr 68 tWrite),(5,false,.arr 56 tStmt),(6,false,.arr 9 .str)],[2],7,[]⟩) (.s none .n (.b (.l ⟨[(8,.v false [.ptr 0 0]),(72,.v false [.ref 4]),(74,.v false [.int .i64])],[(0,true,.box 39 [.ref 1,.ref 2,.ref 3,.ref 4,.ref 5,.ref 6]),(1,false,.arr 143 tRead),(2,false,.arr 128 tRange),(3,false,.arr 126 tLook),(4,false,.arr 68 tWrite),(5,false,.arr 56 tStmt),(6,false,.arr 9 .str)],[2,73],7,[]⟩ .n))) (.s (some ⟨[(8,.v false [.ptr 0 0])],[(0,true,.box 39 [.ref 1,.ref 2,.ref 3,.ref 4,.ref 5,.ref 6]),(1,false,.arr 143 tRead),(2,false,.arr 128 tRange),(3,false,.arr 126 tLook),(4,false,.arr 68 tWrite),(5,false,.arr 56 tStmt),(6,false,.arr 9 .str)],[2],7,[]⟩) (.s none .n (.b (.l ⟨[(8,.v false [.ptr 0 0]),(89,.v false [.ref 5]),(91,.v false [.int .i64])],[(0,true,.box 39 [.ref 1,.ref 2,.ref 3,.ref 4,.ref 5,.ref 6]),(1,false,.arr 143 tRead),(2,false,.arr 128 tRange),(3,false,.arr 126 tLook),(4,false,.arr 68 tWrite),(5,false,.arr 56 tStmt),(6,false,.arr 9 .str)],[2,90],7,[]⟩ .n))) .n)))))))
noncomputable def txn_copied.B:(List tReadT)×(List tRangeT)×(List tLookT)×(List tWriteT)×(List tStmtT)×(List ByteArray)×Unit→Option ((List tReadT)×(List tRangeT)×(List tLookT)×(List tWriteT)×(List tStmtT)×(List ByteArray)×Unit):=fun (p0_0,p0_1,p0_2,p0_3,p0_4,p0_5,_)=>
  Option.bind (slices_Clone_sl_api_Read_api_Read.F (p0_0,())) fun y1=>
  Option.bind (slices_Clone_sl_api_Range_api_Range.F (p0_1,())) fun y2=>
  Option.bind (slices_Clone_sl_api_Look_api_Look.F (p0_2,())) fun y3=>
  Option.bind (
  loopM (S:=Int×(List tReadT)×(List tRangeT)×(List tLookT)×Unit) (fun (x29,o3_0_0,o3_0_1,o3_0_2,_)=>
  (bif (decide (x29<(y2.1.length:Int))) then
  bif (decide (0≤x29)&&decide (x29<(o3_0_1.length:Int))) then
  let e4:tRangeT:=(List.getD o3_0_1 (Int.toNat x29) tRange.z)
  Option.bind (slices_Clone_sl_api_Read_api_Read.F (e4.2.2.2,())) fun y5=>
  bif (decide (0≤x29)&&decide (x29<(o3_0_1.length:Int))) then
  let e6:Int:=(IntKind.i64.wrap (x29+(1:Int)))
  some (.inl (e6,o3_0_0,(List.set o3_0_1 (Int.toNat x29) ((List.getD o3_0_1 (Int.toNat x29) tRange.z).1,((List.getD o3_0_1 (Int.toNat x29) tRange.z).2.1,((List.getD o3_0_1 (Int.toNat x29) tRange.z).2.2.1,y5.1)))),o3_0_2,()))
  else none
  else none
  else
  some (.inr (.inl (o3_0_0,o3_0_1,o3_0_2,()))))) ((0:Int),y1.1,y2.1,y3.1,()):Option (((List tReadT)×(List tRangeT)×(List tLookT)×Unit)⊕_)) fun r7=>match r7 with
  | .inl (o3_0_0_7,o3_0_1_7,o3_0_2_7,_)=>
  (Option.bind (
  loopM (S:=Int×(List tReadT)×(List tRangeT)×(List tLookT)×Unit) (fun (x46,o3_0_0,o3_0_1,o3_0_2,_)=>
  (bif (decide (x46<(o3_0_2_7.length:Int))) then
  bif (decide (0≤x46)&&decide (x46<(o3_0_2.length:Int))) then
  let e8:tLookT:=(List.getD o3_0_2 (Int.toNat x46) tLook.z)
  Option.bind (txn_counts.F (e8.2,())) fun y9=>
  bif (decide (0≤x46)&&decide (x46<(o3_0_2.length:Int))) then
  let e10:Int:=(IntKind.i64.wrap (x46+(1:Int)))
  some (.inl (e10,o3_0_0,o3_0_1,(List.set o3_0_2 (Int.toNat x46) ((List.getD o3_0_2 (Int.toNat x46) tLook.z).1,y9.1)),()))
  else none
  else none
  else
  some (.inr (.inl (o3_0_0,o3_0_1,o3_0_2,()))))) ((0:Int),o3_0_0_7,o3_0_1_7,o3_0_2_7,()):Option (((List tReadT)×(List tRangeT)×(List tLookT)×Unit)⊕_)) fun r11=>match r11 with
  | .inl (o3_0_0_11,o3_0_1_11,o3_0_2_11,_)=>
  (Option.bind (slices_Clone_sl_api_Write_api_Write.F (p0_3,())) fun y12=>
  Option.bind (slices_Clone_sl_api_Stmt_api_Stmt.F (p0_4,())) fun y13=>
  Option.bind (slices_Clone_sl_string_string.F (p0_5,())) fun y14=>
  Option.bind (
  loopM (S:=Int×(List tReadT)×(List tRangeT)×(List tLookT)×(List tWriteT)×(List tStmtT)×(List ByteArray)×Unit) (fun (x74,o8_0_0,o8_0_1,o8_0_2,o8_0_3,o8_0_4,o8_0_5,_)=>
  (bif (decide (x74<(y12.1.length:Int))) then
  bif (decide (0≤x74)&&decide (x74<(o8_0_3.length:Int))) then
  let e15:tWriteT:=(List.getD o8_0_3 (Int.toNat x74) tWrite.z)
  Option.bind (slices_Clone_api_Row_api_Value.F (e15.2.2,())) fun y16=>
  bif (decide (0≤x74)&&decide (x74<(o8_0_3.length:Int))) then
  let e17:Int:=(IntKind.i64.wrap (x74+(1:Int)))
  some (.inl (e17,o8_0_0,o8_0_1,o8_0_2,(List.set o8_0_3 (Int.toNat x74) ((List.getD o8_0_3 (Int.toNat x74) tWrite.z).1,((List.getD o8_0_3 (Int.toNat x74) tWrite.z).2.1,y16.1))),o8_0_4,o8_0_5,()))
  else none
  else none
  else
  some (.inr (.inl (o8_0_0,o8_0_1,o8_0_2,o8_0_3,o8_0_4,o8_0_5,()))))) ((0:Int),o3_0_0_11,o3_0_1_11,o3_0_2_11,y12.1,y13.1,y14.1,()):Option (((List tReadT)×(List tRangeT)×(List tLookT)×(List tWriteT)×(List tStmtT)×(List ByteArray)×Unit)⊕_)) fun r18=>match r18 with
  | .inl (o8_0_0_18,o8_0_1_18,o8_0_2_18,o8_0_3_18,o8_0_4_18,o8_0_5_18,_)=>
  (Option.bind (
  loopM (S:=Int×(List tReadT)×(List tRangeT)×(List tLookT)×(List tWriteT)×(List tStmtT)×(List ByteArray)×Unit) (fun (x91,o8_0_0,o8_0_1,o8_0_2,o8_0_3,o8_0_4,o8_0_5,_)=>
  (bif (decide (x91<(o8_0_4_18.length:Int))) then
  bif (decide (0≤x91)&&decide (x91<(o8_0_4.length:Int))) then
  let e19:tStmtT:=(List.getD o8_0_4 (Int.toNat x91) tStmt.z)
  Option.bind (slices_Clone_api_Row_api_Value.F (e19.2.2,())) fun y20=>
  bif (decide (0≤x91)&&decide (x91<(o8_0_4.length:Int))) then
  let e21:Int:=(IntKind.i64.wrap (x91+(1:Int)))
  some (.inl (e21,o8_0_0,o8_0_1,o8_0_2,o8_0_3,(List.set o8_0_4 (Int.toNat x91) ((List.getD o8_0_4 (Int.toNat x91) tStmt.z).1,((List.getD o8_0_4 (Int.toNat x91) tStmt.z).2.1,y20.1))),o8_0_5,()))
  else none
  else none
  else
  some (.inr (.inl (o8_0_0,o8_0_1,o8_0_2,o8_0_3,o8_0_4,o8_0_5,()))))) ((0:Int),o8_0_0_18,o8_0_1_18,o8_0_2_18,o8_0_3_18,o8_0_4_18,o8_0_5_18,()):Option (((List tReadT)×(List tRangeT)×(List tLookT)×(List tWriteT)×(List tStmtT)×(List ByteArray)×Unit)⊕_)) fun r22=>match r22 with
  | .inl (o8_0_0_22,o8_0_1_22,o8_0_2_22,o8_0_3_22,o8_0_4_22,o8_0_5_22,_)=>
  (some (o8_0_0_22,o8_0_1_22,o8_0_2_22,o8_0_3_22,o8_0_4_22,o8_0_5_22,()))
  | .inr r=>some r)
  | .inr r=>some r)
  | .inr r=>some r)
  | .inr r=>some r
noncomputable def txn_copied.F:(List tReadT)×(List tRangeT)×(List tLookT)×(List tWriteT)×(List tStmtT)×(List ByteArray)×Unit→Option ((List tReadT)×(List tRangeT)×(List tLookT)×(List tWriteT)×(List tStmtT)×(List ByteArray)×Unit):=stk txn_copied.B
theorem txn_copied.eq:txn_copied.F=txn_copied.B:=stk_eq _
theorem txn_copied.ev (x:TS txn_copied.si):evF cslices_Clone_sl_string_string inl0 (Tryz.f35.body.getD .skip) Tryz.f35.results.toList txn_copied.h txn_copied.si txn_copied.so x=txn_copied.B x:=by kernel_rfl
theorem txn_copied.fn:FnOk PP 35 (Tryz.f35.body.getD .skip) Tryz.f35.results.toList Tryz.f35.ntmps:=fnOk_mk (by kernel_rfl) (by kernel_rfl) (by kernel_rfl) (by kernel_rfl)
theorem txn_copied.ok:SpecOk PP 35 ⟨1,txn_copied.si,txn_copied.so,txn_copied.F⟩:=fn_stk cxslices_Clone_sl_string_string (inl0_ok _ _) mixed txn_copied.fn txn_copied.h (by kernel_rfl) txn_copied.ev
noncomputable def sptxn_copied:List (Nat×List (Nat×AK)×Lv.Spec):=(35,[],⟨1,txn_copied.si,txn_copied.so,txn_copied.F⟩)::spslices_Clone_sl_string_string
noncomputable abbrev ctxn_copied:Cx:=⟨tabAt tab0,eqAt eqs0,specAt sptxn_copied,0,specPAt sq0⟩
theorem cxtxn_copied:CxOk PP ctxn_copied:=cxslices_Clone_sl_string_string.consS [] txn_copied.fn.enters txn_copied.ok
/-! strconv.Itoa -/
def strconv_Itoa.si:Sh:=⟨[(0,.v false [.int .i64])],[],[],0,[]⟩
def strconv_Itoa.so:Sh:=⟨[(0,.v false [.str])],[],[],1000,[]⟩
noncomputable def strconv_Itoa.B:TS strconv_Itoa.si→Option (TS strconv_Itoa.so):=itoaF
noncomputable def strconv_Itoa.F:TS strconv_Itoa.si→Option (TS strconv_Itoa.so):=stk strconv_Itoa.B
theorem strconv_Itoa.eq:strconv_Itoa.F=strconv_Itoa.B:=stk_eq _
theorem strconv_Itoa.ok:SpecOk PP 69 ⟨1,strconv_Itoa.si,strconv_Itoa.so,strconv_Itoa.F⟩:=by
  rw [strconv_Itoa.eq]
  exact itoa_ok
theorem strconv_Itoa.en:Lv.Enters PP 69:=⟨_,Tryz.func69,by kernel_rfl,by decide⟩
noncomputable def spstrconv_Itoa:List (Nat×List (Nat×AK)×Lv.Spec):=(69,[],⟨1,strconv_Itoa.si,strconv_Itoa.so,strconv_Itoa.F⟩)::sptxn_copied
noncomputable abbrev cstrconv_Itoa:Cx:=⟨tabAt tab0,eqAt eqs0,specAt spstrconv_Itoa,0,specPAt sq0⟩
theorem cxstrconv_Itoa:CxOk PP cstrconv_Itoa:=cxtxn_copied.consS [] strconv_Itoa.en strconv_Itoa.ok
/-! levee/txn.failed -/
def txn_failed.si:Sh:=⟨[(0,.v false [.int .i64])],[],[],0,[]⟩
def txn_failed.so:Sh:=⟨[(0,.v false [.str])],[],[],1000,[]⟩
def txn_failed.h:H:=.n
noncomputable def txn_failed.B:Int×Unit→Option (ByteArray×Unit):=fun (p0,_)=>
  Option.bind (strconv_Itoa.F (p0,())) fun y1=>
  bif (!decide ((((⟨#[101,114,114,111,114,32]⟩:ByteArray).size+y1.1.size:Nat):Int)>IntKind.i64.max)) then
  let e2:ByteArray:=((⟨#[101,114,114,111,114,32]⟩:ByteArray)++y1.1)
  some (e2,())
  else none
noncomputable def txn_failed.F:Int×Unit→Option (ByteArray×Unit):=stk txn_failed.B
theorem txn_failed.eq:txn_failed.F=txn_failed.B:=stk_eq _
theorem txn_failed.ev (x:TS txn_failed.si):evF cstrconv_Itoa inl0 (Tryz.f36.body.getD .skip) Tryz.f36.results.toList txn_failed.h txn_failed.si txn_failed.so x=txn_failed.B x:=by kernel_rfl
theorem txn_failed.fn:FnOk PP 36 (Tryz.f36.body.getD .skip) Tryz.f36.results.toList Tryz.f36.ntmps:=fnOk_mk (by kernel_rfl) (by kernel_rfl) (by kernel_rfl) (by kernel_rfl)
theorem txn_failed.ok:SpecOk PP 36 ⟨1,txn_failed.si,txn_failed.so,txn_failed.F⟩:=fn_stk cxstrconv_Itoa (inl0_ok _ _) mixed txn_failed.fn txn_failed.h (by kernel_rfl) txn_failed.ev
noncomputable def sptxn_failed:List (Nat×List (Nat×AK)×Lv.Spec):=(36,[],⟨1,txn_failed.si,txn_failed.so,txn_failed.F⟩)::spstrconv_Itoa
noncomputable abbrev ctxn_failed:Cx:=⟨tabAt tab0,eqAt eqs0,specAt sptxn_failed,0,specPAt sq0⟩
theorem cxtxn_failed:CxOk PP ctxn_failed:=cxstrconv_Itoa.consS [] txn_failed.fn.enters txn_failed.ok
/-! levee/schema.Name -/
def schema_Name.si:Sh:=⟨[(0,.v true [.int .i64,.str,.sl 97 tColumn,.sl 104 (.sl 202 tNode),.str,.str,.str,.int .i64,.int .i64,.sl 202 tNode,.sl 3 (.int .i64),.bool,.sl 206 tAgg])],[],[],0,[]⟩
def schema_Name.so:Sh:=⟨[(0,.v false [.str])],[],[],1000,[]⟩
def schema_Name.h:H:=.n
noncomputable def schema_Name.B:Int×ByteArray×(List tColumnT)×(List (List tNodeT))×ByteArray×ByteArray×ByteArray×Int×Int×(List tNodeT)×(List Int)×Bool×(List tAggT)×Unit→Option (ByteArray×Unit):=fun (p0_0,p0_1,p0_2,p0_3,p0_4,p0_5,p0_6,p0_7,p0_8,p0_9,p0_10,p0_11,p0_12,_)=>
  (bif (p0_0==(0:Int)) then
  some (p0_1,())
  else
  some (p0_4,()))
noncomputable def schema_Name.F:Int×ByteArray×(List tColumnT)×(List (List tNodeT))×ByteArray×ByteArray×ByteArray×Int×Int×(List tNodeT)×(List Int)×Bool×(List tAggT)×Unit→Option (ByteArray×Unit):=stk schema_Name.B
theorem schema_Name.eq:schema_Name.F=schema_Name.B:=stk_eq _
theorem schema_Name.ev (x:TS schema_Name.si):evF ctxn_failed inl0 (Tryz.f107.body.getD .skip) Tryz.f107.results.toList schema_Name.h schema_Name.si schema_Name.so x=schema_Name.B x:=by kernel_rfl
theorem schema_Name.fn:FnOk PP 107 (Tryz.f107.body.getD .skip) Tryz.f107.results.toList Tryz.f107.ntmps:=fnOk_mk (by kernel_rfl) (by kernel_rfl) (by kernel_rfl) (by kernel_rfl)
theorem schema_Name.ok:SpecOk PP 107 ⟨1,schema_Name.si,schema_Name.so,schema_Name.F⟩:=fn_stk cxtxn_failed (inl0_ok _ _) mixed schema_Name.fn schema_Name.h (by kernel_rfl) schema_Name.ev
noncomputable def spschema_Name:List (Nat×List (Nat×AK)×Lv.Spec):=(107,[],⟨1,schema_Name.si,schema_Name.so,schema_Name.F⟩)::sptxn_failed
noncomputable abbrev cschema_Name:Cx:=⟨tabAt tab0,eqAt eqs0,specAt spschema_Name,0,specPAt sq0⟩
theorem cxschema_Name:CxOk PP cschema_Name:=cxtxn_failed.consS [] schema_Name.fn.enters schema_Name.ok
/-! levee/schema.Find -/
def schema_Find.si:Sh:=⟨[(0,.v false [.sl 110 tDef]),(1,.v false [.str])],[],[],0,[]⟩
def schema_Find.so:Sh:=⟨[(0,.v false [.int .i64])],[],[],1000,[]⟩
def schema_Find.h:H:=.n
noncomputable def schema_Find.B:(List tDefT)×ByteArray×Unit→Option (Int×Unit):=fun (p0,p1,_)=>
  loopM (S:=Int×Unit) (fun (x8,_)=>
  (bif (decide (x8<(p0.length:Int))) then
  Option.bind (
  bif (decide (0≤x8)&&decide (x8<(p0.length:Int))) then
  let e1:tDefT:=(List.getD p0 (Int.toNat x8) tDef.z)
  Option.bind (schema_Name.F (e1.1,e1.2.1.1,e1.2.1.2.1,e1.2.1.2.2,e1.2.2.1,e1.2.2.2.1,e1.2.2.2.2.1,e1.2.2.2.2.2.1.1,e1.2.2.2.2.2.1.2,e1.2.2.2.2.2.2.1,e1.2.2.2.2.2.2.2.1,e1.2.2.2.2.2.2.2.2.1,e1.2.2.2.2.2.2.2.2.2,())) fun y2=>
  some (.inl ((y2.1.toList==p1.toList),()))
  else none:Option ((Bool×Unit)⊕_)) fun r3=>match r3 with
  | .inl (x16_3,_)=>
  ((bif x16_3 then
  some (.inr (x8,()))
  else
  let e4:Int:=(IntKind.i64.wrap (x8+(1:Int)))
  some (.inl (e4,()))))
  | .inr r=>some r
  else
  some (.inr ((-1:Int),())))) ((0:Int),())
noncomputable def schema_Find.F:(List tDefT)×ByteArray×Unit→Option (Int×Unit):=stk schema_Find.B
theorem schema_Find.eq:schema_Find.F=schema_Find.B:=stk_eq _
noncomputable def schema_Find.ins:Nat→List (Option Slot)→Heap→Option (Code×List ResultVar×H):=fun g xs hp=>bif Nat.beq g 105&&cloK xs hp 1 106 then some (Tryz.f105.body.getD .skip,Tryz.f105.results.toList,(.s none .n (.s none (.s none .n (.b (.l ⟨[(8,.v false [.int .i64])],[],[0,1,7],0,[]⟩ (.s none .n (.s none .n (.s none (.b (.s none .n (.s (some ⟨[(16,.v false [.bool])],[],[0,1,5,7,8],0,[]⟩) .n .n))) .n)))))) .n))) else bif Nat.beq g 106 then some (Tryz.f106.body.getD .skip,Tryz.f106.results.toList,.n) else none
theorem schema_Find.ins_ok:∀n xs hp code res h,schema_Find.ins n xs hp=some (code,res,h)→∃nt,FnOk PP n code res nt:=by
  intro n xs hp code res h e
  unfold schema_Find.ins at e
  cases e0:(Nat.beq n 105&&cloK xs hp 1 106) with
  |true=>rw [e0] at e;cases e;rw [Nat.eq_of_beq_eq_true (Bool.and_eq_true_iff.1 e0).1];exact ⟨_,fnOk_mk (by kernel_rfl) (by kernel_rfl) (by kernel_rfl) (by kernel_rfl)⟩
  |false=>
  rw [e0] at e
  cases e1:(Nat.beq n 106) with
  |true=>rw [e1] at e;cases e;rw [Nat.eq_of_beq_eq_true e1];exact ⟨_,fnOk_mk (by kernel_rfl) (by kernel_rfl) (by kernel_rfl) (by kernel_rfl)⟩
  |false=>
  rw [e1] at e
  cases e
theorem schema_Find.ev (x:TS schema_Find.si):evF cschema_Name (inlS cschema_Name schema_Find.ins (inlS cschema_Name schema_Find.ins (inlS cschema_Name schema_Find.ins inl0))) (Tryz.f70.body.getD .skip) Tryz.f70.results.toList schema_Find.h schema_Find.si schema_Find.so x=schema_Find.B x:=by kernel_rfl
theorem schema_Find.fn:FnOk PP 70 (Tryz.f70.body.getD .skip) Tryz.f70.results.toList Tryz.f70.ntmps:=fnOk_mk (by kernel_rfl) (by kernel_rfl) (by kernel_rfl) (by kernel_rfl)
theorem schema_Find.ok:SpecOk PP 70 ⟨2,schema_Find.si,schema_Find.so,schema_Find.F⟩:=fn_stk cxschema_Name (inlS_ok cxschema_Name (inlS_ok cxschema_Name (inlS_ok cxschema_Name (inl0_ok _ _) (drawnOk cxschema_Name mixed) schema_Find.ins_ok) (drawnOk cxschema_Name mixed) schema_Find.ins_ok) (drawnOk cxschema_Name mixed) schema_Find.ins_ok) mixed schema_Find.fn schema_Find.h (by kernel_rfl) schema_Find.ev
noncomputable def spschema_Find:List (Nat×List (Nat×AK)×Lv.Spec):=(70,[],⟨2,schema_Find.si,schema_Find.so,schema_Find.F⟩)::spschema_Name
noncomputable abbrev cschema_Find:Cx:=⟨tabAt tab0,eqAt eqs0,specAt spschema_Find,0,specPAt sq0⟩
theorem cxschema_Find:CxOk PP cschema_Find:=cxschema_Name.consS [] schema_Find.fn.enters schema_Find.ok
/-! levee/txn.wrong -/
def txn_wrong.si:Sh:=⟨[(0,.v false [.sl 110 tDef]),(1,.v true [.int .i64,.str,.sl 27 tValue])],[],[],0,[]⟩
def txn_wrong.so:Sh:=⟨[(0,.v false [.int .i64])],[],[],1000,[]⟩
def txn_wrong.h:H:=(.s none .n (.s none .n (.s (some ⟨[(5,.v false [.int .i64])],[],[0,3],0,[]⟩) .n (.s none .n (.s (some ⟨[],[],[0,3,6],0,[]⟩) .n (.s none (.s none .n (.b (.s (some ⟨[(37,.v false [.bool])],[],[0,3,6,36],0,[]⟩) .n (.c .n (.s none .n (.c .n (.s (some ⟨[(50,.v false [.bool])],[],[0,3,6],0,[]⟩) .n (.c (.s (some ⟨[(83,.v false [.bool])],[],[],0,[]⟩) .n .n) .n)))))))) .n))))))
noncomputable def txn_wrong.B:(List tDefT)×Int×ByteArray×(List tValueT)×Unit→Option (Int×Unit):=fun (p0,p1_0,p1_1,p1_2,_)=>
  Option.bind (
  (bif (p1_0==(5:Int)) then
  some (.inl ((1:Int),()))
  else
  some (.inl ((0:Int),()))):Option ((Int×Unit)⊕_)) fun r1=>match r1 with
  | .inl (x5_1,_)=>
  (Option.bind (schema_Find.F (p0,p1_1,())) fun y2=>
  Option.bind (
  (bif (decide (y2.1<(0:Int))) then
  (bif (decide (y2.1<(0:Int))) then
  some (.inr ((212:Int),()))
  else
  (bif (decide (p1_0<(0:Int))) then
  some (.inr ((1:Int),()))
  else
  (bif (decide (p1_0≥(6:Int))) then
  some (.inr ((1:Int),()))
  else
  some (.inl (())))))
  else
  bif (decide (0≤y2.1)&&decide (y2.1<(p0.length:Int))) then
  let e3:tDefT:=(List.getD p0 (Int.toNat y2.1) tDef.z)
  (bif (!((e3.1==(0:Int))==(x5_1==(0:Int)))) then
  some (.inr ((212:Int),()))
  else
  (bif (decide (p1_0<(0:Int))) then
  some (.inr ((1:Int),()))
  else
  (bif (decide (p1_0≥(6:Int))) then
  some (.inr ((1:Int),()))
  else
  some (.inl (())))))
  else none):Option ((Unit)⊕_)) fun r4=>match r4 with
  | .inl (_)=>
  (Option.bind (
  (bif (p1_0==(0:Int)) then
  some (.inl ((p1_0==(0:Int)),()))
  else
  some (.inl ((p1_0==(4:Int)),()))):Option ((Bool×Unit)⊕_)) fun r5=>match r5 with
  | .inl (x37_5,_)=>
  ((bif x37_5 then
  (bif ((p1_2.length:Int) !=(1:Int)) then
  some ((1:Int),())
  else
  some ((0:Int),()))
  else
  (bif (p1_0==(1:Int)) then
  (bif ((p1_2.length:Int) !=(2:Int)) then
  some ((1:Int),())
  else
  some ((0:Int),()))
  else
  Option.bind (
  (bif (p1_0==(2:Int)) then
  some (.inl ((p1_0==(2:Int)),()))
  else
  some (.inl ((p1_0==(3:Int)),()))):Option ((Bool×Unit)⊕_)) fun r6=>match r6 with
  | .inl (x50_6,_)=>
  ((bif x50_6 then
  Option.bind (
  (bif ((p1_2.length:Int)==(0:Int)) then
  some (.inl (true,()))
  else
  bif (decide (0≤y2.1)&&decide (y2.1<(p0.length:Int))) then
  let e7:tDefT:=(List.getD p0 (Int.toNat y2.1) tDef.z)
  (bif ((p1_2.length:Int) !=(e7.2.1.2.1.length:Int)) then
  some (.inl (true,()))
  else
  Option.bind (row_May.F (p1_2,())) fun y8=>
  (bif (!y8.1) then
  some (.inl (true,()))
  else
  bif (decide (0≤(0:Int))&&decide ((0:Int)<(p1_2.length:Int))) then
  let e9:tValueT:=(List.getD p1_2 0 tValue.z)
  some (.inl ((e9.1==(0:Int)),()))
  else none))
  else none):Option ((Bool×Unit)⊕_)) fun r10=>match r10 with
  | .inl (x83_10,_)=>
  ((bif x83_10 then
  some ((180:Int),())
  else
  some ((0:Int),())))
  | .inr r=>some r
  else
  some ((0:Int),())))
  | .inr r=>some r)))
  | .inr r=>some r)
  | .inr r=>some r)
  | .inr r=>some r
noncomputable def txn_wrong.F:(List tDefT)×Int×ByteArray×(List tValueT)×Unit→Option (Int×Unit):=stk txn_wrong.B
theorem txn_wrong.eq:txn_wrong.F=txn_wrong.B:=stk_eq _
theorem txn_wrong.ev (x:TS txn_wrong.si):evF cschema_Find inl0 (Tryz.f37.body.getD .skip) Tryz.f37.results.toList txn_wrong.h txn_wrong.si txn_wrong.so x=txn_wrong.B x:=by kernel_rfl
theorem txn_wrong.fn:FnOk PP 37 (Tryz.f37.body.getD .skip) Tryz.f37.results.toList Tryz.f37.ntmps:=fnOk_mk (by kernel_rfl) (by kernel_rfl) (by kernel_rfl) (by kernel_rfl)
theorem txn_wrong.ok:SpecOk PP 37 ⟨2,txn_wrong.si,txn_wrong.so,txn_wrong.F⟩:=fn_stk cxschema_Find (inl0_ok _ _) mixed txn_wrong.fn txn_wrong.h (by kernel_rfl) txn_wrong.ev
noncomputable def sptxn_wrong:List (Nat×List (Nat×AK)×Lv.Spec):=(37,[],⟨2,txn_wrong.si,txn_wrong.so,txn_wrong.F⟩)::spschema_Find
noncomputable abbrev ctxn_wrong:Cx:=⟨tabAt tab0,eqAt eqs0,specAt sptxn_wrong,0,specPAt sq0⟩
theorem cxtxn_wrong:CxOk PP ctxn_wrong:=cxschema_Find.consS [] txn_wrong.fn.enters txn_wrong.ok
/-! levee/view.Find -/
def view_Find.si:Sh:=⟨[(0,.v false [.sl 123 tLook]),(1,.v false [.str])],[],[],0,[]⟩
def view_Find.so:Sh:=⟨[(0,.v false [.sl 171 tRec])],[],[],1000,[]⟩
noncomputable def view_Find.B:TS view_Find.si→Option (TS view_Find.so):=fun _=>none
noncomputable def view_Find.F:TS view_Find.si→Option (TS view_Find.so):=stk view_Find.B
theorem view_Find.eq:view_Find.F=view_Find.B:=stk_eq _
theorem view_Find.ok:SpecOk PP 72 ⟨2,view_Find.si,view_Find.so,view_Find.F⟩:=by
  rw [view_Find.eq]
  exact fun _ _ h=>by cases h
theorem view_Find.en:Lv.Enters PP 72:=⟨_,Tryz.func72,by kernel_rfl,by decide⟩
noncomputable def spview_Find:List (Nat×List (Nat×AK)×Lv.Spec):=(72,[],⟨2,view_Find.si,view_Find.so,view_Find.F⟩)::sptxn_wrong
noncomputable abbrev cview_Find:Cx:=⟨tabAt tab0,eqAt eqs0,specAt spview_Find,0,specPAt sq0⟩
theorem cxview_Find:CxOk PP cview_Find:=cxtxn_wrong.consS [] view_Find.en view_Find.ok
/-! levee/bag.Text -/
def bag_Text.si:Sh:=⟨[(0,.v false [.sl 171 tRec])],[],[],0,[]⟩
def bag_Text.so:Sh:=⟨[(0,.v false [.str])],[],[],1000,[]⟩
noncomputable def bag_Text.B:TS bag_Text.si→Option (TS bag_Text.so):=fun _=>none
noncomputable def bag_Text.F:TS bag_Text.si→Option (TS bag_Text.so):=stk bag_Text.B
theorem bag_Text.eq:bag_Text.F=bag_Text.B:=stk_eq _
theorem bag_Text.ok:SpecOk PP 74 ⟨1,bag_Text.si,bag_Text.so,bag_Text.F⟩:=by
  rw [bag_Text.eq]
  exact fun _ _ h=>by cases h
theorem bag_Text.en:Lv.Enters PP 74:=⟨_,Tryz.func74,by kernel_rfl,by decide⟩
noncomputable def spbag_Text:List (Nat×List (Nat×AK)×Lv.Spec):=(74,[],⟨1,bag_Text.si,bag_Text.so,bag_Text.F⟩)::spview_Find
noncomputable abbrev cbag_Text:Cx:=⟨tabAt tab0,eqAt eqs0,specAt spbag_Text,0,specPAt sq0⟩
theorem cxbag_Text:CxOk PP cbag_Text:=cxview_Find.consS [] bag_Text.en bag_Text.ok
/-! levee/txn.or -/
def txn_or.si:Sh:=⟨[(0,.v false [.str])],[],[],0,[]⟩
def txn_or.so:Sh:=⟨[(0,.v false [.str])],[],[],1000,[]⟩
def txn_or.h:H:=.n
noncomputable def txn_or.B:ByteArray×Unit→Option (ByteArray×Unit):=fun (p0,_)=>
  (bif (p0.toList==(⟨#[]⟩:ByteArray).toList) then
  some ((⟨#[110,111,110,101]⟩:ByteArray),())
  else
  some (p0,()))
noncomputable def txn_or.F:ByteArray×Unit→Option (ByteArray×Unit):=stk txn_or.B
theorem txn_or.eq:txn_or.F=txn_or.B:=stk_eq _
theorem txn_or.ev (x:TS txn_or.si):evF cbag_Text inl0 (Tryz.f73.body.getD .skip) Tryz.f73.results.toList txn_or.h txn_or.si txn_or.so x=txn_or.B x:=by kernel_rfl
theorem txn_or.fn:FnOk PP 73 (Tryz.f73.body.getD .skip) Tryz.f73.results.toList Tryz.f73.ntmps:=fnOk_mk (by kernel_rfl) (by kernel_rfl) (by kernel_rfl) (by kernel_rfl)
theorem txn_or.ok:SpecOk PP 73 ⟨1,txn_or.si,txn_or.so,txn_or.F⟩:=fn_stk cxbag_Text (inl0_ok _ _) mixed txn_or.fn txn_or.h (by kernel_rfl) txn_or.ev
noncomputable def sptxn_or:List (Nat×List (Nat×AK)×Lv.Spec):=(73,[],⟨1,txn_or.si,txn_or.so,txn_or.F⟩)::spbag_Text
noncomputable abbrev ctxn_or:Cx:=⟨tabAt tab0,eqAt eqs0,specAt sptxn_or,0,specPAt sq0⟩
theorem cxtxn_or:CxOk PP ctxn_or:=cxbag_Text.consS [] txn_or.fn.enters txn_or.ok
/-! levee/rel.some -/
def rel_some.si:Sh:=⟨[(0,.v false [.sl 77 tRec])],[],[],0,[]⟩
def rel_some.so:Sh:=⟨[(0,.v false [.ref 1000])],[(1000,false,.arr 77 tRec)],[],1001,[]⟩
def rel_some.h:H:=(.s none .n (.s none .n (.s none (.s none .n (.b (.l ⟨[(3,.v false [.ref 0]),(8,.v false [.int .i64])],[(0,false,.arr 77 tRec)],[6,7],1,[]⟩ .n))) .n)))
noncomputable def rel_some.B:(List tRecT)×Unit→Option ((List tRecT)×Unit):=fun (p0,_)=>
  loopM (S:=Int×(List tRecT)×Unit) (fun (x8,o3_0,_)=>
  (bif (decide (x8<(p0.length:Int))) then
  bif (decide (0≤x8)&&decide (x8<(p0.length:Int))) then
  let e1:tRecT:=(List.getD p0 (Int.toNat x8) tRec.z)
  Option.bind (rel_copied.F (e1.1,e1.2,())) fun y2=>
  bif (Nat.ble (o3_0.length+ [(y2.2.1,y2.1)].length) 4398046511104) then
  let e3:Int:=(IntKind.i64.wrap (x8+(1:Int)))
  some (.inl (e3,(o3_0++ [(y2.2.1,y2.1)]),()))
  else none
  else none
  else
  some (.inr (o3_0,())))) ((0:Int),[],())
noncomputable def rel_some.F:(List tRecT)×Unit→Option ((List tRecT)×Unit):=stk rel_some.B
theorem rel_some.eq:rel_some.F=rel_some.B:=stk_eq _
theorem rel_some.ev (x:TS rel_some.si):evF ctxn_or inl0 (Tryz.f52.body.getD .skip) Tryz.f52.results.toList rel_some.h rel_some.si rel_some.so x=rel_some.B x:=by kernel_rfl
theorem rel_some.fn:FnOk PP 52 (Tryz.f52.body.getD .skip) Tryz.f52.results.toList Tryz.f52.ntmps:=fnOk_mk (by kernel_rfl) (by kernel_rfl) (by kernel_rfl) (by kernel_rfl)
theorem rel_some.ok:SpecOk PP 52 ⟨1,rel_some.si,rel_some.so,rel_some.F⟩:=fn_stk cxtxn_or (inl0_ok _ _) mixed rel_some.fn rel_some.h (by kernel_rfl) rel_some.ev
noncomputable def sprel_some:List (Nat×List (Nat×AK)×Lv.Spec):=(52,[],⟨1,rel_some.si,rel_some.so,rel_some.F⟩)::sptxn_or
noncomputable abbrev crel_some:Cx:=⟨tabAt tab0,eqAt eqs0,specAt sprel_some,0,specPAt sq0⟩
theorem cxrel_some:CxOk PP crel_some:=cxtxn_or.consS [] rel_some.fn.enters rel_some.ok
/-! levee/rel.Scan -/
def rel_Scan.si:Sh:=⟨[(0,.v true [.str,.sl 77 tRec]),(1,.v true [.int .i64,.int .i64,.str]),(2,.v true [.int .i64,.int .i64,.str])],[],[],0,[]⟩
def rel_Scan.so:Sh:=⟨[(0,.v false [.ref 1000])],[(1000,false,.arr 77 tRec)],[],1001,[]⟩
def rel_Scan.h:H:=(.s none .n (.s (some ⟨[],[],[3,4,5],0,[]⟩) .n .n))
noncomputable def rel_Scan.B:ByteArray×(List tRecT)×Int×Int×ByteArray×Int×Int×ByteArray×Unit→Option ((List tRecT)×Unit):=fun (p0_0,p0_1,p1_0,p1_1,p1_2,p2_0,p2_1,p2_2,_)=>
  Option.bind (
  Option.bind (rel_May.F (p0_0,p0_1,())) fun y1=>
  (bif (!y1.1) then
  some (.inr ([],()))
  else
  Option.bind (value_Compare.F (p1_0,p1_1,p1_2,p2_0,p2_1,p2_2,())) fun y2=>
  (bif (decide (y2.1≥(0:Int))) then
  some (.inr ([],()))
  else
  some (.inl (())))):Option ((Unit)⊕_)) fun r3=>match r3 with
  | .inl (_)=>
  (Option.bind (rel_find.F (p0_0,p0_1,p1_0,p1_1,p1_2,())) fun y4=>
  Option.bind (rel_find.F (p0_0,p0_1,p2_0,p2_1,p2_2,())) fun y5=>
  bif (decide (0≤y4.1)&&(decide (y4.1≤y5.1)&&decide (y5.1≤(p0_1.length:Int)))) then
  let e6:List tRecT:=(List.drop (Int.toNat y4.1) (List.take (Int.toNat y5.1) p0_1))
  Option.bind (rel_some.F (e6,())) fun y7=>
  some (y7.1,())
  else none)
  | .inr r=>some r
noncomputable def rel_Scan.F:ByteArray×(List tRecT)×Int×Int×ByteArray×Int×Int×ByteArray×Unit→Option ((List tRecT)×Unit):=stk rel_Scan.B
theorem rel_Scan.eq:rel_Scan.F=rel_Scan.B:=stk_eq _
theorem rel_Scan.ev (x:TS rel_Scan.si):evF crel_some inl0 (Tryz.f25.body.getD .skip) Tryz.f25.results.toList rel_Scan.h rel_Scan.si rel_Scan.so x=rel_Scan.B x:=by kernel_rfl
theorem rel_Scan.fn:FnOk PP 25 (Tryz.f25.body.getD .skip) Tryz.f25.results.toList Tryz.f25.ntmps:=fnOk_mk (by kernel_rfl) (by kernel_rfl) (by kernel_rfl) (by kernel_rfl)
theorem rel_Scan.ok:SpecOk PP 25 ⟨3,rel_Scan.si,rel_Scan.so,rel_Scan.F⟩:=fn_stk cxrel_some (inl0_ok _ _) mixed rel_Scan.fn rel_Scan.h (by kernel_rfl) rel_Scan.ev
noncomputable def sprel_Scan:List (Nat×List (Nat×AK)×Lv.Spec):=(25,[],⟨3,rel_Scan.si,rel_Scan.so,rel_Scan.F⟩)::sprel_some
noncomputable abbrev crel_Scan:Cx:=⟨tabAt tab0,eqAt eqs0,specAt sprel_Scan,0,specPAt sq0⟩
theorem cxrel_Scan:CxOk PP crel_Scan:=cxrel_some.consS [] rel_Scan.fn.enters rel_Scan.ok
/-! levee/reads.Between -/
def reads_Between.si:Sh:=⟨[(0,.v false [.sl 74 tRel]),(1,.v false [.str]),(2,.v true [.int .i64,.int .i64,.str]),(3,.v true [.int .i64,.int .i64,.str])],[],[],0,[]⟩
def reads_Between.so:Sh:=⟨[(0,.v true [.str,.int .i64,.int .i64,.str,.int .i64,.int .i64,.str,.ref 1000])],[(1000,false,.arr 143 tRead)],[],1001,[]⟩
def reads_Between.h:H:=(.s none .n (.s none .n (.s (some ⟨[(9,.v false [.ptr 0 0])],[(0,true,.box 128 [.str,.int .i64,.int .i64,.str,.int .i64,.int .i64,.str,.ref 1]),(1,false,.arr 143 tRead)],[8],2,[]⟩) (.s none .n (.b (.l ⟨[(9,.v false [.ptr 0 0]),(23,.v false [.int .i64])],[(0,true,.box 128 [.str,.int .i64,.int .i64,.str,.int .i64,.int .i64,.str,.ref 1]),(1,false,.arr 143 tRead)],[1,8,21,22],2,[]⟩ .n))) .n)))
noncomputable def reads_Between.B:(List tRelT)×ByteArray×Int×Int×ByteArray×Int×Int×ByteArray×Unit→Option (ByteArray×Int×Int×ByteArray×Int×Int×ByteArray×(List tReadT)×Unit):=fun (p0,p1,p2_0,p2_1,p2_2,p3_0,p3_1,p3_2,_)=>
  Option.bind (
  Option.bind (reads_Look.F (p0,p1,())) fun y1=>
  Option.bind (rel_Scan.F (y1.1,y1.2.1,p2_0,p2_1,p2_2,p3_0,p3_1,p3_2,())) fun y2=>
  loopM (S:=Int×ByteArray×Int×Int×ByteArray×Int×Int×ByteArray×(List tReadT)×Unit) (fun (x23,o9_0_0,o9_0_1,o9_0_2,o9_0_3,o9_0_4,o9_0_5,o9_0_6,o9_0_7,_)=>
  (bif (decide (x23<(y2.1.length:Int))) then
  bif (decide (0≤x23)&&decide (x23<(y2.1.length:Int))) then
  let e3:tRecT:=(List.getD y2.1 (Int.toNat x23) tRec.z)
  bif (decide (0≤(0:Int))&&decide ((0:Int)<(e3.1.length:Int))) then
  let e4:tValueT:=(List.getD e3.1 0 tValue.z)
  bif (Nat.ble (o9_0_7.length+ [(p1,(e4,e3.2))].length) 2513169434916) then
  let e5:Int:=(IntKind.i64.wrap (x23+(1:Int)))
  some (.inl (e5,o9_0_0,o9_0_1,o9_0_2,o9_0_3,o9_0_4,o9_0_5,o9_0_6,(o9_0_7++ [(p1,(e4,e3.2))]),()))
  else none
  else none
  else none
  else
  some (.inr (.inl (o9_0_0,o9_0_1,o9_0_2,o9_0_3,o9_0_4,o9_0_5,o9_0_6,o9_0_7,()))))) ((0:Int),p1,p2_0,p2_1,p2_2,p3_0,p3_1,p3_2,[],()):Option ((ByteArray×Int×Int×ByteArray×Int×Int×ByteArray×(List tReadT)×Unit)⊕_)) fun r6=>match r6 with
  | .inl (o9_0_0_6,o9_0_1_6,o9_0_2_6,o9_0_3_6,o9_0_4_6,o9_0_5_6,o9_0_6_6,o9_0_7_6,_)=>
  (some (o9_0_0_6,o9_0_1_6,o9_0_2_6,o9_0_3_6,o9_0_4_6,o9_0_5_6,o9_0_6_6,o9_0_7_6,()))
  | .inr r=>some r
noncomputable def reads_Between.F:(List tRelT)×ByteArray×Int×Int×ByteArray×Int×Int×ByteArray×Unit→Option (ByteArray×Int×Int×ByteArray×Int×Int×ByteArray×(List tReadT)×Unit):=stk reads_Between.B
theorem reads_Between.eq:reads_Between.F=reads_Between.B:=stk_eq _
theorem reads_Between.ev (x:TS reads_Between.si):evF crel_Scan inl0 (Tryz.f75.body.getD .skip) Tryz.f75.results.toList reads_Between.h reads_Between.si reads_Between.so x=reads_Between.B x:=by kernel_rfl
theorem reads_Between.fn:FnOk PP 75 (Tryz.f75.body.getD .skip) Tryz.f75.results.toList Tryz.f75.ntmps:=fnOk_mk (by kernel_rfl) (by kernel_rfl) (by kernel_rfl) (by kernel_rfl)
theorem reads_Between.ok:SpecOk PP 75 ⟨4,reads_Between.si,reads_Between.so,reads_Between.F⟩:=fn_stk cxrel_Scan (inl0_ok _ _) mixed reads_Between.fn reads_Between.h (by kernel_rfl) reads_Between.ev
noncomputable def spreads_Between:List (Nat×List (Nat×AK)×Lv.Spec):=(75,[],⟨4,reads_Between.si,reads_Between.so,reads_Between.F⟩)::sprel_Scan
noncomputable abbrev creads_Between:Cx:=⟨tabAt tab0,eqAt eqs0,specAt spreads_Between,0,specPAt sq0⟩
theorem cxreads_Between:CxOk PP creads_Between:=cxrel_Scan.consS [] reads_Between.fn.enters reads_Between.ok
end Go.Proofs.Ytniojllnooblcaa
end
section
namespace Go.Proofs.Ytniojllnooblcaa
open Go Lv Go.Proofs Go.RowKit Go.Shelf
/--is a write of a key? -/
def ofP (w:tWriteT) (tb:ByteArray) (k:tValueT):Bool:=(w.1.toList==tb.toList)&&(match w.2.2 with
  | []=>false
  |x::_=>Ty.eq tValue x k)
/--the last write of a key -/
def lastW (ws:List tWriteT) (tb:ByteArray) (k:tValueT):Option tWriteT:=ws.reverse.find? fun w=>ofP w tb k
/--what a write's row comes to -/
def hitP (x:tWriteT):Bool×List tValueT:=if x.2.1=true then (false,[]) else (true,x.2.2)
noncomputable def rowP (l:List tRelT) (ws:List tWriteT) (tb:ByteArray) (k:tValueT):Option (Bool×List tValueT):=
  bif ws.all (fun w=>Nat.ble w.2.2.length 4398046511104) then match lastW ws tb k with
  |some w=>some (hitP w)
  |none=>(reads_Look.F (l,tb,())).bind fun y=>(rel_Get.F (y.1,y.2.1,k.1,k.2.1,k.2.2,())).bind fun z=>some (z.2.1,z.2.2.1)
  else none
noncomputable def txnRowF:List tRelT×List tWriteT×ByteArray×Int×Int×ByteArray×Unit→Option (Bool×List tValueT×Unit):=fun (l,ws,tb,a,b,c,_)=>bif Nat.ble ws.length 140737488351 then (rowP l ws tb (a,(b,c))).map fun x=>(x.1,x.2,()) else none
noncomputable def txnRowO:List tRelT×ByteArray×Int×Int×ByteArray×List tWriteT×Unit→Option (Bool×List tWriteT×List tValueT×Unit):=fun (l,tb,a,b,c,ws,_)=>bif Nat.ble ws.length 140737488351 then (rowP l ws tb (a,(b,c))).map fun x=>(x.1,ws,x.2,()) else none
end Go.Proofs.Ytniojllnooblcaa
end
