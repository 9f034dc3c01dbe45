import Derived.Test.YtleadolkcmagfaaGreatDoorM3
set_option linter.all false
set_option linter.unusedVariables false
set_option linter.unusedSimpArgs false
set_option linter.unusedSectionVars false
set_option maxRecDepth 100000
namespace Go.Proofs.Ytleadolkcmagfaa
open Go Lv Go.Proofs Go.RowKit Go.Shelf
abbrev tValueT:=Int×(Int×ByteArray)
abbrev tValue:Ty:=(.pair (.int .i64) (.pair (.int .i64) .str))
abbrev tNodeT:=Int×(Int×tValueT)
abbrev tNode:Ty:=(.pair (.int .i64) (.pair (.int .i64) tValue))
abbrev tAggT:=Int×Int
abbrev tAgg:Ty:=(.pair (.int .i64) (.int .i64))
abbrev tViewT:=ByteArray×(ByteArray×(ByteArray×(tAggT×((List tNodeT)×((List Int)×(Bool×(List tAggT)))))))
abbrev tView:Ty:=(.pair .str (.pair .str (.pair .str (.pair tAgg (.pair (.sl 78 tNode) (.pair (.sl 3 (.int .i64)) (.pair .bool (.sl 66 tAgg))))))))
abbrev tColumnT:=ByteArray×(Int×(Bool×(Bool×(ByteArray×Int))))
abbrev tColumn:Ty:=(.pair .str (.pair (.int .i64) (.pair .bool (.pair .bool (.pair .str (.int .i64))))))
abbrev tTableT:=ByteArray×((List tColumnT)×(List (List tNodeT)))
abbrev tTable:Ty:=(.pair .str (.pair (.sl 41 tColumn) (.sl 32 (.sl 78 tNode))))
abbrev tTokT:=Int×(ByteArray×tValueT)
abbrev tTok:Ty:=(.pair (.int .i64) (.pair .str tValue))
abbrev tParser:Ty:=(.pair (.sl 111 tTok) (.pair (.int .i64) .bool))
abbrev tDefT:=Int×(tTableT×tViewT)
abbrev tDef:Ty:=(.pair (.int .i64) (.pair tTable tView))
abbrev tScanner:Ty:=(.pair .str (.int .i64))
abbrev tBuilder:Ty:=(.pair .val (.sl 5 (.int .u8)))
abbrev tTyper:Ty:=(.pair (.pair (.sl 3 (.int .i64)) .bool) (.sl 3 (.int .i64)))
noncomputable abbrev PP:=Tryz.prog
def tab0:List (Nat×TI):=[
 (3,⟨.int .i64,1,8,17592186044416,[.int .i64 0],some (.int .i64)⟩),
 (4,⟨.bool,1,1,140737488355328,[.bool false],some .bool⟩),
 (5,⟨.int .u8,1,1,140737488355328,[.int .u8 0],some (.int .u8)⟩),
 (9,⟨.str,1,16,8796093022208,[.string ⟨#[]⟩],some .str⟩),
 (20,⟨.ifc,1,16,8796093022208,[.nilIface],some .val⟩),
 (23,⟨.sl 38,1,24,5864062014805,[.slice none 0 0],some (.sl 38 tDef)⟩),
 (26,⟨.sl 41,1,24,5864062014805,[.slice none 0 0],some (.sl 41 tColumn)⟩),
 (27,⟨.sl 32,1,24,5864062014805,[.slice none 0 0],some (.sl 32 (.sl 78 tNode))⟩),
 (29,⟨.st [(9,0),(26,1),(27,2)],3,64,2199023255552,[.string ⟨#[]⟩,.slice none 0 0,.slice none 0 0],some tTable⟩),
 (30,⟨.arr 2 3,2,16,8796093022208,[.int .i64 0,.int .i64 0],some tAgg⟩),
 (32,⟨.sl 78,1,24,5864062014805,[.slice none 0 0],some (.sl 78 tNode)⟩),
 (33,⟨.sl 3,1,24,5864062014805,[.slice none 0 0],some (.sl 3 (.int .i64))⟩),
 (34,⟨.sl 66,1,24,5864062014805,[.slice none 0 0],some (.sl 66 tAgg)⟩),
 (36,⟨.st [(9,0),(9,1),(9,2),(30,3),(32,5),(33,6),(4,7),(34,8)],9,144,977343669134,[.string ⟨#[]⟩,.string ⟨#[]⟩,.string ⟨#[]⟩,.int .i64 0,.int .i64 0,.slice none 0 0,.slice none 0 0,.bool false,.slice none 0 0],some tView⟩),
 (38,⟨.st [(3,0),(29,1),(36,4)],13,216,651562446089,[.int .i64 0,.string ⟨#[]⟩,.slice none 0 0,.slice none 0 0,.string ⟨#[]⟩,.string ⟨#[]⟩,.string ⟨#[]⟩,.int .i64 0,.int .i64 0,.slice none 0 0,.slice none 0 0,.bool false,.slice none 0 0],some tDef⟩),
 (41,⟨.st [(9,0),(3,1),(4,2),(4,3),(9,4),(3,5)],6,56,2513169434916,[.string ⟨#[]⟩,.int .i64 0,.bool false,.bool false,.string ⟨#[]⟩,.int .i64 0],some tColumn⟩),
 (42,⟨.sl 4,1,24,5864062014805,[.slice none 0 0],some (.sl 4 .bool)⟩),
 (48,⟨.int .i64,1,8,17592186044416,[.int .i64 0],some (.int .i64)⟩),
 (66,⟨.st [(3,0),(3,1)],2,16,8796093022208,[.int .i64 0,.int .i64 0],some tAgg⟩),
 (76,⟨.st [(3,0),(3,1),(9,2)],3,32,4398046511104,[.int .i64 0,.int .i64 0,.string ⟨#[]⟩],some tValue⟩),
 (78,⟨.st [(3,0),(3,1),(76,2)],5,48,2932031007402,[.int .i64 0,.int .i64 0,.int .i64 0,.int .i64 0,.string ⟨#[]⟩],some tNode⟩),
 (86,⟨.other,1,8,17592186044416,[.nilFunc],some .val⟩),
 (89,⟨.sl 9,1,24,5864062014805,[.slice none 0 0],some (.sl 9 .str)⟩),
 (90,⟨.sl 111,1,24,5864062014805,[.slice none 0 0],some (.sl 111 tTok)⟩),
 (95,⟨.st [(90,0),(3,1),(4,2)],3,40,3518437208883,[.slice none 0 0,.int .i64 0,.bool false],some tParser⟩),
 (103,⟨.int .u64,1,8,17592186044416,[.int .u64 0],some (.int .u64)⟩),
 (108,⟨.int .u64,1,8,17592186044416,[.int .u64 0],some (.int .u64)⟩),
 (111,⟨.st [(3,0),(9,1),(76,2)],5,56,2513169434916,[.int .i64 0,.string ⟨#[]⟩,.int .i64 0,.int .i64 0,.string ⟨#[]⟩],some tTok⟩),
 (125,⟨.ptr,1,8,17592186044416,[.pointer none],some .val⟩),
 (127,⟨.st [(89,0)],1,24,5864062014805,[.slice none 0 0],some (.sl 9 .str)⟩),
 (134,⟨.int .u32,1,4,35184372088832,[.int .u32 0],some (.int .u32)⟩),
 (151,⟨.sl 5,1,24,5864062014805,[.slice none 0 0],some (.sl 5 (.int .u8))⟩),
 (153,⟨.st [(150,0),(151,1)],2,32,4398046511104,[.pointer none,.slice none 0 0],some tBuilder⟩),
 (155,⟨.ifc,1,16,8796093022208,[.nilIface],some .val⟩),
 (159,⟨.st [(48,0)],1,8,17592186044416,[.int .i64 0],some (.int .i64)⟩),
 (160,⟨.ptr,1,8,17592186044416,[.pointer none],some .val⟩),
 (162,⟨.st [(90,0)],1,24,5864062014805,[.slice none 0 0],some (.sl 111 tTok)⟩),
 (170,⟨.st [(33,0),(4,1)],2,32,4398046511104,[.slice none 0 0,.bool false],some (.pair (.sl 3 (.int .i64)) .bool)⟩),
 (172,⟨.st [(170,0),(33,2)],3,56,2513169434916,[.slice none 0 0,.bool false,.slice none 0 0],some tTyper⟩),
 (181,⟨.st [(9,0),(3,1)],2,24,5864062014805,[.string ⟨#[]⟩,.int .i64 0],some tScanner⟩),
 (183,⟨.int .i64,1,8,17592186044416,[.int .i64 0],some (.int .i64)⟩),
 (191,⟨.map 9 76,1,8,17592186044416,[.map none],some .val⟩),
 (199,⟨.sl 183,1,24,5864062014805,[.slice none 0 0],some (.sl 183 (.int .i64))⟩),
 (213,⟨.map 9 3,1,8,17592186044416,[.map none],some .val⟩)]
theorem tab_ok:TabOk PP (tabAt tab0):=tabOk_of (by kernel_rfl)
def eqs0:List (Nat×Ty):=[(30,tAgg),(41,tColumn),(66,tAgg),(76,tValue),(78,tNode)]
theorem eqs_ok:EqOk PP (eqAt eqs0):=eqOk_of tab_ok (by kernel_rfl)
theorem mixed:PP.follows .mixedOrders=true:=by kernel_rfl
noncomputable def sp0:List (Nat×List (Nat×AK)×Lv.Spec):=[]
noncomputable def sq0:List (Nat×List (Nat×AK)×Lv.SpecP):=[]
noncomputable abbrev c0:Cx:=⟨tabAt tab0,eqAt eqs0,specAt sp0,159,specPAt sq0⟩
theorem cx0:CxOk PP c0:=CxOk.nilP tab_ok eqs_ok
def R01_Digits.si:Sh:=⟨[(0,.v false [.int .u64])],[],[],0,[]⟩
def R01_Digits.so:Sh:=⟨[(0,.v false [.str])],[],[],1000,[]⟩
def R01_Digits.h:H:=(.s none .n (.s none .n (.s (some ⟨[(0,.v false [.int .u64]),(3,.v false [.str])],[],[],0,[]⟩) (.b (.l ⟨[(0,.v false [.int .u64]),(3,.v false [.str])],[],[],0,[]⟩ .n)) .n)))
noncomputable def R01_Digits.B:Int×Unit→Option (ByteArray×Unit):=fun (p0,_)=>
 Option.bind (
 loopM (S:=Int×ByteArray×Unit) (fun (x0,x3,_)=>
 (bif (decide (x0>(9:Int))) then
 bif (!decide ((10:Int)=0)) then
 let e1:Int:=(Int.tmod x0 (10:Int))
 bif (!decide ((10:Int)=0)) then
 let e2:Int:=(Int.tmod x0 (10:Int))
 let e3:Int:=(IntKind.u64.wrap (e2+(1:Int)))
 bif (decide (0≤e1)&&(decide (e1≤e3)&&decide (e3≤((⟨#[48,49,50,51,52,53,54,55,56,57]⟩:ByteArray).size:Int)))) then
 let e4:ByteArray:=((⟨#[48,49,50,51,52,53,54,55,56,57]⟩:ByteArray).extract (Int.toNat e1) (Int.toNat e3))
 bif (!decide (((e4.size+x3.size:Nat):Int)>IntKind.i64.max)) then
 let e5:ByteArray:=(e4++x3)
 bif (!decide ((10:Int)=0)) then
 let e6:Int:=(IntKind.u64.wrap (Int.tdiv x0 (10:Int)))
 some (.inl (e6,e5,()))
 else none
 else none
 else none
 else none
 else none
 else
 some (.inr (.inl (x0,x3,()))))) (p0,(⟨#[]⟩:ByteArray),()):Option ((Int×ByteArray×Unit)⊕_)) fun r7=>match r7 with
 | .inl (x0_7,x3_7,_)=>
 (let e8:Int:=(IntKind.u64.wrap (x0_7+(1:Int)))
 bif (decide (0≤x0_7)&&(decide (x0_7≤e8)&&decide (e8≤((⟨#[48,49,50,51,52,53,54,55,56,57]⟩:ByteArray).size:Int)))) then
 let e9:ByteArray:=((⟨#[48,49,50,51,52,53,54,55,56,57]⟩:ByteArray).extract (Int.toNat x0_7) (Int.toNat e8))
 bif (!decide (((e9.size+x3_7.size:Nat):Int)>IntKind.i64.max)) then
 let e10:ByteArray:=(e9++x3_7)
 some (e10,())
 else none
 else none)
 | .inr r=>some r
noncomputable def R01_Digits.F:=stk R01_Digits.B
theorem R01_Digits.ev (x:TS R01_Digits.si):evF c0 inl0 (Tryz.f60.body.getD .skip) Tryz.f60.results.toList R01_Digits.h R01_Digits.si R01_Digits.so x=R01_Digits.B x:=by kernel_rfl
theorem R01_Digits.fn:FnOk PP 60 (Tryz.f60.body.getD .skip) Tryz.f60.results.toList Tryz.f60.ntmps:=fnOk_mk (by kernel_rfl) (by kernel_rfl) (by kernel_rfl) (by kernel_rfl)
theorem R01_Digits.ok:SpecOk PP 60 ⟨1,R01_Digits.si,R01_Digits.so,R01_Digits.F⟩:=fn_stk cx0 (inl0_ok _ _) mixed R01_Digits.fn R01_Digits.h (by kernel_rfl) R01_Digits.ev
noncomputable def spR01_Digits:List (Nat×List (Nat×AK)×Lv.Spec):=(60,[],⟨1,R01_Digits.si,R01_Digits.so,R01_Digits.F⟩)::sp0
noncomputable abbrev cR01_Digits:Cx:=⟨tabAt tab0,eqAt eqs0,specAt spR01_Digits,159,specPAt sq0⟩
theorem cxR01_Digits:CxOk PP cR01_Digits:=cx0.consS [] R01_Digits.fn.enters R01_Digits.ok
def R01_Signed.si:Sh:=⟨[(0,.v false [.int .i64])],[],[],0,[]⟩
def R01_Signed.so:Sh:=⟨[(0,.v false [.str])],[],[],1000,[]⟩
def R01_Signed.h:H:=.n
noncomputable def R01_Signed.B:Int×Unit→Option (ByteArray×Unit):=fun (p0,_)=>
 (bif (decide (p0<(0:Int))) then
 let e1:Int:=(IntKind.i64.wrap (p0+(1:Int)))
 let e2:Int:=(IntKind.u64.wrap ((IntKind.u64.wrap ((IntKind.i64.wrap (0-e1))))+(1:Int)))
 Option.bind (R01_Digits.F (e2,())) fun y3=>
 bif (!decide ((((⟨#[45]⟩:ByteArray).size+y3.1.size:Nat):Int)>IntKind.i64.max)) then
 let e4:ByteArray:=((⟨#[45]⟩:ByteArray)++y3.1)
 some (e4,())
 else none
 else
 Option.bind (R01_Digits.F ((IntKind.u64.wrap (p0)),())) fun y5=>
 some (y5.1,()))
noncomputable def R01_Signed.F:=stk R01_Signed.B
theorem R01_Signed.ev (x:TS R01_Signed.si):evF cR01_Digits inl0 (Tryz.f45.body.getD .skip) Tryz.f45.results.toList R01_Signed.h R01_Signed.si R01_Signed.so x=R01_Signed.B x:=by kernel_rfl
theorem R01_Signed.fn:FnOk PP 45 (Tryz.f45.body.getD .skip) Tryz.f45.results.toList Tryz.f45.ntmps:=fnOk_mk (by kernel_rfl) (by kernel_rfl) (by kernel_rfl) (by kernel_rfl)
theorem R01_Signed.ok:SpecOk PP 45 ⟨1,R01_Signed.si,R01_Signed.so,R01_Signed.F⟩:=fn_stk cxR01_Digits (inl0_ok _ _) mixed R01_Signed.fn R01_Signed.h (by kernel_rfl) R01_Signed.ev
noncomputable def spR01_Signed:List (Nat×List (Nat×AK)×Lv.Spec):=(45,[],⟨1,R01_Signed.si,R01_Signed.so,R01_Signed.F⟩)::spR01_Digits
noncomputable abbrev cR01_Signed:Cx:=⟨tabAt tab0,eqAt eqs0,specAt spR01_Signed,159,specPAt sq0⟩
theorem cxR01_Signed:CxOk PP cR01_Signed:=cxR01_Digits.consS [] R01_Signed.fn.enters R01_Signed.ok
def R01_May.si:Sh:=⟨[(0,.v true [.int .i64,.int .i64,.str])],[],[],0,[]⟩
def R01_May.so:Sh:=⟨[(0,.v false [.bool])],[],[],1000,[]⟩
def R01_May.h:H:=(.s none .n (.s none (.s (some ⟨[(10,.v false [.bool])],[],[1],0,[]⟩) .n .n) .n))
noncomputable def R01_May.B:Int×Int×ByteArray×Unit→Option (Bool×Unit):=fun (p0_0,p0_1,p0_2,_)=>
 Option.bind (
 (bif (p0_0==(0:Int)) then
 some (.inl (true,()))
 else
 some (.inl ((p0_0==(1:Int)),()))):Option ((Bool×Unit)⊕_)) fun r1=>match r1 with
 | .inl (x10_1,_)=>
 ((bif x10_1 then
 (bif (p0_2.toList==(⟨#[]⟩:ByteArray).toList) then
 (bif (decide (p0_1≥(0:Int))) then
 some ((decide (p0_1≤p0_0)),())
 else
 some (false,()))
 else
 some (false,()))
 else
 (bif (p0_0==(2:Int)) then
 some ((p0_2.toList==(⟨#[]⟩:ByteArray).toList),())
 else
 (bif (p0_0==(3:Int)) then
 (bif (p0_1==(0:Int)) then
 some ((decide ((p0_2.size:Int)≤(1000:Int))),())
 else
 some (false,()))
 else
 some (false,())))))
 | .inr r=>some r
noncomputable def R01_May.F:=stk R01_May.B
theorem R01_May.ev (x:TS R01_May.si):evF cR01_Signed inl0 (Tryz.f87.body.getD .skip) Tryz.f87.results.toList R01_May.h R01_May.si R01_May.so x=R01_May.B x:=by kernel_rfl
theorem R01_May.fn:FnOk PP 87 (Tryz.f87.body.getD .skip) Tryz.f87.results.toList Tryz.f87.ntmps:=fnOk_mk (by kernel_rfl) (by kernel_rfl) (by kernel_rfl) (by kernel_rfl)
theorem R01_May.ok:SpecOk PP 87 ⟨1,R01_May.si,R01_May.so,R01_May.F⟩:=fn_stk cxR01_Signed (inl0_ok _ _) mixed R01_May.fn R01_May.h (by kernel_rfl) R01_May.ev
noncomputable def spR01_May:List (Nat×List (Nat×AK)×Lv.Spec):=(87,[],⟨1,R01_May.si,R01_May.so,R01_May.F⟩)::spR01_Signed
noncomputable abbrev cR01_May:Cx:=⟨tabAt tab0,eqAt eqs0,specAt spR01_May,159,specPAt sq0⟩
theorem cxR01_May:CxOk PP cR01_May:=cxR01_Signed.consS [] R01_May.fn.enters R01_May.ok
def R01_Text.si:Sh:=⟨[(0,.v true [.int .i64,.int .i64,.str])],[],[],0,[]⟩
def R01_Text.so:Sh:=⟨[(0,.v false [.str])],[],[],1000,[]⟩
def R01_Text.h:H:=(.s none .n (.s none (.s none .n (.b (.s none .n (.c .n (.s none .n (.c .n (.s none .n (.c .n (.s none .n (.c (.s none .n (.s (some ⟨[(3,.v false [.str])],[],[],0,[]⟩) (.s none .n (.b (.l ⟨[(3,.v false [.str]),(4,.v false [.int .i64])],[],[1],0,[]⟩ .n))) .n)) .n)))))))))) .n))
noncomputable def R01_Text.B:Int×Int×ByteArray×Unit→Option (ByteArray×Unit):=fun (p0_0,p0_1,p0_2,_)=>
 (bif (p0_0==(0:Int)) then
 some ((⟨#[110,117,108,108]⟩:ByteArray),())
 else
 (bif (p0_0==(1:Int)) then
 (bif (p0_1==(0:Int)) then
 some ((⟨#[102,97,108,115,101]⟩:ByteArray),())
 else
 some ((⟨#[116,114,117,101]⟩:ByteArray),()))
 else
 (bif (p0_0==(2:Int)) then
 Option.bind (R01_Signed.F (p0_1,())) fun y1=>
 some (y1.1,())
 else
 (bif (p0_0==(3:Int)) then
 Option.bind (
 loopM (S:=ByteArray×Int×Unit) (fun (x3,x4,_)=>
 (bif (decide (x4<(p0_2.size:Int))) then
 bif (decide (0≤x4)&&decide (x4<(p0_2.size:Int))) then
 let e2:Int:=(byteAt p0_2 (Int.toNat x4))
 (bif (e2==(39:Int)) then
 bif (!decide (((x3.size+(⟨#[39]⟩:ByteArray).size:Nat):Int)>IntKind.i64.max)) then
 let e3:ByteArray:=(x3++(⟨#[39]⟩:ByteArray))
 let e4:Int:=(IntKind.i64.wrap (x4+(1:Int)))
 bif (decide (0≤x4)&&(decide (x4≤e4)&&decide (e4≤(p0_2.size:Int)))) then
 let e5:ByteArray:=(p0_2.extract (Int.toNat x4) (Int.toNat e4))
 bif (!decide (((e3.size+e5.size:Nat):Int)>IntKind.i64.max)) then
 let e6:ByteArray:=(e3++e5)
 let e7:Int:=(IntKind.i64.wrap (x4+(1:Int)))
 some (.inl (e6,e7,()))
 else none
 else none
 else none
 else
 let e8:Int:=(IntKind.i64.wrap (x4+(1:Int)))
 bif (decide (0≤x4)&&(decide (x4≤e8)&&decide (e8≤(p0_2.size:Int)))) then
 let e9:ByteArray:=(p0_2.extract (Int.toNat x4) (Int.toNat e8))
 bif (!decide (((x3.size+e9.size:Nat):Int)>IntKind.i64.max)) then
 let e10:ByteArray:=(x3++e9)
 let e11:Int:=(IntKind.i64.wrap (x4+(1:Int)))
 some (.inl (e10,e11,()))
 else none
 else none)
 else none
 else
 some (.inr (.inl (x3,()))))) ((⟨#[39]⟩:ByteArray),(0:Int),()):Option ((ByteArray×Unit)⊕_)) fun r12=>match r12 with
 | .inl (x3_12,_)=>
 (bif (!decide (((x3_12.size+(⟨#[39]⟩:ByteArray).size:Nat):Int)>IntKind.i64.max)) then
 let e13:ByteArray:=(x3_12++(⟨#[39]⟩:ByteArray))
 some (e13,())
 else none)
 | .inr r=>some r
 else
 some ((⟨#[63]⟩:ByteArray),())))))
noncomputable def R01_Text.F:=stk R01_Text.B
theorem R01_Text.ev (x:TS R01_Text.si):evF cR01_May inl0 (Tryz.f121.body.getD .skip) Tryz.f121.results.toList R01_Text.h R01_Text.si R01_Text.so x=R01_Text.B x:=by kernel_rfl
theorem R01_Text.fn:FnOk PP 121 (Tryz.f121.body.getD .skip) Tryz.f121.results.toList Tryz.f121.ntmps:=fnOk_mk (by kernel_rfl) (by kernel_rfl) (by kernel_rfl) (by kernel_rfl)
theorem R01_Text.ok:SpecOk PP 121 ⟨1,R01_Text.si,R01_Text.so,R01_Text.F⟩:=fn_stk cxR01_May (inl0_ok _ _) mixed R01_Text.fn R01_Text.h (by kernel_rfl) R01_Text.ev
noncomputable def spR01_Text:List (Nat×List (Nat×AK)×Lv.Spec):=(121,[],⟨1,R01_Text.si,R01_Text.so,R01_Text.F⟩)::spR01_May
noncomputable abbrev cR01_Text:Cx:=⟨tabAt tab0,eqAt eqs0,specAt spR01_Text,159,specPAt sq0⟩
theorem cxR01_Text:CxOk PP cR01_Text:=cxR01_May.consS [] R01_Text.fn.enters R01_Text.ok
def R03_Text.si:Sh:=⟨[(0,.v false [.sl 78 tNode])],[],[],0,[]⟩
def R03_Text.so:Sh:=⟨[(0,.v false [.str])],[],[],1000,[]⟩
def R03_Text.h:H:=(.s none .n (.s none .n (.s none .n (.s none (.s none .n (.b (.l ⟨[(4,.v false [.str]),(5,.v false [.int .i64])],[],[0,3],0,[]⟩ (.s none .n (.s none (.b (.s (some ⟨[(4,.v false [.str])],[],[0,3,5],0,[]⟩) .n .n)) .n))))) .n))))
noncomputable def R03_Text.B:(List tNodeT)×Unit→Option (ByteArray×Unit):=fun (p0,_)=>
 loopM (S:=ByteArray×Int×Unit) (fun (x4,x5,_)=>
 (bif (decide (x5<(p0.length:Int))) then
 Option.bind (
 (bif (decide (x5>(0:Int))) then
 bif (!decide (((x4.size+(⟨#[32]⟩:ByteArray).size:Nat):Int)>IntKind.i64.max)) then
 let e1:ByteArray:=(x4++(⟨#[32]⟩:ByteArray))
 some (.inl (e1,()))
 else none
 else
 some (.inl (x4,()))):Option ((ByteArray×Unit)⊕_)) fun r2=>match r2 with
 | .inl (x4_2,_)=>
 (bif (decide (0≤x5)&&decide (x5<(p0.length:Int))) then
 let e3:tNodeT:=(List.getD p0 (Int.toNat x5) tNode.z)
 (bif (e3.1==(0:Int)) then
 Option.bind (R01_Signed.F (e3.2.1,())) fun y4=>
 bif (!decide ((((⟨#[99]⟩:ByteArray).size+y4.1.size:Nat):Int)>IntKind.i64.max)) then
 let e5:ByteArray:=((⟨#[99]⟩:ByteArray)++y4.1)
 bif (!decide (((x4_2.size+e5.size:Nat):Int)>IntKind.i64.max)) then
 let e6:ByteArray:=(x4_2++e5)
 let e7:Int:=(IntKind.i64.wrap (x5+(1:Int)))
 some (.inl (e6,e7,()))
 else none
 else none
 else
 (bif (e3.1==(1:Int)) then
 Option.bind (R01_Text.F (e3.2.2.1,e3.2.2.2.1,e3.2.2.2.2,())) fun y8=>
 bif (!decide (((x4_2.size+y8.1.size:Nat):Int)>IntKind.i64.max)) then
 let e9:ByteArray:=(x4_2++y8.1)
 let e10:Int:=(IntKind.i64.wrap (x5+(1:Int)))
 some (.inl (e9,e10,()))
 else none
 else
 (bif (decide (e3.1<(0:Int))) then
 bif (!decide (((x4_2.size+(⟨#[63]⟩:ByteArray).size:Nat):Int)>IntKind.i64.max)) then
 let e11:ByteArray:=(x4_2++(⟨#[63]⟩:ByteArray))
 let e12:Int:=(IntKind.i64.wrap (x5+(1:Int)))
 some (.inl (e11,e12,()))
 else none
 else
 (bif (decide (e3.1>(10:Int))) then
 bif (!decide (((x4_2.size+(⟨#[63]⟩:ByteArray).size:Nat):Int)>IntKind.i64.max)) then
 let e13:ByteArray:=(x4_2++(⟨#[63]⟩:ByteArray))
 let e14:Int:=(IntKind.i64.wrap (x5+(1:Int)))
 some (.inl (e13,e14,()))
 else none
 else
 bif (decide (0≤e3.1)&&decide (e3.1<([(⟨#[]⟩:ByteArray),(⟨#[]⟩:ByteArray),(⟨#[43]⟩:ByteArray),(⟨#[45]⟩:ByteArray),(⟨#[42]⟩:ByteArray),(⟨#[61]⟩:ByteArray),(⟨#[60]⟩:ByteArray),(⟨#[97,110,100]⟩:ByteArray),(⟨#[111,114]⟩:ByteArray),(⟨#[110,111,116]⟩:ByteArray),(⟨#[110,117,108,108,63]⟩:ByteArray)].length:Int))) then
 let e15:ByteArray:=(List.getD [(⟨#[]⟩:ByteArray),(⟨#[]⟩:ByteArray),(⟨#[43]⟩:ByteArray),(⟨#[45]⟩:ByteArray),(⟨#[42]⟩:ByteArray),(⟨#[61]⟩:ByteArray),(⟨#[60]⟩:ByteArray),(⟨#[97,110,100]⟩:ByteArray),(⟨#[111,114]⟩:ByteArray),(⟨#[110,111,116]⟩:ByteArray),(⟨#[110,117,108,108,63]⟩:ByteArray)] (Int.toNat e3.1) (⟨#[]⟩:ByteArray))
 bif (!decide (((x4_2.size+e15.size:Nat):Int)>IntKind.i64.max)) then
 let e16:ByteArray:=(x4_2++e15)
 let e17:Int:=(IntKind.i64.wrap (x5+(1:Int)))
 some (.inl (e16,e17,()))
 else none
 else none))))
 else none)
 | .inr r=>some r
 else
 some (.inr (x4,())))) ((⟨#[]⟩:ByteArray),(0:Int),())
noncomputable def R03_Text.F:=stk R03_Text.B
theorem R03_Text.ev (x:TS R03_Text.si):evF cR01_Text inl0 (Tryz.f88.body.getD .skip) Tryz.f88.results.toList R03_Text.h R03_Text.si R03_Text.so x=R03_Text.B x:=by kernel_rfl
theorem R03_Text.fn:FnOk PP 88 (Tryz.f88.body.getD .skip) Tryz.f88.results.toList Tryz.f88.ntmps:=fnOk_mk (by kernel_rfl) (by kernel_rfl) (by kernel_rfl) (by kernel_rfl)
theorem R03_Text.ok:SpecOk PP 88 ⟨1,R03_Text.si,R03_Text.so,R03_Text.F⟩:=fn_stk cxR01_Text (inl0_ok _ _) mixed R03_Text.fn R03_Text.h (by kernel_rfl) R03_Text.ev
noncomputable def spR03_Text:List (Nat×List (Nat×AK)×Lv.Spec):=(88,[],⟨1,R03_Text.si,R03_Text.so,R03_Text.F⟩)::spR01_Text
noncomputable abbrev cR03_Text:Cx:=⟨tabAt tab0,eqAt eqs0,specAt spR03_Text,159,specPAt sq0⟩
theorem cxR03_Text:CxOk PP cR03_Text:=cxR01_Text.consS [] R03_Text.fn.enters R03_Text.ok
def R07_stepText.si:Sh:=⟨[(0,.v true [.int .i64,.int .i64,.int .i64,.int .i64,.str])],[],[],0,[]⟩
def R07_stepText.so:Sh:=⟨[(0,.v false [.str])],[],[],1000,[]⟩
def R07_stepText.h:H:=.n
noncomputable def R07_stepText.B:Int×Int×Int×Int×ByteArray×Unit→Option (ByteArray×Unit):=fun (p0_0,p0_1,p0_2,p0_3,p0_4,_)=>
 (bif (p0_0==(10:Int)) then
 some ((⟨#[110,117,108,108,32,63]⟩:ByteArray),())
 else
 (bif (p0_0==(1:Int)) then
 (bif (decide (p0_2<(2:Int))) then
 Option.bind (R01_May.F (p0_2,p0_3,p0_4,())) fun y1=>
 (bif (!y1.1) then
 some ((⟨#[33]⟩:ByteArray),())
 else
 Option.bind (R03_Text.F ([(p0_0,(p0_1,(p0_2,(p0_3,p0_4))))],())) fun y2=>
 some (y2.1,()))
 else
 Option.bind (R03_Text.F ([(p0_0,(p0_1,(p0_2,(p0_3,p0_4))))],())) fun y3=>
 some (y3.1,()))
 else
 Option.bind (R03_Text.F ([(p0_0,(p0_1,(p0_2,(p0_3,p0_4))))],())) fun y4=>
 some (y4.1,())))
noncomputable def R07_stepText.F:=stk R07_stepText.B
theorem R07_stepText.ev (x:TS R07_stepText.si):evF cR03_Text inl0 (Tryz.f61.body.getD .skip) Tryz.f61.results.toList R07_stepText.h R07_stepText.si R07_stepText.so x=R07_stepText.B x:=by kernel_rfl
theorem R07_stepText.fn:FnOk PP 61 (Tryz.f61.body.getD .skip) Tryz.f61.results.toList Tryz.f61.ntmps:=fnOk_mk (by kernel_rfl) (by kernel_rfl) (by kernel_rfl) (by kernel_rfl)
theorem R07_stepText.ok:SpecOk PP 61 ⟨1,R07_stepText.si,R07_stepText.so,R07_stepText.F⟩:=fn_stk cxR03_Text (inl0_ok _ _) mixed R07_stepText.fn R07_stepText.h (by kernel_rfl) R07_stepText.ev
noncomputable def spR07_stepText:List (Nat×List (Nat×AK)×Lv.Spec):=(61,[],⟨1,R07_stepText.si,R07_stepText.so,R07_stepText.F⟩)::spR03_Text
noncomputable abbrev cR07_stepText:Cx:=⟨tabAt tab0,eqAt eqs0,specAt spR07_stepText,159,specPAt sq0⟩
theorem cxR07_stepText:CxOk PP cR07_stepText:=cxR03_Text.consS [] R07_stepText.fn.enters R07_stepText.ok
def R07_exprText.si:Sh:=⟨[(0,.v false [.sl 78 tNode])],[],[],0,[]⟩
def R07_exprText.so:Sh:=⟨[(0,.v false [.str])],[],[],1000,[]⟩
def R07_exprText.h:H:=(.s none .n (.s none .n (.s (some ⟨[(3,.v false [.str])],[],[],0,[]⟩) (.s none .n (.b (.l ⟨[(3,.v false [.str]),(4,.v false [.int .i64])],[],[0],0,[]⟩ .n))) .n)))
noncomputable def R07_exprText.B:(List tNodeT)×Unit→Option (ByteArray×Unit):=fun (p0,_)=>
 Option.bind (
 loopM (S:=ByteArray×Int×Unit) (fun (x3,x4,_)=>
 (bif (decide (x4<(p0.length:Int))) then
 bif (decide (0≤x4)&&decide (x4<(p0.length:Int))) then
 let e1:tNodeT:=(List.getD p0 (Int.toNat x4) tNode.z)
 Option.bind (R07_stepText.F (e1.1,e1.2.1,e1.2.2.1,e1.2.2.2.1,e1.2.2.2.2,())) fun y2=>
 bif (!decide ((((⟨#[32]⟩:ByteArray).size+y2.1.size:Nat):Int)>IntKind.i64.max)) then
 let e3:ByteArray:=((⟨#[32]⟩:ByteArray)++y2.1)
 bif (!decide (((x3.size+e3.size:Nat):Int)>IntKind.i64.max)) then
 let e4:ByteArray:=(x3++e3)
 let e5:Int:=(IntKind.i64.wrap (x4+(1:Int)))
 some (.inl (e4,e5,()))
 else none
 else none
 else none
 else
 some (.inr (.inl (x3,()))))) ((⟨#[32,91]⟩:ByteArray),(0:Int),()):Option ((ByteArray×Unit)⊕_)) fun r6=>match r6 with
 | .inl (x3_6,_)=>
 (bif (!decide (((x3_6.size+(⟨#[32,93]⟩:ByteArray).size:Nat):Int)>IntKind.i64.max)) then
 let e7:ByteArray:=(x3_6++(⟨#[32,93]⟩:ByteArray))
 some (e7,())
 else none)
 | .inr r=>some r
noncomputable def R07_exprText.F:=stk R07_exprText.B
theorem R07_exprText.ev (x:TS R07_exprText.si):evF cR07_stepText inl0 (Tryz.f46.body.getD .skip) Tryz.f46.results.toList R07_exprText.h R07_exprText.si R07_exprText.so x=R07_exprText.B x:=by kernel_rfl
theorem R07_exprText.fn:FnOk PP 46 (Tryz.f46.body.getD .skip) Tryz.f46.results.toList Tryz.f46.ntmps:=fnOk_mk (by kernel_rfl) (by kernel_rfl) (by kernel_rfl) (by kernel_rfl)
theorem R07_exprText.ok:SpecOk PP 46 ⟨1,R07_exprText.si,R07_exprText.so,R07_exprText.F⟩:=fn_stk cxR07_stepText (inl0_ok _ _) mixed R07_exprText.fn R07_exprText.h (by kernel_rfl) R07_exprText.ev
noncomputable def spR07_exprText:List (Nat×List (Nat×AK)×Lv.Spec):=(46,[],⟨1,R07_exprText.si,R07_exprText.so,R07_exprText.F⟩)::spR07_stepText
noncomputable abbrev cR07_exprText:Cx:=⟨tabAt tab0,eqAt eqs0,specAt spR07_exprText,159,specPAt sq0⟩
theorem cxR07_exprText:CxOk PP cR07_exprText:=cxR07_stepText.consS [] R07_exprText.fn.enters R07_exprText.ok
def R07_pick.si:Sh:=⟨[(0,.v false [.int .i64]),(1,.v false [.sl 9 .str])],[],[],0,[]⟩
def R07_pick.so:Sh:=⟨[(0,.v false [.str])],[],[],1000,[]⟩
def R07_pick.h:H:=.n
noncomputable def R07_pick.B:Int×(List ByteArray)×Unit→Option (ByteArray×Unit):=fun (p0,p1,_)=>
 (bif (decide (p0<(0:Int))) then
 some ((⟨#[33]⟩:ByteArray),())
 else
 (bif (decide (p0≥(p1.length:Int))) then
 some ((⟨#[33]⟩:ByteArray),())
 else
 bif (decide (0≤p0)&&decide (p0<(p1.length:Int))) then
 let e1:ByteArray:=(List.getD p1 (Int.toNat p0) (⟨#[]⟩:ByteArray))
 some (e1,())
 else none))
noncomputable def R07_pick.F:=stk R07_pick.B
theorem R07_pick.ev (x:TS R07_pick.si):evF cR07_exprText inl0 (Tryz.f47.body.getD .skip) Tryz.f47.results.toList R07_pick.h R07_pick.si R07_pick.so x=R07_pick.B x:=by kernel_rfl
theorem R07_pick.fn:FnOk PP 47 (Tryz.f47.body.getD .skip) Tryz.f47.results.toList Tryz.f47.ntmps:=fnOk_mk (by kernel_rfl) (by kernel_rfl) (by kernel_rfl) (by kernel_rfl)
theorem R07_pick.ok:SpecOk PP 47 ⟨2,R07_pick.si,R07_pick.so,R07_pick.F⟩:=fn_stk cxR07_exprText (inl0_ok _ _) mixed R07_pick.fn R07_pick.h (by kernel_rfl) R07_pick.ev
noncomputable def spR07_pick:List (Nat×List (Nat×AK)×Lv.Spec):=(47,[],⟨2,R07_pick.si,R07_pick.so,R07_pick.F⟩)::spR07_exprText
noncomputable abbrev cR07_pick:Cx:=⟨tabAt tab0,eqAt eqs0,specAt spR07_pick,159,specPAt sq0⟩
theorem cxR07_pick:CxOk PP cR07_pick:=cxR07_exprText.consS [] R07_pick.fn.enters R07_pick.ok
def R07_viewText.si:Sh:=⟨[(0,.v true [.str,.str,.str,.int .i64,.int .i64,.sl 78 tNode,.sl 3 (.int .i64),.bool,.sl 66 tAgg])],[],[],0,[]⟩
def R07_viewText.so:Sh:=⟨[(0,.v false [.str])],[],[],1000,[]⟩
def R07_viewText.h:H:=(.s none .n (.s none .n (.s (some ⟨[(3,.v false [.str])],[],[1],0,[]⟩) .n (.s (some ⟨[(3,.v false [.str])],[],[1],0,[]⟩) .n (.s none .n (.s (some ⟨[(3,.v false [.str])],[],[1],0,[]⟩) (.s none .n (.b (.l ⟨[(3,.v false [.str]),(4,.v false [.int .i64])],[],[1],0,[]⟩ .n))) (.s (some ⟨[(3,.v false [.str])],[],[1],0,[]⟩) .n (.s none (.s none .n (.b (.l ⟨[(3,.v false [.str]),(5,.v false [.int .i64])],[],[1],0,[]⟩ (.s none .n (.s none (.b (.s (some ⟨[(3,.v false [.str])],[],[1,5],0,[]⟩) .n .n)) .n))))) .n))))))))
noncomputable def R07_viewText.B:ByteArray×ByteArray×ByteArray×Int×Int×(List tNodeT)×(List Int)×Bool×(List tAggT)×Unit→Option (ByteArray×Unit):=fun (p0_0,p0_1,p0_2,p0_3,p0_4,p0_5,p0_6,p0_7,p0_8,_)=>
 bif (!decide ((((⟨#[118,105,101,119,32]⟩:ByteArray).size+p0_0.size:Nat):Int)>IntKind.i64.max)) then
 let e1:ByteArray:=((⟨#[118,105,101,119,32]⟩:ByteArray)++p0_0)
 bif (!decide (((e1.size+(⟨#[32,102,114,111,109,32]⟩:ByteArray).size:Nat):Int)>IntKind.i64.max)) then
 let e2:ByteArray:=(e1++(⟨#[32,102,114,111,109,32]⟩:ByteArray))
 bif (!decide (((e2.size+p0_1.size:Nat):Int)>IntKind.i64.max)) then
 let e3:ByteArray:=(e2++p0_1)
 Option.bind (
 (bif (!(p0_2.toList==(⟨#[]⟩:ByteArray).toList)) then
 bif (!decide ((((⟨#[32,106,111,105,110,32]⟩:ByteArray).size+p0_2.size:Nat):Int)>IntKind.i64.max)) then
 let e4:ByteArray:=((⟨#[32,106,111,105,110,32]⟩:ByteArray)++p0_2)
 bif (!decide (((e4.size+(⟨#[32,111,110,32]⟩:ByteArray).size:Nat):Int)>IntKind.i64.max)) then
 let e5:ByteArray:=(e4++(⟨#[32,111,110,32]⟩:ByteArray))
 bif (decide (0≤(0:Int))&&decide ((0:Int)<(2:Int))) then
 Option.bind (R01_Signed.F (p0_3,())) fun y6=>
 bif (!decide (((e5.size+y6.1.size:Nat):Int)>IntKind.i64.max)) then
 let e7:ByteArray:=(e5++y6.1)
 bif (!decide (((e7.size+(⟨#[32,61,32]⟩:ByteArray).size:Nat):Int)>IntKind.i64.max)) then
 let e8:ByteArray:=(e7++(⟨#[32,61,32]⟩:ByteArray))
 bif (decide (0≤(1:Int))&&decide ((1:Int)<(2:Int))) then
 Option.bind (R01_Signed.F (p0_4,())) fun y9=>
 bif (!decide (((e8.size+y9.1.size:Nat):Int)>IntKind.i64.max)) then
 let e10:ByteArray:=(e8++y9.1)
 bif (!decide (((e3.size+e10.size:Nat):Int)>IntKind.i64.max)) then
 let e11:ByteArray:=(e3++e10)
 some (.inl (e11,()))
 else none
 else none
 else none
 else none
 else none
 else none
 else none
 else none
 else
 some (.inl (e3,()))):Option ((ByteArray×Unit)⊕_)) fun r12=>match r12 with
 | .inl (x3_12,_)=>
 (Option.bind (
 (bif (decide ((p0_5.length:Int)>(0:Int))) then
 Option.bind (R07_exprText.F (p0_5,())) fun y13=>
 bif (!decide ((((⟨#[32,119,104,101,114,101]⟩:ByteArray).size+y13.1.size:Nat):Int)>IntKind.i64.max)) then
 let e14:ByteArray:=((⟨#[32,119,104,101,114,101]⟩:ByteArray)++y13.1)
 bif (!decide (((x3_12.size+e14.size:Nat):Int)>IntKind.i64.max)) then
 let e15:ByteArray:=(x3_12++e14)
 some (.inl (e15,()))
 else none
 else none
 else
 some (.inl (x3_12,()))):Option ((ByteArray×Unit)⊕_)) fun r16=>match r16 with
 | .inl (x3_16,_)=>
 (bif (!decide (((x3_16.size+(⟨#[32,112,105,99,107]⟩:ByteArray).size:Nat):Int)>IntKind.i64.max)) then
 let e17:ByteArray:=(x3_16++(⟨#[32,112,105,99,107]⟩:ByteArray))
 Option.bind (
 loopM (S:=ByteArray×Int×Unit) (fun (x3,x4,_)=>
 (bif (decide (x4<(p0_6.length:Int))) then
 (bif (decide (x4>(0:Int))) then
 bif (!decide (((x3.size+(⟨#[32,44]⟩:ByteArray).size:Nat):Int)>IntKind.i64.max)) then
 let e18:ByteArray:=(x3++(⟨#[32,44]⟩:ByteArray))
 bif (decide (0≤x4)&&decide (x4<(p0_6.length:Int))) then
 let e19:Int:=(List.getD p0_6 (Int.toNat x4) (0:Int))
 Option.bind (R01_Signed.F (e19,())) fun y20=>
 bif (!decide ((((⟨#[32]⟩:ByteArray).size+y20.1.size:Nat):Int)>IntKind.i64.max)) then
 let e21:ByteArray:=((⟨#[32]⟩:ByteArray)++y20.1)
 bif (!decide (((e18.size+e21.size:Nat):Int)>IntKind.i64.max)) then
 let e22:ByteArray:=(e18++e21)
 let e23:Int:=(IntKind.i64.wrap (x4+(1:Int)))
 some (.inl (e22,e23,()))
 else none
 else none
 else none
 else none
 else
 bif (decide (0≤x4)&&decide (x4<(p0_6.length:Int))) then
 let e24:Int:=(List.getD p0_6 (Int.toNat x4) (0:Int))
 Option.bind (R01_Signed.F (e24,())) fun y25=>
 bif (!decide ((((⟨#[32]⟩:ByteArray).size+y25.1.size:Nat):Int)>IntKind.i64.max)) then
 let e26:ByteArray:=((⟨#[32]⟩:ByteArray)++y25.1)
 bif (!decide (((x3.size+e26.size:Nat):Int)>IntKind.i64.max)) then
 let e27:ByteArray:=(x3++e26)
 let e28:Int:=(IntKind.i64.wrap (x4+(1:Int)))
 some (.inl (e27,e28,()))
 else none
 else none
 else none)
 else
 some (.inr (.inl (x3,()))))) (e17,(0:Int),()):Option ((ByteArray×Unit)⊕_)) fun r29=>match r29 with
 | .inl (x3_29,_)=>
 (Option.bind (
 (bif p0_7 then
 bif (!decide (((x3_29.size+(⟨#[32,103,114,111,117,112]⟩:ByteArray).size:Nat):Int)>IntKind.i64.max)) then
 let e30:ByteArray:=(x3_29++(⟨#[32,103,114,111,117,112]⟩:ByteArray))
 some (.inl (e30,()))
 else none
 else
 some (.inl (x3_29,()))):Option ((ByteArray×Unit)⊕_)) fun r31=>match r31 with
 | .inl (x3_31,_)=>
 (loopM (S:=ByteArray×Int×Unit) (fun (x3,x5,_)=>
 (bif (decide (x5<(p0_8.length:Int))) then
 Option.bind (
 (bif (decide (x5>(0:Int))) then
 bif (!decide (((x3.size+(⟨#[32,44]⟩:ByteArray).size:Nat):Int)>IntKind.i64.max)) then
 let e32:ByteArray:=(x3++(⟨#[32,44]⟩:ByteArray))
 some (.inl (e32,()))
 else none
 else
 some (.inl (x3,()))):Option ((ByteArray×Unit)⊕_)) fun r33=>match r33 with
 | .inl (x3_33,_)=>
 (bif (decide (0≤x5)&&decide (x5<(p0_8.length:Int))) then
 let e34:tAggT:=(List.getD p0_8 (Int.toNat x5) tAgg.z)
 Option.bind (R07_pick.F (e34.1,[(⟨#[99,111,117,110,116]⟩:ByteArray),(⟨#[115,117,109]⟩:ByteArray),(⟨#[109,105,110]⟩:ByteArray),(⟨#[109,97,120]⟩:ByteArray)],())) fun y35=>
 bif (!decide ((((⟨#[32]⟩:ByteArray).size+y35.1.size:Nat):Int)>IntKind.i64.max)) then
 let e36:ByteArray:=((⟨#[32]⟩:ByteArray)++y35.1)
 bif (!decide (((x3_33.size+e36.size:Nat):Int)>IntKind.i64.max)) then
 let e37:ByteArray:=(x3_33++e36)
 bif (decide (0≤x5)&&decide (x5<(p0_8.length:Int))) then
 let e38:tAggT:=(List.getD p0_8 (Int.toNat x5) tAgg.z)
 (bif (e38.1 !=(0:Int)) then
 bif (decide (0≤x5)&&decide (x5<(p0_8.length:Int))) then
 let e39:tAggT:=(List.getD p0_8 (Int.toNat x5) tAgg.z)
 Option.bind (R01_Signed.F (e39.2,())) fun y40=>
 bif (!decide ((((⟨#[32]⟩:ByteArray).size+y40.1.size:Nat):Int)>IntKind.i64.max)) then
 let e41:ByteArray:=((⟨#[32]⟩:ByteArray)++y40.1)
 bif (!decide (((e37.size+e41.size:Nat):Int)>IntKind.i64.max)) then
 let e42:ByteArray:=(e37++e41)
 let e43:Int:=(IntKind.i64.wrap (x5+(1:Int)))
 some (.inl (e42,e43,()))
 else none
 else none
 else none
 else
 let e44:Int:=(IntKind.i64.wrap (x5+(1:Int)))
 some (.inl (e37,e44,())))
 else none
 else none
 else none
 else none)
 | .inr r=>some r
 else
 some (.inr (x3,())))) (x3_31,(0:Int),()))
 | .inr r=>some r)
 | .inr r=>some r
 else none)
 | .inr r=>some r)
 | .inr r=>some r
 else none
 else none
 else none
noncomputable def R07_viewText.F:=stk R07_viewText.B
theorem R07_viewText.ev (x:TS R07_viewText.si):evF cR07_pick inl0 (Tryz.f30.body.getD .skip) Tryz.f30.results.toList R07_viewText.h R07_viewText.si R07_viewText.so x=R07_viewText.B x:=by kernel_rfl
theorem R07_viewText.fn:FnOk PP 30 (Tryz.f30.body.getD .skip) Tryz.f30.results.toList Tryz.f30.ntmps:=fnOk_mk (by kernel_rfl) (by kernel_rfl) (by kernel_rfl) (by kernel_rfl)
theorem R07_viewText.ok:SpecOk PP 30 ⟨1,R07_viewText.si,R07_viewText.so,R07_viewText.F⟩:=fn_stk cxR07_pick (inl0_ok _ _) mixed R07_viewText.fn R07_viewText.h (by kernel_rfl) R07_viewText.ev
noncomputable def spR07_viewText:List (Nat×List (Nat×AK)×Lv.Spec):=(30,[],⟨1,R07_viewText.si,R07_viewText.so,R07_viewText.F⟩)::spR07_pick
noncomputable abbrev cR07_viewText:Cx:=⟨tabAt tab0,eqAt eqs0,specAt spR07_viewText,159,specPAt sq0⟩
theorem cxR07_viewText:CxOk PP cR07_viewText:=cxR07_pick.consS [] R07_viewText.fn.enters R07_viewText.ok
def R07_tableText.si:Sh:=⟨[(0,.v true [.str,.sl 41 tColumn,.sl 32 (.sl 78 tNode)])],[],[],0,[]⟩
def R07_tableText.so:Sh:=⟨[(0,.v false [.str])],[],[],1000,[]⟩
def R07_tableText.h:H:=(.s none .n (.s none .n (.s (some ⟨[(3,.v false [.str])],[],[1],0,[]⟩) (.s none .n (.b (.l ⟨[(3,.v false [.str]),(4,.v false [.int .i64])],[],[1],0,[]⟩ (.s none .n (.s none (.b (.s none .n (.s (some ⟨[(3,.v false [.str])],[],[1,4,5],0,[]⟩) .n (.s none .n (.s (some ⟨[(3,.v false [.str])],[],[1,4,5],0,[]⟩) .n (.s (some ⟨[(3,.v false [.str])],[],[1,4,5],0,[]⟩) .n .n)))))) .n))))) (.s none .n (.s none (.s none .n (.b (.l ⟨[(3,.v false [.str]),(6,.v false [.int .i64])],[],[1],0,[]⟩ .n))) .n)))))
noncomputable def R07_tableText.B:ByteArray×(List tColumnT)×(List (List tNodeT))×Unit→Option (ByteArray×Unit):=fun (p0_0,p0_1,p0_2,_)=>
 bif (!decide ((((⟨#[116,97,98,108,101,32]⟩:ByteArray).size+p0_0.size:Nat):Int)>IntKind.i64.max)) then
 let e1:ByteArray:=((⟨#[116,97,98,108,101,32]⟩:ByteArray)++p0_0)
 bif (!decide (((e1.size+(⟨#[32,40]⟩:ByteArray).size:Nat):Int)>IntKind.i64.max)) then
 let e2:ByteArray:=(e1++(⟨#[32,40]⟩:ByteArray))
 Option.bind (
 loopM (S:=ByteArray×Int×Unit) (fun (x3,x4,_)=>
 (bif (decide (x4<(p0_1.length:Int))) then
 bif (decide (0≤x4)&&decide (x4<(p0_1.length:Int))) then
 let e3:tColumnT:=(List.getD p0_1 (Int.toNat x4) tColumn.z)
 Option.bind (
 (bif (decide (x4>(0:Int))) then
 bif (!decide (((x3.size+(⟨#[32,44]⟩:ByteArray).size:Nat):Int)>IntKind.i64.max)) then
 let e4:ByteArray:=(x3++(⟨#[32,44]⟩:ByteArray))
 some (.inl (e4,()))
 else none
 else
 some (.inl (x3,()))):Option ((ByteArray×Unit)⊕_)) fun r5=>match r5 with
 | .inl (x3_5,_)=>
 (bif (!decide ((((⟨#[32]⟩:ByteArray).size+e3.1.size:Nat):Int)>IntKind.i64.max)) then
 let e6:ByteArray:=((⟨#[32]⟩:ByteArray)++e3.1)
 bif (!decide (((e6.size+(⟨#[32]⟩:ByteArray).size:Nat):Int)>IntKind.i64.max)) then
 let e7:ByteArray:=(e6++(⟨#[32]⟩:ByteArray))
 let e8:Int:=(IntKind.i64.wrap (e3.2.1-(1:Int)))
 Option.bind (R07_pick.F (e8,[(⟨#[98,111,111,108]⟩:ByteArray),(⟨#[105,110,116]⟩:ByteArray),(⟨#[116,101,120,116]⟩:ByteArray)],())) fun y9=>
 bif (!decide (((e7.size+y9.1.size:Nat):Int)>IntKind.i64.max)) then
 let e10:ByteArray:=(e7++y9.1)
 bif (!decide (((x3_5.size+e10.size:Nat):Int)>IntKind.i64.max)) then
 let e11:ByteArray:=(x3_5++e10)
 Option.bind (
 (bif e3.2.2.1 then
 bif (!decide (((e11.size+(⟨#[32,110,117,108,108]⟩:ByteArray).size:Nat):Int)>IntKind.i64.max)) then
 let e12:ByteArray:=(e11++(⟨#[32,110,117,108,108]⟩:ByteArray))
 some (.inl (e12,()))
 else none
 else
 some (.inl (e11,()))):Option ((ByteArray×Unit)⊕_)) fun r13=>match r13 with
 | .inl (x3_13,_)=>
 (Option.bind (
 (bif e3.2.2.2.1 then
 bif (!decide (((x3_13.size+(⟨#[32,117,110,105,113,117,101]⟩:ByteArray).size:Nat):Int)>IntKind.i64.max)) then
 let e14:ByteArray:=(x3_13++(⟨#[32,117,110,105,113,117,101]⟩:ByteArray))
 some (.inl (e14,()))
 else none
 else
 some (.inl (x3_13,()))):Option ((ByteArray×Unit)⊕_)) fun r15=>match r15 with
 | .inl (x3_15,_)=>
 ((bif (!(e3.2.2.2.2.1.toList==(⟨#[]⟩:ByteArray).toList)) then
 bif (!decide ((((⟨#[32,114,101,102,32]⟩:ByteArray).size+e3.2.2.2.2.1.size:Nat):Int)>IntKind.i64.max)) then
 let e16:ByteArray:=((⟨#[32,114,101,102,32]⟩:ByteArray)++e3.2.2.2.2.1)
 bif (!decide (((e16.size+(⟨#[32]⟩:ByteArray).size:Nat):Int)>IntKind.i64.max)) then
 let e17:ByteArray:=(e16++(⟨#[32]⟩:ByteArray))
 Option.bind (R07_pick.F (e3.2.2.2.2.2,[(⟨#[114,101,115,116,114,105,99,116]⟩:ByteArray),(⟨#[99,97,115,99,97,100,101]⟩:ByteArray),(⟨#[115,101,116,110,117,108,108]⟩:ByteArray)],())) fun y18=>
 bif (!decide (((e17.size+y18.1.size:Nat):Int)>IntKind.i64.max)) then
 let e19:ByteArray:=(e17++y18.1)
 bif (!decide (((x3_15.size+e19.size:Nat):Int)>IntKind.i64.max)) then
 let e20:ByteArray:=(x3_15++e19)
 let e21:Int:=(IntKind.i64.wrap (x4+(1:Int)))
 some (.inl (e20,e21,()))
 else none
 else none
 else none
 else none
 else
 let e22:Int:=(IntKind.i64.wrap (x4+(1:Int)))
 some (.inl (x3_15,e22,()))))
 | .inr r=>some r)
 | .inr r=>some r
 else none
 else none
 else none
 else none)
 | .inr r=>some r
 else none
 else
 some (.inr (.inl (x3,()))))) (e2,(0:Int),()):Option ((ByteArray×Unit)⊕_)) fun r23=>match r23 with
 | .inl (x3_23,_)=>
 (bif (!decide (((x3_23.size+(⟨#[32,41]⟩:ByteArray).size:Nat):Int)>IntKind.i64.max)) then
 let e24:ByteArray:=(x3_23++(⟨#[32,41]⟩:ByteArray))
 loopM (S:=ByteArray×Int×Unit) (fun (x3,x6,_)=>
 (bif (decide (x6<(p0_2.length:Int))) then
 bif (decide (0≤x6)&&decide (x6<(p0_2.length:Int))) then
 let e25:(List tNodeT):=(List.getD p0_2 (Int.toNat x6) [])
 Option.bind (R07_exprText.F (e25,())) fun y26=>
 bif (!decide ((((⟨#[32,99,104,101,99,107]⟩:ByteArray).size+y26.1.size:Nat):Int)>IntKind.i64.max)) then
 let e27:ByteArray:=((⟨#[32,99,104,101,99,107]⟩:ByteArray)++y26.1)
 bif (!decide (((x3.size+e27.size:Nat):Int)>IntKind.i64.max)) then
 let e28:ByteArray:=(x3++e27)
 let e29:Int:=(IntKind.i64.wrap (x6+(1:Int)))
 some (.inl (e28,e29,()))
 else none
 else none
 else none
 else
 some (.inr (x3,())))) (e24,(0:Int),())
 else none)
 | .inr r=>some r
 else none
 else none
noncomputable def R07_tableText.F:=stk R07_tableText.B
theorem R07_tableText.ev (x:TS R07_tableText.si):evF cR07_viewText inl0 (Tryz.f31.body.getD .skip) Tryz.f31.results.toList R07_tableText.h R07_tableText.si R07_tableText.so x=R07_tableText.B x:=by kernel_rfl
theorem R07_tableText.fn:FnOk PP 31 (Tryz.f31.body.getD .skip) Tryz.f31.results.toList Tryz.f31.ntmps:=fnOk_mk (by kernel_rfl) (by kernel_rfl) (by kernel_rfl) (by kernel_rfl)
theorem R07_tableText.ok:SpecOk PP 31 ⟨1,R07_tableText.si,R07_tableText.so,R07_tableText.F⟩:=fn_stk cxR07_viewText (inl0_ok _ _) mixed R07_tableText.fn R07_tableText.h (by kernel_rfl) R07_tableText.ev
noncomputable def spR07_tableText:List (Nat×List (Nat×AK)×Lv.Spec):=(31,[],⟨1,R07_tableText.si,R07_tableText.so,R07_tableText.F⟩)::spR07_viewText
noncomputable abbrev cR07_tableText:Cx:=⟨tabAt tab0,eqAt eqs0,specAt spR07_tableText,159,specPAt sq0⟩
theorem cxR07_tableText:CxOk PP cR07_tableText:=cxR07_viewText.consS [] R07_tableText.fn.enters R07_tableText.ok
def R06_Sign.si:Sh:=⟨[(0,.v false [.int .u8])],[],[],0,[]⟩
def R06_Sign.so:Sh:=⟨[(0,.v false [.bool])],[],[],1000,[]⟩
def R06_Sign.h:H:=(.s none .n (.s none .n (.s none (.s none .n (.b (.l ⟨[(4,.v false [.int .i64])],[],[0,3],0,[]⟩ .n))) .n)))
noncomputable def R06_Sign.B:Int×Unit→Option (Bool×Unit):=fun (p0,_)=>
 loopM (S:=Int×Unit) (fun (x4,_)=>
 (bif (decide (x4<((⟨#[40,41,91,93,44,61,60,43,45,42,63]⟩:ByteArray).size:Int))) then
 bif (decide (0≤x4)&&decide (x4<((⟨#[40,41,91,93,44,61,60,43,45,42,63]⟩:ByteArray).size:Int))) then
 let e1:Int:=(byteAt (⟨#[40,41,91,93,44,61,60,43,45,42,63]⟩:ByteArray) (Int.toNat x4))
 (bif (e1==p0) then
 some (.inr (true,()))
 else
 let e2:Int:=(IntKind.i64.wrap (x4+(1:Int)))
 some (.inl (e2,())))
 else none
 else
 some (.inr (false,())))) ((0:Int),())
noncomputable def R06_Sign.F:=stk R06_Sign.B
theorem R06_Sign.ev (x:TS R06_Sign.si):evF cR07_tableText inl0 (Tryz.f62.body.getD .skip) Tryz.f62.results.toList R06_Sign.h R06_Sign.si R06_Sign.so x=R06_Sign.B x:=by kernel_rfl
theorem R06_Sign.fn:FnOk PP 62 (Tryz.f62.body.getD .skip) Tryz.f62.results.toList Tryz.f62.ntmps:=fnOk_mk (by kernel_rfl) (by kernel_rfl) (by kernel_rfl) (by kernel_rfl)
theorem R06_Sign.ok:SpecOk PP 62 ⟨1,R06_Sign.si,R06_Sign.so,R06_Sign.F⟩:=fn_stk cxR07_tableText (inl0_ok _ _) mixed R06_Sign.fn R06_Sign.h (by kernel_rfl) R06_Sign.ev
noncomputable def spR06_Sign:List (Nat×List (Nat×AK)×Lv.Spec):=(62,[],⟨1,R06_Sign.si,R06_Sign.so,R06_Sign.F⟩)::spR07_tableText
noncomputable abbrev cR06_Sign:Cx:=⟨tabAt tab0,eqAt eqs0,specAt spR06_Sign,159,specPAt sq0⟩
theorem cxR06_Sign:CxOk PP cR06_Sign:=cxR07_tableText.consS [] R06_Sign.fn.enters R06_Sign.ok
def R06_Letter.si:Sh:=⟨[(0,.v false [.int .u8])],[],[],0,[]⟩
def R06_Letter.so:Sh:=⟨[(0,.v false [.bool])],[],[],1000,[]⟩
def R06_Letter.h:H:=.n
noncomputable def R06_Letter.B:Int×Unit→Option (Bool×Unit):=fun (p0,_)=>
 (bif (decide (p0≥(97:Int))) then
 some ((decide (p0≤(122:Int))),())
 else
 some (false,()))
noncomputable def R06_Letter.F:=stk R06_Letter.B
theorem R06_Letter.ev (x:TS R06_Letter.si):evF cR06_Sign inl0 (Tryz.f63.body.getD .skip) Tryz.f63.results.toList R06_Letter.h R06_Letter.si R06_Letter.so x=R06_Letter.B x:=by kernel_rfl
theorem R06_Letter.fn:FnOk PP 63 (Tryz.f63.body.getD .skip) Tryz.f63.results.toList Tryz.f63.ntmps:=fnOk_mk (by kernel_rfl) (by kernel_rfl) (by kernel_rfl) (by kernel_rfl)
theorem R06_Letter.ok:SpecOk PP 63 ⟨1,R06_Letter.si,R06_Letter.so,R06_Letter.F⟩:=fn_stk cxR06_Sign (inl0_ok _ _) mixed R06_Letter.fn R06_Letter.h (by kernel_rfl) R06_Letter.ev
noncomputable def spR06_Letter:List (Nat×List (Nat×AK)×Lv.Spec):=(63,[],⟨1,R06_Letter.si,R06_Letter.so,R06_Letter.F⟩)::spR06_Sign
noncomputable abbrev cR06_Letter:Cx:=⟨tabAt tab0,eqAt eqs0,specAt spR06_Letter,159,specPAt sq0⟩
theorem cxR06_Letter:CxOk PP cR06_Letter:=cxR06_Sign.consS [] R06_Letter.fn.enters R06_Letter.ok
def R06_Digit.si:Sh:=⟨[(0,.v false [.int .u8])],[],[],0,[]⟩
def R06_Digit.so:Sh:=⟨[(0,.v false [.bool])],[],[],1000,[]⟩
def R06_Digit.h:H:=.n
noncomputable def R06_Digit.B:Int×Unit→Option (Bool×Unit):=fun (p0,_)=>
 (bif (decide (p0≥(48:Int))) then
 some ((decide (p0≤(57:Int))),())
 else
 some (false,()))
noncomputable def R06_Digit.F:=stk R06_Digit.B
theorem R06_Digit.ev (x:TS R06_Digit.si):evF cR06_Letter inl0 (Tryz.f66.body.getD .skip) Tryz.f66.results.toList R06_Digit.h R06_Digit.si R06_Digit.so x=R06_Digit.B x:=by kernel_rfl
theorem R06_Digit.fn:FnOk PP 66 (Tryz.f66.body.getD .skip) Tryz.f66.results.toList Tryz.f66.ntmps:=fnOk_mk (by kernel_rfl) (by kernel_rfl) (by kernel_rfl) (by kernel_rfl)
theorem R06_Digit.ok:SpecOk PP 66 ⟨1,R06_Digit.si,R06_Digit.so,R06_Digit.F⟩:=fn_stk cxR06_Letter (inl0_ok _ _) mixed R06_Digit.fn R06_Digit.h (by kernel_rfl) R06_Digit.ev
noncomputable def spR06_Digit:List (Nat×List (Nat×AK)×Lv.Spec):=(66,[],⟨1,R06_Digit.si,R06_Digit.so,R06_Digit.F⟩)::spR06_Letter
noncomputable abbrev cR06_Digit:Cx:=⟨tabAt tab0,eqAt eqs0,specAt spR06_Digit,159,specPAt sq0⟩
theorem cxR06_Digit:CxOk PP cR06_Digit:=cxR06_Letter.consS [] R06_Digit.fn.enters R06_Digit.ok
def R06_Inner.si:Sh:=⟨[(0,.v false [.int .u8])],[],[],0,[]⟩
def R06_Inner.so:Sh:=⟨[(0,.v false [.bool])],[],[],1000,[]⟩
def R06_Inner.h:H:=.n
noncomputable def R06_Inner.B:Int×Unit→Option (Bool×Unit):=fun (p0,_)=>
 Option.bind (R06_Letter.F (p0,())) fun y1=>
 (bif y1.1 then
 some (true,())
 else
 Option.bind (R06_Digit.F (p0,())) fun y2=>
 (bif y2.1 then
 some (true,())
 else
 some ((p0==(95:Int)),())))
noncomputable def R06_Inner.F:=stk R06_Inner.B
theorem R06_Inner.ev (x:TS R06_Inner.si):evF cR06_Digit inl0 (Tryz.f64.body.getD .skip) Tryz.f64.results.toList R06_Inner.h R06_Inner.si R06_Inner.so x=R06_Inner.B x:=by kernel_rfl
theorem R06_Inner.fn:FnOk PP 64 (Tryz.f64.body.getD .skip) Tryz.f64.results.toList Tryz.f64.ntmps:=fnOk_mk (by kernel_rfl) (by kernel_rfl) (by kernel_rfl) (by kernel_rfl)
theorem R06_Inner.ok:SpecOk PP 64 ⟨1,R06_Inner.si,R06_Inner.so,R06_Inner.F⟩:=fn_stk cxR06_Digit (inl0_ok _ _) mixed R06_Inner.fn R06_Inner.h (by kernel_rfl) R06_Inner.ev
noncomputable def spR06_Inner:List (Nat×List (Nat×AK)×Lv.Spec):=(64,[],⟨1,R06_Inner.si,R06_Inner.so,R06_Inner.F⟩)::spR06_Digit
noncomputable abbrev cR06_Inner:Cx:=⟨tabAt tab0,eqAt eqs0,specAt spR06_Inner,159,specPAt sq0⟩
theorem cxR06_Inner:CxOk PP cR06_Inner:=cxR06_Digit.consS [] R06_Inner.fn.enters R06_Inner.ok
def R06_Word.si:Sh:=⟨[(0,.v false [.str])],[],[],0,[]⟩
def R06_Word.so:Sh:=⟨[(0,.v false [.bool])],[],[],1000,[]⟩
def R06_Word.h:H:=(.s none .n (.s (some ⟨[],[],[0],0,[]⟩) (.s none .n (.b (.l ⟨[(3,.v false [.int .i64])],[],[0],0,[]⟩ .n))) .n))
noncomputable def R06_Word.B:ByteArray×Unit→Option (Bool×Unit):=fun (p0,_)=>
 Option.bind (
 loopM (S:=Int×Unit) (fun (x3,_)=>
 (bif (decide (x3<(p0.size:Int))) then
 bif (decide (0≤x3)&&decide (x3<(p0.size:Int))) then
 let e1:Int:=(byteAt p0 (Int.toNat x3))
 Option.bind (R06_Inner.F (e1,())) fun y2=>
 (bif (!y2.1) then
 some (.inr (.inr (false,())))
 else
 let e3:Int:=(IntKind.i64.wrap (x3+(1:Int)))
 some (.inl (e3,())))
 else none
 else
 some (.inr (.inl (()))))) ((0:Int),()):Option ((Unit)⊕_)) fun r4=>match r4 with
 | .inl (_)=>
 ((bif (decide ((p0.size:Int)≥(1:Int))) then
 (bif (decide ((p0.size:Int)≤(30:Int))) then
 bif (decide (0≤(0:Int))&&decide ((0:Int)<(p0.size:Int))) then
 let e5:Int:=(byteAt p0 0)
 Option.bind (R06_Letter.F (e5,())) fun y6=>
 some (y6.1,())
 else none
 else
 some (false,()))
 else
 some (false,())))
 | .inr r=>some r
noncomputable def R06_Word.F:=stk R06_Word.B
theorem R06_Word.ev (x:TS R06_Word.si):evF cR06_Inner inl0 (Tryz.f65.body.getD .skip) Tryz.f65.results.toList R06_Word.h R06_Word.si R06_Word.so x=R06_Word.B x:=by kernel_rfl
theorem R06_Word.fn:FnOk PP 65 (Tryz.f65.body.getD .skip) Tryz.f65.results.toList Tryz.f65.ntmps:=fnOk_mk (by kernel_rfl) (by kernel_rfl) (by kernel_rfl) (by kernel_rfl)
theorem R06_Word.ok:SpecOk PP 65 ⟨1,R06_Word.si,R06_Word.so,R06_Word.F⟩:=fn_stk cxR06_Inner (inl0_ok _ _) mixed R06_Word.fn R06_Word.h (by kernel_rfl) R06_Word.ev
noncomputable def spR06_Word:List (Nat×List (Nat×AK)×Lv.Spec):=(65,[],⟨1,R06_Word.si,R06_Word.so,R06_Word.F⟩)::spR06_Inner
noncomputable abbrev cR06_Word:Cx:=⟨tabAt tab0,eqAt eqs0,specAt spR06_Word,159,specPAt sq0⟩
theorem cxR06_Word:CxOk PP cR06_Word:=cxR06_Inner.consS [] R06_Word.fn.enters R06_Word.ok
def R01_Int.si:Sh:=⟨[(0,.v false [.int .i64])],[],[],0,[]⟩
def R01_Int.so:Sh:=⟨[(0,.v true [.int .i64,.int .i64,.str])],[],[],1000,[]⟩
def R01_Int.h:H:=.n
noncomputable def R01_Int.B:Int×Unit→Option (Int×Int×ByteArray×Unit):=fun (p0,_)=>
 some ((2:Int),p0,(⟨#[]⟩:ByteArray),())
noncomputable def R01_Int.F:=stk R01_Int.B
theorem R01_Int.ev (x:TS R01_Int.si):evF cR06_Word inl0 (Tryz.f68.body.getD .skip) Tryz.f68.results.toList R01_Int.h R01_Int.si R01_Int.so x=R01_Int.B x:=by kernel_rfl
theorem R01_Int.fn:FnOk PP 68 (Tryz.f68.body.getD .skip) Tryz.f68.results.toList Tryz.f68.ntmps:=fnOk_mk (by kernel_rfl) (by kernel_rfl) (by kernel_rfl) (by kernel_rfl)
theorem R01_Int.ok:SpecOk PP 68 ⟨1,R01_Int.si,R01_Int.so,R01_Int.F⟩:=fn_stk cxR06_Word (inl0_ok _ _) mixed R01_Int.fn R01_Int.h (by kernel_rfl) R01_Int.ev
noncomputable def spR01_Int:List (Nat×List (Nat×AK)×Lv.Spec):=(68,[],⟨1,R01_Int.si,R01_Int.so,R01_Int.F⟩)::spR06_Word
noncomputable abbrev cR01_Int:Cx:=⟨tabAt tab0,eqAt eqs0,specAt spR01_Int,159,specPAt sq0⟩
theorem cxR01_Int:CxOk PP cR01_Int:=cxR06_Word.consS [] R01_Int.fn.enters R01_Int.ok
def R01_Nulls.si:Sh:=⟨[(0,.v true [.int .i64,.int .i64,.str]),(1,.v true [.int .i64,.int .i64,.str])],[],[],0,[]⟩
def R01_Nulls.so:Sh:=⟨[(0,.v false [.bool])],[],[],1000,[]⟩
def R01_Nulls.h:H:=.n
noncomputable def R01_Nulls.B:Int×Int×ByteArray×Int×Int×ByteArray×Unit→Option (Bool×Unit):=fun (p0_0,p0_1,p0_2,p1_0,p1_1,p1_2,_)=>
 (bif (p0_0==(0:Int)) then
 some (true,())
 else
 some ((p1_0==(0:Int)),()))
noncomputable def R01_Nulls.F:=stk R01_Nulls.B
theorem R01_Nulls.ev (x:TS R01_Nulls.si):evF cR01_Int inl0 (Tryz.f122.body.getD .skip) Tryz.f122.results.toList R01_Nulls.h R01_Nulls.si R01_Nulls.so x=R01_Nulls.B x:=by kernel_rfl
theorem R01_Nulls.fn:FnOk PP 122 (Tryz.f122.body.getD .skip) Tryz.f122.results.toList Tryz.f122.ntmps:=fnOk_mk (by kernel_rfl) (by kernel_rfl) (by kernel_rfl) (by kernel_rfl)
theorem R01_Nulls.ok:SpecOk PP 122 ⟨2,R01_Nulls.si,R01_Nulls.so,R01_Nulls.F⟩:=fn_stk cxR01_Int (inl0_ok _ _) mixed R01_Nulls.fn R01_Nulls.h (by kernel_rfl) R01_Nulls.ev
noncomputable def spR01_Nulls:List (Nat×List (Nat×AK)×Lv.Spec):=(122,[],⟨2,R01_Nulls.si,R01_Nulls.so,R01_Nulls.F⟩)::spR01_Int
noncomputable abbrev cR01_Nulls:Cx:=⟨tabAt tab0,eqAt eqs0,specAt spR01_Nulls,159,specPAt sq0⟩
theorem cxR01_Nulls:CxOk PP cR01_Nulls:=cxR01_Int.consS [] R01_Nulls.fn.enters R01_Nulls.ok
def R01_Ints.si:Sh:=⟨[(0,.v true [.int .i64,.int .i64,.str]),(1,.v true [.int .i64,.int .i64,.str])],[],[],0,[]⟩
def R01_Ints.so:Sh:=⟨[(0,.v false [.bool])],[],[],1000,[]⟩
def R01_Ints.h:H:=.n
noncomputable def R01_Ints.B:Int×Int×ByteArray×Int×Int×ByteArray×Unit→Option (Bool×Unit):=fun (p0_0,p0_1,p0_2,p1_0,p1_1,p1_2,_)=>
 (bif (p0_0==(2:Int)) then
 some ((p1_0==(2:Int)),())
 else
 some (false,()))
noncomputable def R01_Ints.F:=stk R01_Ints.B
theorem R01_Ints.ev (x:TS R01_Ints.si):evF cR01_Nulls inl0 (Tryz.f123.body.getD .skip) Tryz.f123.results.toList R01_Ints.h R01_Ints.si R01_Ints.so x=R01_Ints.B x:=by kernel_rfl
theorem R01_Ints.fn:FnOk PP 123 (Tryz.f123.body.getD .skip) Tryz.f123.results.toList Tryz.f123.ntmps:=fnOk_mk (by kernel_rfl) (by kernel_rfl) (by kernel_rfl) (by kernel_rfl)
theorem R01_Ints.ok:SpecOk PP 123 ⟨2,R01_Ints.si,R01_Ints.so,R01_Ints.F⟩:=fn_stk cxR01_Nulls (inl0_ok _ _) mixed R01_Ints.fn R01_Ints.h (by kernel_rfl) R01_Ints.ev
noncomputable def spR01_Ints:List (Nat×List (Nat×AK)×Lv.Spec):=(123,[],⟨2,R01_Ints.si,R01_Ints.so,R01_Ints.F⟩)::spR01_Nulls
noncomputable abbrev cR01_Ints:Cx:=⟨tabAt tab0,eqAt eqs0,specAt spR01_Ints,159,specPAt sq0⟩
theorem cxR01_Ints:CxOk PP cR01_Ints:=cxR01_Nulls.consS [] R01_Ints.fn.enters R01_Ints.ok
def R01_Least.si:Sh:=⟨[],[],[],0,[]⟩
def R01_Least.so:Sh:=⟨[(0,.v false [.int .i64])],[],[],1000,[]⟩
def R01_Least.h:H:=.n
noncomputable def R01_Least.B:Unit→Option (Int×Unit):=fun (_)=>
 some ((-9223372036854775808:Int),())
noncomputable def R01_Least.F:=stk R01_Least.B
theorem R01_Least.ev (x:TS R01_Least.si):evF cR01_Ints inl0 (Tryz.f124.body.getD .skip) Tryz.f124.results.toList R01_Least.h R01_Least.si R01_Least.so x=R01_Least.B x:=by kernel_rfl
theorem R01_Least.fn:FnOk PP 124 (Tryz.f124.body.getD .skip) Tryz.f124.results.toList Tryz.f124.ntmps:=fnOk_mk (by kernel_rfl) (by kernel_rfl) (by kernel_rfl) (by kernel_rfl)
theorem R01_Least.ok:SpecOk PP 124 ⟨0,R01_Least.si,R01_Least.so,R01_Least.F⟩:=fn_stk cxR01_Ints (inl0_ok _ _) mixed R01_Least.fn R01_Least.h (by kernel_rfl) R01_Least.ev
noncomputable def spR01_Least:List (Nat×List (Nat×AK)×Lv.Spec):=(124,[],⟨0,R01_Least.si,R01_Least.so,R01_Least.F⟩)::spR01_Ints
noncomputable abbrev cR01_Least:Cx:=⟨tabAt tab0,eqAt eqs0,specAt spR01_Least,159,specPAt sq0⟩
theorem cxR01_Least:CxOk PP cR01_Least:=cxR01_Ints.consS [] R01_Least.fn.enters R01_Least.ok
def R01_Mul.si:Sh:=⟨[(0,.v true [.int .i64,.int .i64,.str]),(1,.v true [.int .i64,.int .i64,.str])],[],[],0,[]⟩
def R01_Mul.so:Sh:=⟨[(0,.tup [(true,[.int .i64,.int .i64,.str]),(false,[.bool])])],[],[],1000,[]⟩
def R01_Mul.h:H:=(.s none .n (.s none .n (.s none .n (.s (some ⟨[],[],[2,3,4],0,[]⟩) .n (.s none (.s (some ⟨[(44,.v false [.bool])],[],[2,3,4],0,[]⟩) .n .n) .n)))))
noncomputable def R01_Mul.B:Int×Int×ByteArray×Int×Int×ByteArray×Unit→Option (Int×Int×ByteArray×Bool×Unit):=fun (p0_0,p0_1,p0_2,p1_0,p1_1,p1_2,_)=>
 Option.bind (R01_Nulls.F (p0_0,p0_1,p0_2,p1_0,p1_1,p1_2,())) fun y1=>
 (bif y1.1 then
 some ((0:Int),(0:Int),(⟨#[]⟩:ByteArray),true,())
 else
 Option.bind (R01_Ints.F (p0_0,p0_1,p0_2,p1_0,p1_1,p1_2,())) fun y2=>
 (bif (!y2.1) then
 some ((0:Int),(0:Int),(⟨#[]⟩:ByteArray),false,())
 else
 Option.bind (
 (bif (p0_1==(0:Int)) then
 Option.bind (R01_Int.F ((0:Int),())) fun y3=>
 some (.inr (y3.1,y3.2.1,y3.2.2.1,true,()))
 else
 (bif (p1_1==(0:Int)) then
 Option.bind (R01_Int.F ((0:Int),())) fun y4=>
 some (.inr (y4.1,y4.2.1,y4.2.2.1,true,()))
 else
 some (.inl (())))):Option ((Unit)⊕_)) fun r5=>match r5 with
 | .inl (_)=>
 (Option.bind (
 (bif (p0_1==(-1:Int)) then
 Option.bind (R01_Least.F (())) fun y6=>
 (bif (p1_1==y6.1) then
 some (.inl (true,()))
 else
 (bif (p1_1==(-1:Int)) then
 Option.bind (R01_Least.F (())) fun y7=>
 some (.inl ((p0_1==y7.1),()))
 else
 some (.inl (false,()))))
 else
 (bif (p1_1==(-1:Int)) then
 Option.bind (R01_Least.F (())) fun y8=>
 some (.inl ((p0_1==y8.1),()))
 else
 some (.inl (false,())))):Option ((Bool×Unit)⊕_)) fun r9=>match r9 with
 | .inl (x44_9,_)=>
 ((bif x44_9 then
 some ((0:Int),(0:Int),(⟨#[]⟩:ByteArray),false,())
 else
 let e10:Int:=(IntKind.i64.wrap (p0_1*p1_1))
 bif (!decide (p1_1=0)) then
 let e11:Int:=(IntKind.i64.wrap (Int.tdiv e10 p1_1))
 (bif (e11 !=p0_1) then
 some ((0:Int),(0:Int),(⟨#[]⟩:ByteArray),false,())
 else
 bif (!decide (p1_1=0)) then
 let e12:Int:=(Int.tmod e10 p1_1)
 (bif (e12 !=(0:Int)) then
 some ((0:Int),(0:Int),(⟨#[]⟩:ByteArray),false,())
 else
 Option.bind (R01_Int.F (e10,())) fun y13=>
 some (y13.1,y13.2.1,y13.2.2.1,true,()))
 else none)
 else none))
 | .inr r=>some r)
 | .inr r=>some r))
noncomputable def R01_Mul.F:=stk R01_Mul.B
theorem R01_Mul.ev (x:TS R01_Mul.si):evF cR01_Least inl0 (Tryz.f89.body.getD .skip) Tryz.f89.results.toList R01_Mul.h R01_Mul.si R01_Mul.so x=R01_Mul.B x:=by kernel_rfl
theorem R01_Mul.fn:FnOk PP 89 (Tryz.f89.body.getD .skip) Tryz.f89.results.toList Tryz.f89.ntmps:=fnOk_mk (by kernel_rfl) (by kernel_rfl) (by kernel_rfl) (by kernel_rfl)
theorem R01_Mul.ok:SpecOk PP 89 ⟨2,R01_Mul.si,R01_Mul.so,R01_Mul.F⟩:=fn_stk cxR01_Least (inl0_ok _ _) mixed R01_Mul.fn R01_Mul.h (by kernel_rfl) R01_Mul.ev
noncomputable def spR01_Mul:List (Nat×List (Nat×AK)×Lv.Spec):=(89,[],⟨2,R01_Mul.si,R01_Mul.so,R01_Mul.F⟩)::spR01_Least
noncomputable abbrev cR01_Mul:Cx:=⟨tabAt tab0,eqAt eqs0,specAt spR01_Mul,159,specPAt sq0⟩
theorem cxR01_Mul:CxOk PP cR01_Mul:=cxR01_Least.consS [] R01_Mul.fn.enters R01_Mul.ok
def R01_Most.si:Sh:=⟨[],[],[],0,[]⟩
def R01_Most.so:Sh:=⟨[(0,.v false [.int .i64])],[],[],1000,[]⟩
def R01_Most.h:H:=.n
noncomputable def R01_Most.B:Unit→Option (Int×Unit):=fun (_)=>
 some ((9223372036854775807:Int),())
noncomputable def R01_Most.F:=stk R01_Most.B
theorem R01_Most.ev (x:TS R01_Most.si):evF cR01_Mul inl0 (Tryz.f125.body.getD .skip) Tryz.f125.results.toList R01_Most.h R01_Most.si R01_Most.so x=R01_Most.B x:=by kernel_rfl
theorem R01_Most.fn:FnOk PP 125 (Tryz.f125.body.getD .skip) Tryz.f125.results.toList Tryz.f125.ntmps:=fnOk_mk (by kernel_rfl) (by kernel_rfl) (by kernel_rfl) (by kernel_rfl)
theorem R01_Most.ok:SpecOk PP 125 ⟨0,R01_Most.si,R01_Most.so,R01_Most.F⟩:=fn_stk cxR01_Mul (inl0_ok _ _) mixed R01_Most.fn R01_Most.h (by kernel_rfl) R01_Most.ev
noncomputable def spR01_Most:List (Nat×List (Nat×AK)×Lv.Spec):=(125,[],⟨0,R01_Most.si,R01_Most.so,R01_Most.F⟩)::spR01_Mul
noncomputable abbrev cR01_Most:Cx:=⟨tabAt tab0,eqAt eqs0,specAt spR01_Most,159,specPAt sq0⟩
theorem cxR01_Most:CxOk PP cR01_Most:=cxR01_Mul.consS [] R01_Most.fn.enters R01_Most.ok
def R01_Add.si:Sh:=⟨[(0,.v true [.int .i64,.int .i64,.str]),(1,.v true [.int .i64,.int .i64,.str])],[],[],0,[]⟩
def R01_Add.so:Sh:=⟨[(0,.tup [(true,[.int .i64,.int .i64,.str]),(false,[.bool])])],[],[],1000,[]⟩
def R01_Add.h:H:=(.s none .n (.s none .n (.s none (.s (some ⟨[(41,.v false [.bool])],[],[2,3,4],0,[]⟩) .n .n) .n)))
noncomputable def R01_Add.B:Int×Int×ByteArray×Int×Int×ByteArray×Unit→Option (Int×Int×ByteArray×Bool×Unit):=fun (p0_0,p0_1,p0_2,p1_0,p1_1,p1_2,_)=>
 Option.bind (R01_Nulls.F (p0_0,p0_1,p0_2,p1_0,p1_1,p1_2,())) fun y1=>
 (bif y1.1 then
 some ((0:Int),(0:Int),(⟨#[]⟩:ByteArray),true,())
 else
 Option.bind (
 Option.bind (R01_Ints.F (p0_0,p0_1,p0_2,p1_0,p1_1,p1_2,())) fun y2=>
 (bif (!y2.1) then
 some (.inl (true,()))
 else
 (bif (decide (p1_1>(0:Int))) then
 Option.bind (R01_Most.F (())) fun y3=>
 let e4:Int:=(IntKind.i64.wrap (y3.1-p1_1))
 (bif (decide (p0_1>e4)) then
 some (.inl (true,()))
 else
 (bif (decide (p1_1<(0:Int))) then
 Option.bind (R01_Least.F (())) fun y5=>
 let e6:Int:=(IntKind.i64.wrap (y5.1-p1_1))
 some (.inl ((decide (p0_1<e6)),()))
 else
 some (.inl (false,()))))
 else
 (bif (decide (p1_1<(0:Int))) then
 Option.bind (R01_Least.F (())) fun y7=>
 let e8:Int:=(IntKind.i64.wrap (y7.1-p1_1))
 some (.inl ((decide (p0_1<e8)),()))
 else
 some (.inl (false,()))))):Option ((Bool×Unit)⊕_)) fun r9=>match r9 with
 | .inl (x41_9,_)=>
 ((bif x41_9 then
 some ((0:Int),(0:Int),(⟨#[]⟩:ByteArray),false,())
 else
 let e10:Int:=(IntKind.i64.wrap (p0_1+p1_1))
 Option.bind (R01_Int.F (e10,())) fun y11=>
 some (y11.1,y11.2.1,y11.2.2.1,true,())))
 | .inr r=>some r)
noncomputable def R01_Add.F:=stk R01_Add.B
theorem R01_Add.ev (x:TS R01_Add.si):evF cR01_Most inl0 (Tryz.f90.body.getD .skip) Tryz.f90.results.toList R01_Add.h R01_Add.si R01_Add.so x=R01_Add.B x:=by kernel_rfl
theorem R01_Add.fn:FnOk PP 90 (Tryz.f90.body.getD .skip) Tryz.f90.results.toList Tryz.f90.ntmps:=fnOk_mk (by kernel_rfl) (by kernel_rfl) (by kernel_rfl) (by kernel_rfl)
theorem R01_Add.ok:SpecOk PP 90 ⟨2,R01_Add.si,R01_Add.so,R01_Add.F⟩:=fn_stk cxR01_Most (inl0_ok _ _) mixed R01_Add.fn R01_Add.h (by kernel_rfl) R01_Add.ev
noncomputable def spR01_Add:List (Nat×List (Nat×AK)×Lv.Spec):=(90,[],⟨2,R01_Add.si,R01_Add.so,R01_Add.F⟩)::spR01_Most
noncomputable abbrev cR01_Add:Cx:=⟨tabAt tab0,eqAt eqs0,specAt spR01_Add,159,specPAt sq0⟩
theorem cxR01_Add:CxOk PP cR01_Add:=cxR01_Most.consS [] R01_Add.fn.enters R01_Add.ok
def R01_Sub.si:Sh:=⟨[(0,.v true [.int .i64,.int .i64,.str]),(1,.v true [.int .i64,.int .i64,.str])],[],[],0,[]⟩
def R01_Sub.so:Sh:=⟨[(0,.tup [(true,[.int .i64,.int .i64,.str]),(false,[.bool])])],[],[],1000,[]⟩
def R01_Sub.h:H:=(.s none .n (.s none .n (.s none (.s (some ⟨[(41,.v false [.bool])],[],[2,3,4],0,[]⟩) .n .n) .n)))
noncomputable def R01_Sub.B:Int×Int×ByteArray×Int×Int×ByteArray×Unit→Option (Int×Int×ByteArray×Bool×Unit):=fun (p0_0,p0_1,p0_2,p1_0,p1_1,p1_2,_)=>
 Option.bind (R01_Nulls.F (p0_0,p0_1,p0_2,p1_0,p1_1,p1_2,())) fun y1=>
 (bif y1.1 then
 some ((0:Int),(0:Int),(⟨#[]⟩:ByteArray),true,())
 else
 Option.bind (
 Option.bind (R01_Ints.F (p0_0,p0_1,p0_2,p1_0,p1_1,p1_2,())) fun y2=>
 (bif (!y2.1) then
 some (.inl (true,()))
 else
 (bif (decide (p1_1<(0:Int))) then
 Option.bind (R01_Most.F (())) fun y3=>
 let e4:Int:=(IntKind.i64.wrap (y3.1+p1_1))
 (bif (decide (p0_1>e4)) then
 some (.inl (true,()))
 else
 (bif (decide (p1_1>(0:Int))) then
 Option.bind (R01_Least.F (())) fun y5=>
 let e6:Int:=(IntKind.i64.wrap (y5.1+p1_1))
 some (.inl ((decide (p0_1<e6)),()))
 else
 some (.inl (false,()))))
 else
 (bif (decide (p1_1>(0:Int))) then
 Option.bind (R01_Least.F (())) fun y7=>
 let e8:Int:=(IntKind.i64.wrap (y7.1+p1_1))
 some (.inl ((decide (p0_1<e8)),()))
 else
 some (.inl (false,()))))):Option ((Bool×Unit)⊕_)) fun r9=>match r9 with
 | .inl (x41_9,_)=>
 ((bif x41_9 then
 some ((0:Int),(0:Int),(⟨#[]⟩:ByteArray),false,())
 else
 let e10:Int:=(IntKind.i64.wrap (p0_1-p1_1))
 Option.bind (R01_Int.F (e10,())) fun y11=>
 some (y11.1,y11.2.1,y11.2.2.1,true,())))
 | .inr r=>some r)
noncomputable def R01_Sub.F:=stk R01_Sub.B
theorem R01_Sub.ev (x:TS R01_Sub.si):evF cR01_Add inl0 (Tryz.f91.body.getD .skip) Tryz.f91.results.toList R01_Sub.h R01_Sub.si R01_Sub.so x=R01_Sub.B x:=by kernel_rfl
theorem R01_Sub.fn:FnOk PP 91 (Tryz.f91.body.getD .skip) Tryz.f91.results.toList Tryz.f91.ntmps:=fnOk_mk (by kernel_rfl) (by kernel_rfl) (by kernel_rfl) (by kernel_rfl)
theorem R01_Sub.ok:SpecOk PP 91 ⟨2,R01_Sub.si,R01_Sub.so,R01_Sub.F⟩:=fn_stk cxR01_Add (inl0_ok _ _) mixed R01_Sub.fn R01_Sub.h (by kernel_rfl) R01_Sub.ev
noncomputable def spR01_Sub:List (Nat×List (Nat×AK)×Lv.Spec):=(91,[],⟨2,R01_Sub.si,R01_Sub.so,R01_Sub.F⟩)::spR01_Add
noncomputable abbrev cR01_Sub:Cx:=⟨tabAt tab0,eqAt eqs0,specAt spR01_Sub,159,specPAt sq0⟩
theorem cxR01_Sub:CxOk PP cR01_Sub:=cxR01_Add.consS [] R01_Sub.fn.enters R01_Sub.ok
def R06_Number.si:Sh:=⟨[(0,.v false [.str])],[],[],0,[]⟩
def R06_Number.so:Sh:=⟨[(0,.tup [(false,[.int .i64]),(false,[.bool])])],[],[],1000,[]⟩
def R06_Number.h:H:=(.s none .n (.s none .n (.s none .n (.s none .n (.s (some ⟨[(5,.v false [.ptr 0 0]),(6,.v false [.bool])],[(0,true,.box 76 [.int .i64,.int .i64,.str])],[0],1,[]⟩) (.s none .n (.b (.l ⟨[(5,.v false [.ptr 0 0]),(6,.v false [.bool]),(7,.v false [.int .i64])],[(0,true,.box 76 [.int .i64,.int .i64,.str])],[0,4],1,[]⟩ (.s none .n (.s (some ⟨[(5,.v false [.ptr 0 0]),(6,.v false [.bool])],[(0,true,.box 76 [.int .i64,.int .i64,.str])],[0,4,7],1,[]⟩) .n .n))))) .n)))))
noncomputable def R06_Number.B:ByteArray×Unit→Option (Int×Bool×Unit):=fun (p0,_)=>
 bif (decide (0≤(0:Int))&&decide ((0:Int)<(p0.size:Int))) then
 let e1:Int:=(byteAt p0 0)
 Option.bind (
 loopM (S:=Bool×Int×Int×Int×ByteArray×Unit) (fun (x6,x7,o5_0_0,o5_0_1,o5_0_2,_)=>
 (bif (decide (x7<(p0.size:Int))) then
 Option.bind (
 bif (decide (0≤x7)&&decide (x7<(p0.size:Int))) then
 let e2:Int:=(byteAt p0 (Int.toNat x7))
 (bif (e2==(45:Int)) then
 some (.inl (x6,o5_0_0,o5_0_1,o5_0_2,()))
 else
 bif (decide (0≤x7)&&decide (x7<(p0.size:Int))) then
 let e3:Int:=(byteAt p0 (Int.toNat x7))
 let e4:Int:=(IntKind.u8.wrap (e3-(48:Int)))
 Option.bind (R01_Int.F ((IntKind.i64.wrap (e4)),())) fun y5=>
 Option.bind (R01_Int.F ((10:Int),())) fun y6=>
 Option.bind (R01_Mul.F (o5_0_0,o5_0_1,o5_0_2,y6.1,y6.2.1,y6.2.2.1,())) fun y7=>
 Option.bind (R01_Add.F (y7.1,y7.2.1,y7.2.2.1,y5.1,y5.2.1,y5.2.2.1,())) fun y8=>
 (bif (e1==(45:Int)) then
 Option.bind (R01_Sub.F (y7.1,y7.2.1,y7.2.2.1,y5.1,y5.2.1,y5.2.2.1,())) fun y9=>
 (bif x6 then
 (bif y7.2.2.2.1 then
 some (.inl (y9.2.2.2.1,y9.1,y9.2.1,y9.2.2.1,()))
 else
 some (.inl (false,y9.1,y9.2.1,y9.2.2.1,())))
 else
 some (.inl (false,y9.1,y9.2.1,y9.2.2.1,())))
 else
 (bif x6 then
 (bif y7.2.2.2.1 then
 some (.inl (y8.2.2.2.1,y8.1,y8.2.1,y8.2.2.1,()))
 else
 some (.inl (false,y8.1,y8.2.1,y8.2.2.1,())))
 else
 some (.inl (false,y8.1,y8.2.1,y8.2.2.1,()))))
 else none)
 else none:Option ((Bool×Int×Int×ByteArray×Unit)⊕_)) fun r10=>match r10 with
 | .inl (x6_10,o5_0_0_10,o5_0_1_10,o5_0_2_10,_)=>
 (let e11:Int:=(IntKind.i64.wrap (x7+(1:Int)))
 some (.inl (x6_10,e11,o5_0_0_10,o5_0_1_10,o5_0_2_10,())))
 | .inr r=>some r
 else
 some (.inr (.inl (x6,o5_0_0,o5_0_1,o5_0_2,()))))) (true,(0:Int),(2:Int),(0:Int),(⟨#[]⟩:ByteArray),()):Option ((Bool×Int×Int×ByteArray×Unit)⊕_)) fun r12=>match r12 with
 | .inl (x6_12,o5_0_0_12,o5_0_1_12,o5_0_2_12,_)=>
 ((bif x6_12 then
 Option.bind (R01_Signed.F (o5_0_1_12,())) fun y13=>
 some (o5_0_1_12,(y13.1.toList==p0.toList),())
 else
 some (o5_0_1_12,false,())))
 | .inr r=>some r
 else none
noncomputable def R06_Number.F:=stk R06_Number.B
theorem R06_Number.ev (x:TS R06_Number.si):evF cR01_Sub inl0 (Tryz.f67.body.getD .skip) Tryz.f67.results.toList R06_Number.h R06_Number.si R06_Number.so x=R06_Number.B x:=by kernel_rfl
theorem R06_Number.fn:FnOk PP 67 (Tryz.f67.body.getD .skip) Tryz.f67.results.toList Tryz.f67.ntmps:=fnOk_mk (by kernel_rfl) (by kernel_rfl) (by kernel_rfl) (by kernel_rfl)
theorem R06_Number.ok:SpecOk PP 67 ⟨1,R06_Number.si,R06_Number.so,R06_Number.F⟩:=fn_stk cxR01_Sub (inl0_ok _ _) mixed R06_Number.fn R06_Number.h (by kernel_rfl) R06_Number.ev
noncomputable def spR06_Number:List (Nat×List (Nat×AK)×Lv.Spec):=(67,[],⟨1,R06_Number.si,R06_Number.so,R06_Number.F⟩)::spR01_Sub
noncomputable abbrev cR06_Number:Cx:=⟨tabAt tab0,eqAt eqs0,specAt spR06_Number,159,specPAt sq0⟩
theorem cxR06_Number:CxOk PP cR06_Number:=cxR01_Sub.consS [] R06_Number.fn.enters R06_Number.ok
def R06_text.si:Sh:=⟨[(0,.v false [.str]),(1,.v false [.int .i64])],[],[],0,[]⟩
def R06_text.so:Sh:=⟨[(0,.tup [(false,[.str]),(false,[.int .i64]),(false,[.bool])])],[],[],1000,[]⟩
def R06_text.h:H:=(.s none .n (.s none .n (.s none .n (.s none (.b (.l ⟨[(7,.v false [.str]),(8,.v false [.int .i64])],[],[0],0,[]⟩ .n)) .n))))
noncomputable def R06_text.B:ByteArray×Int×Unit→Option (ByteArray×Int×Bool×Unit):=fun (p0,p1,_)=>
 let e1:Int:=(IntKind.i64.wrap (p1+(1:Int)))
 loopM (S:=ByteArray×Int×Unit) (fun (x7,x8,_)=>
 (bif (decide (x8<(p0.size:Int))) then
 bif (decide (0≤x8)&&decide (x8<(p0.size:Int))) then
 let e2:Int:=(byteAt p0 (Int.toNat x8))
 (bif (e2 !=(39:Int)) then
 let e3:Int:=(IntKind.i64.wrap (x8+(1:Int)))
 bif (decide (0≤x8)&&(decide (x8≤e3)&&decide (e3≤(p0.size:Int)))) then
 let e4:ByteArray:=(p0.extract (Int.toNat x8) (Int.toNat e3))
 bif (!decide (((x7.size+e4.size:Nat):Int)>IntKind.i64.max)) then
 let e5:ByteArray:=(x7++e4)
 let e6:Int:=(IntKind.i64.wrap (x8+(1:Int)))
 some (.inl (e5,e6,()))
 else none
 else none
 else
 let e7:Int:=(IntKind.i64.wrap (x8+(1:Int)))
 (bif (decide (e7<(p0.size:Int))) then
 let e8:Int:=(IntKind.i64.wrap (x8+(1:Int)))
 bif (decide (0≤e8)&&decide (e8<(p0.size:Int))) then
 let e9:Int:=(byteAt p0 (Int.toNat e8))
 (bif (e9==(39:Int)) then
 bif (!decide (((x7.size+(⟨#[39]⟩:ByteArray).size:Nat):Int)>IntKind.i64.max)) then
 let e10:ByteArray:=(x7++(⟨#[39]⟩:ByteArray))
 let e11:Int:=(IntKind.i64.wrap (x8+(2:Int)))
 some (.inl (e10,e11,()))
 else none
 else
 let e12:Int:=(IntKind.i64.wrap (x8+(1:Int)))
 some (.inr (x7,e12,(decide ((x7.size:Int)≤(1000:Int))),())))
 else none
 else
 let e13:Int:=(IntKind.i64.wrap (x8+(1:Int)))
 some (.inr (x7,e13,(decide ((x7.size:Int)≤(1000:Int))),()))))
 else none
 else
 some (.inr ((⟨#[]⟩:ByteArray),(0:Int),false,())))) ((⟨#[]⟩:ByteArray),e1,())
noncomputable def R06_text.F:=stk R06_text.B
theorem R06_text.ev (x:TS R06_text.si):evF cR06_Number inl0 (Tryz.f69.body.getD .skip) Tryz.f69.results.toList R06_text.h R06_text.si R06_text.so x=R06_text.B x:=by kernel_rfl
theorem R06_text.fn:FnOk PP 69 (Tryz.f69.body.getD .skip) Tryz.f69.results.toList Tryz.f69.ntmps:=fnOk_mk (by kernel_rfl) (by kernel_rfl) (by kernel_rfl) (by kernel_rfl)
theorem R06_text.ok:SpecOk PP 69 ⟨2,R06_text.si,R06_text.so,R06_text.F⟩:=fn_stk cxR06_Number (inl0_ok _ _) mixed R06_text.fn R06_text.h (by kernel_rfl) R06_text.ev
noncomputable def spR06_text:List (Nat×List (Nat×AK)×Lv.Spec):=(69,[],⟨2,R06_text.si,R06_text.so,R06_text.F⟩)::spR06_Number
noncomputable abbrev cR06_text:Cx:=⟨tabAt tab0,eqAt eqs0,specAt spR06_text,159,specPAt sq0⟩
theorem cxR06_text:CxOk PP cR06_text:=cxR06_Number.consS [] R06_text.fn.enters R06_text.ok
def R06_Lex.si:Sh:=⟨[(0,.v false [.str])],[],[],0,[]⟩
def R06_Lex.so:Sh:=⟨[(0,.tup [(false,[.ref 1000]),(false,[.int .i64])])],[(1000,false,.arr 111 tTok)],[],1001,[]⟩
def R06_Lex.h:H:=(.s none .n (.s none .n (.s none .n (.s none .n (.s none (.b (.l ⟨[(4,.v false [.ref 0]),(5,.v false [.int .i64])],[(0,false,.arr 111 tTok)],[0],1,[]⟩ (.s none .n (.b (.s none .n (.s none .n (.s none .n (.s none .n (.s none .n (.s (some ⟨[(7,.v false [.int .i64]),(8,.v false [.ptr 0 0]),(9,.v false [.bool])],[(0,true,.box 111 [.int .i64,.str,.int .i64,.int .i64,.str])],[0,4],1,[]⟩) (.s none .n (.c (.s (some ⟨[(7,.v false [.int .i64])],[],[0,4,5,8],0,[]⟩) (.b (.l ⟨[(7,.v false [.int .i64])],[],[0,4,5,8],0,[]⟩ .n)) .n) (.s (some ⟨[(80,.v false [.bool])],[],[0,4,5,6,7,8,9],0,[]⟩) .n (.c (.s (some ⟨[(7,.v false [.int .i64])],[],[0,4,5,8],0,[]⟩) (.b (.l ⟨[(7,.v false [.int .i64])],[],[0,4,5,8],0,[]⟩ .n)) .n) .n)))) .n)))))))))) .n)))))
noncomputable def R06_Lex.B:ByteArray×Unit→Option (Int×(List tTokT)×Unit):=fun (p0,_)=>
 (bif (decide ((p0.size:Int)>(20000:Int))) then
 some ((60:Int),[],())
 else
 loopM (S:=Int×(List tTokT)×Unit) (fun (x5,o4_0,_)=>
 (bif (decide (x5<(p0.size:Int))) then
 bif (decide (0≤x5)&&decide (x5<(p0.size:Int))) then
 let e1:Int:=(byteAt p0 (Int.toNat x5))
 let e2:Int:=(IntKind.i64.wrap (x5+(1:Int)))
 bif (decide (0≤x5)&&(decide (x5≤e2)&&decide (e2≤(p0.size:Int)))) then
 let e3:ByteArray:=(p0.extract (Int.toNat x5) (Int.toNat e2))
 Option.bind (R06_Sign.F (e1,())) fun y4=>
 (bif (e1==(32:Int)) then
 let e5:Int:=(IntKind.i64.wrap (x5+(1:Int)))
 some (.inl (e5,o4_0,()))
 else
 Option.bind (
 Option.bind (R06_Letter.F (e1,())) fun y6=>
 (bif y6.1 then
 Option.bind (
 loopM (S:=Int×Unit) (fun (x7',_)=>
 (bif (decide (x7'<(p0.size:Int))) then
 bif (decide (0≤x7')&&decide (x7'<(p0.size:Int))) then
 let e7:Int:=(byteAt p0 (Int.toNat x7'))
 Option.bind (R06_Inner.F (e7,())) fun y8=>
 (bif y8.1 then
 let e9:Int:=(IntKind.i64.wrap (x7'+(1:Int)))
 some (.inl (e9,()))
 else
 some (.inr (.inl (x7',()))))
 else none
 else
 some (.inr (.inl (x7',()))))) (e2,()):Option ((Int×Unit)⊕_)) fun r10=>match r10 with
 | .inl (x7_10,_)=>
 (bif (decide (0≤x5)&&(decide (x5≤x7_10)&&decide (x7_10≤(p0.size:Int)))) then
 let e11:ByteArray:=(p0.extract (Int.toNat x5) (Int.toNat x7_10))
 bif (decide (0≤x5)&&(decide (x5≤x7_10)&&decide (x7_10≤(p0.size:Int)))) then
 let e12:ByteArray:=(p0.extract (Int.toNat x5) (Int.toNat x7_10))
 Option.bind (R06_Word.F (e12,())) fun y13=>
 some (.inl (x7_10,y13.1,(0:Int),e11,(0:Int),(0:Int),(⟨#[]⟩:ByteArray),()))
 else none
 else none)
 | .inr r=>some r
 else
 Option.bind (
 Option.bind (R06_Digit.F (e1,())) fun y14=>
 (bif y14.1 then
 some (.inl (true,()))
 else
 (bif (e1==(45:Int)) then
 (bif (decide (e2<(p0.size:Int))) then
 bif (decide (0≤e2)&&decide (e2<(p0.size:Int))) then
 let e15:Int:=(byteAt p0 (Int.toNat e2))
 Option.bind (R06_Digit.F (e15,())) fun y16=>
 some (.inl (y16.1,()))
 else none
 else
 some (.inl (false,())))
 else
 some (.inl (false,())))):Option ((Bool×Unit)⊕_)) fun r17=>match r17 with
 | .inl (x80_17,_)=>
 ((bif x80_17 then
 Option.bind (
 loopM (S:=Int×Unit) (fun (x7',_)=>
 (bif (decide (x7'<(p0.size:Int))) then
 bif (decide (0≤x7')&&decide (x7'<(p0.size:Int))) then
 let e18:Int:=(byteAt p0 (Int.toNat x7'))
 Option.bind (R06_Digit.F (e18,())) fun y19=>
 (bif y19.1 then
 let e20:Int:=(IntKind.i64.wrap (x7'+(1:Int)))
 some (.inl (e20,()))
 else
 some (.inr (.inl (x7',()))))
 else none
 else
 some (.inr (.inl (x7',()))))) (e2,()):Option ((Int×Unit)⊕_)) fun r21=>match r21 with
 | .inl (x7_21,_)=>
 (bif (decide (0≤x5)&&(decide (x5≤x7_21)&&decide (x7_21≤(p0.size:Int)))) then
 let e22:ByteArray:=(p0.extract (Int.toNat x5) (Int.toNat x7_21))
 Option.bind (R06_Number.F (e22,())) fun y23=>
 Option.bind (R01_Int.F (y23.1,())) fun y24=>
 some (.inl (x7_21,y23.2.1,(1:Int),(⟨#[]⟩:ByteArray),y24.1,y24.2.1,y24.2.2.1,()))
 else none)
 | .inr r=>some r
 else
 (bif (e1==(39:Int)) then
 Option.bind (R06_text.F (p0,x5,())) fun y25=>
 some (.inl (y25.2.1,y25.2.2.1,(1:Int),(⟨#[]⟩:ByteArray),(3:Int),(0:Int),y25.1,()))
 else
 some (.inl (e2,y4.1,(2:Int),e3,(0:Int),(0:Int),(⟨#[]⟩:ByteArray),())))))
 | .inr r=>some r):Option ((Int×Bool×Int×ByteArray×Int×Int×ByteArray×Unit)⊕_)) fun r26=>match r26 with
 | .inl (x7_26,x9_26,o8_0_0_26,o8_0_1_26,o8_0_2_26,o8_0_3_26,o8_0_4_26,_)=>
 ((bif (!x9_26) then
 some (.inr ((60:Int),[],()))
 else
 bif (Nat.ble (o4_0.length+ [(o8_0_0_26,(o8_0_1_26,(o8_0_2_26,(o8_0_3_26,o8_0_4_26))))].length) 2513169434916) then
 some (.inl (x7_26,(o4_0++ [(o8_0_0_26,(o8_0_1_26,(o8_0_2_26,(o8_0_3_26,o8_0_4_26))))]),()))
 else none))
 | .inr r=>some r)
 else none
 else none
 else
 some (.inr ((0:Int),o4_0,())))) ((0:Int),([]:List tTokT),()))
noncomputable def R06_Lex.F:=stk R06_Lex.B
theorem R06_Lex.ev (x:TS R06_Lex.si):evF cR06_text inl0 (Tryz.f48.body.getD .skip) Tryz.f48.results.toList R06_Lex.h R06_Lex.si R06_Lex.so x=R06_Lex.B x:=by kernel_rfl
theorem R06_Lex.fn:FnOk PP 48 (Tryz.f48.body.getD .skip) Tryz.f48.results.toList Tryz.f48.ntmps:=fnOk_mk (by kernel_rfl) (by kernel_rfl) (by kernel_rfl) (by kernel_rfl)
theorem R06_Lex.ok:SpecOk PP 48 ⟨1,R06_Lex.si,R06_Lex.so,R06_Lex.F⟩:=fn_stk cxR06_text (inl0_ok _ _) mixed R06_Lex.fn R06_Lex.h (by kernel_rfl) R06_Lex.ev
noncomputable def spR06_Lex:List (Nat×List (Nat×AK)×Lv.Spec):=(48,[],⟨1,R06_Lex.si,R06_Lex.so,R06_Lex.F⟩)::spR06_text
noncomputable abbrev cR06_Lex:Cx:=⟨tabAt tab0,eqAt eqs0,specAt spR06_Lex,159,specPAt sq0⟩
theorem cxR06_Lex:CxOk PP cR06_Lex:=cxR06_text.consS [] R06_Lex.fn.enters R06_Lex.ok
def R07_Parser_is.si:Sh:=⟨[(0,.v false [.ptr 0 0]),(1,.v false [.str])],[(0,true,.box 95 [.sl 111 tTok,.int .i64,.bool])],[],1,[]⟩
def R07_Parser_is.so:Sh:=⟨[(0,.v false [.bool])],[(0,true,.box 95 [.sl 111 tTok,.int .i64,.bool])],[],1001,[(0,0)]⟩
def R07_Parser_is.h:H:=.n
noncomputable def R07_Parser_is.B:ByteArray×(List tTokT)×Int×Bool×Unit→Option (Bool×(List tTokT)×Int×Bool×Unit):=fun (p1,o0_0,o0_1,o0_2,_)=>
 (bif (decide (o0_1<(o0_0.length:Int))) then
 bif (decide (0≤o0_1)&&decide (o0_1<(o0_0.length:Int))) then
 let e1:tTokT:=(List.getD o0_0 (Int.toNat o0_1) tTok.z)
 (bif (e1.1 !=(1:Int)) then
 bif (decide (0≤o0_1)&&decide (o0_1<(o0_0.length:Int))) then
 let e2:tTokT:=(List.getD o0_0 (Int.toNat o0_1) tTok.z)
 some ((e2.2.1.toList==p1.toList),o0_0,o0_1,o0_2,())
 else none
 else
 some (false,o0_0,o0_1,o0_2,()))
 else none
 else
 some (false,o0_0,o0_1,o0_2,()))
noncomputable def R07_Parser_is.F:=stk R07_Parser_is.B
theorem R07_Parser_is.ev (x:TS R07_Parser_is.si):evF cR06_Lex inl0 (Tryz.f76.body.getD .skip) Tryz.f76.results.toList R07_Parser_is.h R07_Parser_is.si R07_Parser_is.so x=R07_Parser_is.B x:=by kernel_rfl
theorem R07_Parser_is.fn:FnOk PP 76 (Tryz.f76.body.getD .skip) Tryz.f76.results.toList Tryz.f76.ntmps:=fnOk_mk (by kernel_rfl) (by kernel_rfl) (by kernel_rfl) (by kernel_rfl)
theorem R07_Parser_is.ok:SpecOk PP 76 ⟨2,R07_Parser_is.si,R07_Parser_is.so,R07_Parser_is.F⟩:=fn_stk cxR06_Lex (inl0_ok _ _) mixed R07_Parser_is.fn R07_Parser_is.h (by kernel_rfl) R07_Parser_is.ev
noncomputable def spR07_Parser_is:List (Nat×List (Nat×AK)×Lv.Spec):=(76,[],⟨2,R07_Parser_is.si,R07_Parser_is.so,R07_Parser_is.F⟩)::spR06_Lex
noncomputable abbrev cR07_Parser_is:Cx:=⟨tabAt tab0,eqAt eqs0,specAt spR07_Parser_is,159,specPAt sq0⟩
theorem cxR07_Parser_is:CxOk PP cR07_Parser_is:=cxR06_Lex.consS [] R07_Parser_is.fn.enters R07_Parser_is.ok
def R07_Parser_take.si:Sh:=⟨[(0,.v false [.ptr 0 0]),(1,.v false [.str])],[(0,true,.box 95 [.sl 111 tTok,.int .i64,.bool])],[],1,[]⟩
def R07_Parser_take.so:Sh:=⟨[(0,.v false [.bool])],[(0,true,.box 95 [.sl 111 tTok,.int .i64,.bool])],[],1001,[(0,0)]⟩
def R07_Parser_take.h:H:=.n
noncomputable def R07_Parser_take.B:ByteArray×(List tTokT)×Int×Bool×Unit→Option (Bool×(List tTokT)×Int×Bool×Unit):=fun (p1,o0_0,o0_1,o0_2,_)=>
 Option.bind (R07_Parser_is.F (p1,o0_0,o0_1,o0_2,())) fun y1=>
 (bif y1.1 then
 let e2:Int:=(IntKind.i64.wrap (y1.2.2.1+(1:Int)))
 some (true,y1.2.1,e2,y1.2.2.2.1,())
 else
 some (false,y1.2.1,y1.2.2.1,y1.2.2.2.1,()))
noncomputable def R07_Parser_take.F:=stk R07_Parser_take.B
theorem R07_Parser_take.ev (x:TS R07_Parser_take.si):evF cR07_Parser_is inl0 (Tryz.f70.body.getD .skip) Tryz.f70.results.toList R07_Parser_take.h R07_Parser_take.si R07_Parser_take.so x=R07_Parser_take.B x:=by kernel_rfl
theorem R07_Parser_take.fn:FnOk PP 70 (Tryz.f70.body.getD .skip) Tryz.f70.results.toList Tryz.f70.ntmps:=fnOk_mk (by kernel_rfl) (by kernel_rfl) (by kernel_rfl) (by kernel_rfl)
theorem R07_Parser_take.ok:SpecOk PP 70 ⟨2,R07_Parser_take.si,R07_Parser_take.so,R07_Parser_take.F⟩:=fn_stk cxR07_Parser_is (inl0_ok _ _) mixed R07_Parser_take.fn R07_Parser_take.h (by kernel_rfl) R07_Parser_take.ev
noncomputable def spR07_Parser_take:List (Nat×List (Nat×AK)×Lv.Spec):=(70,[],⟨2,R07_Parser_take.si,R07_Parser_take.so,R07_Parser_take.F⟩)::spR07_Parser_is
noncomputable abbrev cR07_Parser_take:Cx:=⟨tabAt tab0,eqAt eqs0,specAt spR07_Parser_take,159,specPAt sq0⟩
theorem cxR07_Parser_take:CxOk PP cR07_Parser_take:=cxR07_Parser_is.consS [] R07_Parser_take.fn.enters R07_Parser_take.ok
def R07_Parser_one.si:Sh:=⟨[(0,.v false [.ptr 0 0]),(1,.v false [.sl 9 .str])],[(0,true,.box 95 [.sl 111 tTok,.int .i64,.bool])],[],1,[]⟩
def R07_Parser_one.so:Sh:=⟨[(0,.v false [.int .i64])],[(0,true,.box 95 [.sl 111 tTok,.int .i64,.bool])],[],1001,[(0,0)]⟩
def R07_Parser_one.h:H:=(.s none .n (.s (some ⟨[(0,.v false [.ptr 0 0])],[(0,true,.box 95 [.sl 111 tTok,.int .i64,.bool])],[],1,[]⟩) (.s none .n (.b (.l ⟨[(0,.v false [.ptr 0 0]),(5,.v false [.int .i64])],[(0,true,.box 95 [.sl 111 tTok,.int .i64,.bool])],[1],1,[]⟩ .n))) .n))
noncomputable def R07_Parser_one.B:(List ByteArray)×(List tTokT)×Int×Bool×Unit→Option (Int×(List tTokT)×Int×Bool×Unit):=fun (p1,o0_0,o0_1,o0_2,_)=>
 Option.bind (
 loopM (S:=Int×(List tTokT)×Int×Bool×Unit) (fun (x5,o0_0_0,o0_0_1,o0_0_2,_)=>
 (bif (decide (x5<(p1.length:Int))) then
 bif (decide (0≤x5)&&decide (x5<(p1.length:Int))) then
 let e1:ByteArray:=(List.getD p1 (Int.toNat x5) (⟨#[]⟩:ByteArray))
 Option.bind (R07_Parser_take.F (e1,o0_0_0,o0_0_1,o0_0_2,())) fun y2=>
 (bif y2.1 then
 some (.inr (.inr (x5,y2.2.1,y2.2.2.1,y2.2.2.2.1,())))
 else
 let e3:Int:=(IntKind.i64.wrap (x5+(1:Int)))
 some (.inl (e3,y2.2.1,y2.2.2.1,y2.2.2.2.1,())))
 else none
 else
 some (.inr (.inl (o0_0_0,o0_0_1,o0_0_2,()))))) ((0:Int),o0_0,o0_1,o0_2,()):Option (((List tTokT)×Int×Bool×Unit)⊕_)) fun r4=>match r4 with
 | .inl (o0_0_0_4,o0_0_1_4,o0_0_2_4,_)=>
 (some ((0:Int),o0_0_0_4,o0_0_1_4,false,()))
 | .inr r=>some r
noncomputable def R07_Parser_one.F:=stk R07_Parser_one.B
theorem R07_Parser_one.ev (x:TS R07_Parser_one.si):evF cR07_Parser_take inl0 (Tryz.f49.body.getD .skip) Tryz.f49.results.toList R07_Parser_one.h R07_Parser_one.si R07_Parser_one.so x=R07_Parser_one.B x:=by kernel_rfl
theorem R07_Parser_one.fn:FnOk PP 49 (Tryz.f49.body.getD .skip) Tryz.f49.results.toList Tryz.f49.ntmps:=fnOk_mk (by kernel_rfl) (by kernel_rfl) (by kernel_rfl) (by kernel_rfl)
theorem R07_Parser_one.ok:SpecOk PP 49 ⟨2,R07_Parser_one.si,R07_Parser_one.so,R07_Parser_one.F⟩:=fn_stk cxR07_Parser_take (inl0_ok _ _) mixed R07_Parser_one.fn R07_Parser_one.h (by kernel_rfl) R07_Parser_one.ev
noncomputable def spR07_Parser_one:List (Nat×List (Nat×AK)×Lv.Spec):=(49,[],⟨2,R07_Parser_one.si,R07_Parser_one.so,R07_Parser_one.F⟩)::spR07_Parser_take
noncomputable abbrev cR07_Parser_one:Cx:=⟨tabAt tab0,eqAt eqs0,specAt spR07_Parser_one,159,specPAt sq0⟩
theorem cxR07_Parser_one:CxOk PP cR07_Parser_one:=cxR07_Parser_take.consS [] R07_Parser_one.fn.enters R07_Parser_one.ok
def R07_Parser_next.si:Sh:=⟨[(0,.v false [.ptr 0 0])],[(0,true,.box 95 [.sl 111 tTok,.int .i64,.bool])],[],1,[]⟩
def R07_Parser_next.so:Sh:=⟨[(0,.v true [.int .i64,.str,.int .i64,.int .i64,.str])],[(0,true,.box 95 [.sl 111 tTok,.int .i64,.bool])],[],1001,[(0,0)]⟩
def R07_Parser_next.h:H:=.n
noncomputable def R07_Parser_next.B:(List tTokT)×Int×Bool×Unit→Option (Int×ByteArray×Int×Int×ByteArray×(List tTokT)×Int×Bool×Unit):=fun (o0_0,o0_1,o0_2,_)=>
 (bif (decide (o0_1≥(o0_0.length:Int))) then
 some ((-1:Int),(⟨#[]⟩:ByteArray),(0:Int),(0:Int),(⟨#[]⟩:ByteArray),o0_0,o0_1,false,())
 else
 let e1:Int:=(IntKind.i64.wrap (o0_1+(1:Int)))
 let e2:Int:=(IntKind.i64.wrap (e1-(1:Int)))
 bif (decide (0≤e2)&&decide (e2<(o0_0.length:Int))) then
 let e3:tTokT:=(List.getD o0_0 (Int.toNat e2) tTok.z)
 some (e3.1,e3.2.1,e3.2.2.1,e3.2.2.2.1,e3.2.2.2.2,o0_0,e1,o0_2,())
 else none)
noncomputable def R07_Parser_next.F:=stk R07_Parser_next.B
theorem R07_Parser_next.ev (x:TS R07_Parser_next.si):evF cR07_Parser_one inl0 (Tryz.f92.body.getD .skip) Tryz.f92.results.toList R07_Parser_next.h R07_Parser_next.si R07_Parser_next.so x=R07_Parser_next.B x:=by kernel_rfl
theorem R07_Parser_next.fn:FnOk PP 92 (Tryz.f92.body.getD .skip) Tryz.f92.results.toList Tryz.f92.ntmps:=fnOk_mk (by kernel_rfl) (by kernel_rfl) (by kernel_rfl) (by kernel_rfl)
theorem R07_Parser_next.ok:SpecOk PP 92 ⟨1,R07_Parser_next.si,R07_Parser_next.so,R07_Parser_next.F⟩:=fn_stk cxR07_Parser_one (inl0_ok _ _) mixed R07_Parser_next.fn R07_Parser_next.h (by kernel_rfl) R07_Parser_next.ev
noncomputable def spR07_Parser_next:List (Nat×List (Nat×AK)×Lv.Spec):=(92,[],⟨1,R07_Parser_next.si,R07_Parser_next.so,R07_Parser_next.F⟩)::spR07_Parser_one
noncomputable abbrev cR07_Parser_next:Cx:=⟨tabAt tab0,eqAt eqs0,specAt spR07_Parser_next,159,specPAt sq0⟩
theorem cxR07_Parser_next:CxOk PP cR07_Parser_next:=cxR07_Parser_one.consS [] R07_Parser_next.fn.enters R07_Parser_next.ok
def R07_Keyword.si:Sh:=⟨[(0,.v false [.str])],[],[],0,[]⟩
def R07_Keyword.so:Sh:=⟨[(0,.v false [.bool])],[],[],1000,[]⟩
def R07_Keyword.h:H:=(.s none .n (.s none .n (.s none (.s none .n (.b (.l ⟨[(4,.v false [.int .i64])],[],[0,3],0,[]⟩ .n))) .n)))
noncomputable def R07_Keyword.B:ByteArray×Unit→Option (Bool×Unit):=fun (p0,_)=>
 loopM (S:=Int×Unit) (fun (x4,_)=>
 (bif (decide (x4<([(⟨#[116,97,98,108,101]⟩:ByteArray),(⟨#[99,104,101,99,107]⟩:ByteArray),(⟨#[118,105,101,119]⟩:ByteArray),(⟨#[102,114,111,109]⟩:ByteArray),(⟨#[106,111,105,110]⟩:ByteArray),(⟨#[111,110]⟩:ByteArray),(⟨#[119,104,101,114,101]⟩:ByteArray),(⟨#[112,105,99,107]⟩:ByteArray),(⟨#[103,114,111,117,112]⟩:ByteArray),(⟨#[98,111,111,108]⟩:ByteArray),(⟨#[105,110,116]⟩:ByteArray),(⟨#[116,101,120,116]⟩:ByteArray),(⟨#[110,117,108,108]⟩:ByteArray),(⟨#[117,110,105,113,117,101]⟩:ByteArray),(⟨#[114,101,102]⟩:ByteArray),(⟨#[114,101,115,116,114,105,99,116]⟩:ByteArray),(⟨#[99,97,115,99,97,100,101]⟩:ByteArray),(⟨#[115,101,116,110,117,108,108]⟩:ByteArray),(⟨#[99,111,117,110,116]⟩:ByteArray),(⟨#[115,117,109]⟩:ByteArray),(⟨#[109,105,110]⟩:ByteArray),(⟨#[109,97,120]⟩:ByteArray),(⟨#[116,114,117,101]⟩:ByteArray),(⟨#[102,97,108,115,101]⟩:ByteArray),(⟨#[97,110,100]⟩:ByteArray),(⟨#[111,114]⟩:ByteArray),(⟨#[110,111,116]⟩:ByteArray)].length:Int))) then
 bif (decide (0≤x4)&&decide (x4<([(⟨#[116,97,98,108,101]⟩:ByteArray),(⟨#[99,104,101,99,107]⟩:ByteArray),(⟨#[118,105,101,119]⟩:ByteArray),(⟨#[102,114,111,109]⟩:ByteArray),(⟨#[106,111,105,110]⟩:ByteArray),(⟨#[111,110]⟩:ByteArray),(⟨#[119,104,101,114,101]⟩:ByteArray),(⟨#[112,105,99,107]⟩:ByteArray),(⟨#[103,114,111,117,112]⟩:ByteArray),(⟨#[98,111,111,108]⟩:ByteArray),(⟨#[105,110,116]⟩:ByteArray),(⟨#[116,101,120,116]⟩:ByteArray),(⟨#[110,117,108,108]⟩:ByteArray),(⟨#[117,110,105,113,117,101]⟩:ByteArray),(⟨#[114,101,102]⟩:ByteArray),(⟨#[114,101,115,116,114,105,99,116]⟩:ByteArray),(⟨#[99,97,115,99,97,100,101]⟩:ByteArray),(⟨#[115,101,116,110,117,108,108]⟩:ByteArray),(⟨#[99,111,117,110,116]⟩:ByteArray),(⟨#[115,117,109]⟩:ByteArray),(⟨#[109,105,110]⟩:ByteArray),(⟨#[109,97,120]⟩:ByteArray),(⟨#[116,114,117,101]⟩:ByteArray),(⟨#[102,97,108,115,101]⟩:ByteArray),(⟨#[97,110,100]⟩:ByteArray),(⟨#[111,114]⟩:ByteArray),(⟨#[110,111,116]⟩:ByteArray)].length:Int))) then
 let e1:ByteArray:=(List.getD [(⟨#[116,97,98,108,101]⟩:ByteArray),(⟨#[99,104,101,99,107]⟩:ByteArray),(⟨#[118,105,101,119]⟩:ByteArray),(⟨#[102,114,111,109]⟩:ByteArray),(⟨#[106,111,105,110]⟩:ByteArray),(⟨#[111,110]⟩:ByteArray),(⟨#[119,104,101,114,101]⟩:ByteArray),(⟨#[112,105,99,107]⟩:ByteArray),(⟨#[103,114,111,117,112]⟩:ByteArray),(⟨#[98,111,111,108]⟩:ByteArray),(⟨#[105,110,116]⟩:ByteArray),(⟨#[116,101,120,116]⟩:ByteArray),(⟨#[110,117,108,108]⟩:ByteArray),(⟨#[117,110,105,113,117,101]⟩:ByteArray),(⟨#[114,101,102]⟩:ByteArray),(⟨#[114,101,115,116,114,105,99,116]⟩:ByteArray),(⟨#[99,97,115,99,97,100,101]⟩:ByteArray),(⟨#[115,101,116,110,117,108,108]⟩:ByteArray),(⟨#[99,111,117,110,116]⟩:ByteArray),(⟨#[115,117,109]⟩:ByteArray),(⟨#[109,105,110]⟩:ByteArray),(⟨#[109,97,120]⟩:ByteArray),(⟨#[116,114,117,101]⟩:ByteArray),(⟨#[102,97,108,115,101]⟩:ByteArray),(⟨#[97,110,100]⟩:ByteArray),(⟨#[111,114]⟩:ByteArray),(⟨#[110,111,116]⟩:ByteArray)] (Int.toNat x4) (⟨#[]⟩:ByteArray))
 (bif (e1.toList==p0.toList) then
 some (.inr (true,()))
 else
 let e2:Int:=(IntKind.i64.wrap (x4+(1:Int)))
 some (.inl (e2,())))
 else none
 else
 some (.inr (false,())))) ((0:Int),())
noncomputable def R07_Keyword.F:=stk R07_Keyword.B
theorem R07_Keyword.ev (x:TS R07_Keyword.si):evF cR07_Parser_next inl0 (Tryz.f126.body.getD .skip) Tryz.f126.results.toList R07_Keyword.h R07_Keyword.si R07_Keyword.so x=R07_Keyword.B x:=by kernel_rfl
theorem R07_Keyword.fn:FnOk PP 126 (Tryz.f126.body.getD .skip) Tryz.f126.results.toList Tryz.f126.ntmps:=fnOk_mk (by kernel_rfl) (by kernel_rfl) (by kernel_rfl) (by kernel_rfl)
theorem R07_Keyword.ok:SpecOk PP 126 ⟨1,R07_Keyword.si,R07_Keyword.so,R07_Keyword.F⟩:=fn_stk cxR07_Parser_next (inl0_ok _ _) mixed R07_Keyword.fn R07_Keyword.h (by kernel_rfl) R07_Keyword.ev
noncomputable def spR07_Keyword:List (Nat×List (Nat×AK)×Lv.Spec):=(126,[],⟨1,R07_Keyword.si,R07_Keyword.so,R07_Keyword.F⟩)::spR07_Parser_next
noncomputable abbrev cR07_Keyword:Cx:=⟨tabAt tab0,eqAt eqs0,specAt spR07_Keyword,159,specPAt sq0⟩
theorem cxR07_Keyword:CxOk PP cR07_Keyword:=cxR07_Parser_next.consS [] R07_Keyword.fn.enters R07_Keyword.ok
def R07_Name.si:Sh:=⟨[(0,.v false [.str])],[],[],0,[]⟩
def R07_Name.so:Sh:=⟨[(0,.v false [.bool])],[],[],1000,[]⟩
def R07_Name.h:H:=.n
noncomputable def R07_Name.B:ByteArray×Unit→Option (Bool×Unit):=fun (p0,_)=>
 Option.bind (R06_Word.F (p0,())) fun y1=>
 (bif y1.1 then
 Option.bind (R07_Keyword.F (p0,())) fun y2=>
 some ((!y2.1),())
 else
 some (false,()))
noncomputable def R07_Name.F:=stk R07_Name.B
theorem R07_Name.ev (x:TS R07_Name.si):evF cR07_Keyword inl0 (Tryz.f93.body.getD .skip) Tryz.f93.results.toList R07_Name.h R07_Name.si R07_Name.so x=R07_Name.B x:=by kernel_rfl
theorem R07_Name.fn:FnOk PP 93 (Tryz.f93.body.getD .skip) Tryz.f93.results.toList Tryz.f93.ntmps:=fnOk_mk (by kernel_rfl) (by kernel_rfl) (by kernel_rfl) (by kernel_rfl)
theorem R07_Name.ok:SpecOk PP 93 ⟨1,R07_Name.si,R07_Name.so,R07_Name.F⟩:=fn_stk cxR07_Keyword (inl0_ok _ _) mixed R07_Name.fn R07_Name.h (by kernel_rfl) R07_Name.ev
noncomputable def spR07_Name:List (Nat×List (Nat×AK)×Lv.Spec):=(93,[],⟨1,R07_Name.si,R07_Name.so,R07_Name.F⟩)::spR07_Keyword
noncomputable abbrev cR07_Name:Cx:=⟨tabAt tab0,eqAt eqs0,specAt spR07_Name,159,specPAt sq0⟩
theorem cxR07_Name:CxOk PP cR07_Name:=cxR07_Keyword.consS [] R07_Name.fn.enters R07_Name.ok
def R07_Parser_name.si:Sh:=⟨[(0,.v false [.ptr 0 0])],[(0,true,.box 95 [.sl 111 tTok,.int .i64,.bool])],[],1,[]⟩
def R07_Parser_name.so:Sh:=⟨[(0,.v false [.str])],[(0,true,.box 95 [.sl 111 tTok,.int .i64,.bool])],[],1001,[(0,0)]⟩
def R07_Parser_name.h:H:=.n
noncomputable def R07_Parser_name.B:(List tTokT)×Int×Bool×Unit→Option (ByteArray×(List tTokT)×Int×Bool×Unit):=fun (o0_0,o0_1,o0_2,_)=>
 Option.bind (R07_Parser_next.F (o0_0,o0_1,o0_2,())) fun y1=>
 (bif (y1.1 !=(0:Int)) then
 some (y1.2.1,y1.2.2.2.2.2.1,y1.2.2.2.2.2.2.1,false,())
 else
 Option.bind (R07_Name.F (y1.2.1,())) fun y2=>
 (bif (!y2.1) then
 some (y1.2.1,y1.2.2.2.2.2.1,y1.2.2.2.2.2.2.1,false,())
 else
 some (y1.2.1,y1.2.2.2.2.2.1,y1.2.2.2.2.2.2.1,y1.2.2.2.2.2.2.2.1,())))
noncomputable def R07_Parser_name.F:=stk R07_Parser_name.B
theorem R07_Parser_name.ev (x:TS R07_Parser_name.si):evF cR07_Name inl0 (Tryz.f71.body.getD .skip) Tryz.f71.results.toList R07_Parser_name.h R07_Parser_name.si R07_Parser_name.so x=R07_Parser_name.B x:=by kernel_rfl
theorem R07_Parser_name.fn:FnOk PP 71 (Tryz.f71.body.getD .skip) Tryz.f71.results.toList Tryz.f71.ntmps:=fnOk_mk (by kernel_rfl) (by kernel_rfl) (by kernel_rfl) (by kernel_rfl)
theorem R07_Parser_name.ok:SpecOk PP 71 ⟨1,R07_Parser_name.si,R07_Parser_name.so,R07_Parser_name.F⟩:=fn_stk cxR07_Name (inl0_ok _ _) mixed R07_Parser_name.fn R07_Parser_name.h (by kernel_rfl) R07_Parser_name.ev
noncomputable def spR07_Parser_name:List (Nat×List (Nat×AK)×Lv.Spec):=(71,[],⟨1,R07_Parser_name.si,R07_Parser_name.so,R07_Parser_name.F⟩)::spR07_Name
noncomputable abbrev cR07_Parser_name:Cx:=⟨tabAt tab0,eqAt eqs0,specAt spR07_Parser_name,159,specPAt sq0⟩
theorem cxR07_Parser_name:CxOk PP cR07_Parser_name:=cxR07_Name.consS [] R07_Parser_name.fn.enters R07_Parser_name.ok
def R07_Parser_need.si:Sh:=⟨[(0,.v false [.ptr 0 0]),(1,.v false [.str])],[(0,true,.box 95 [.sl 111 tTok,.int .i64,.bool])],[],1,[]⟩
def R07_Parser_need.so:Sh:=⟨[(0,.tup [])],[(0,true,.box 95 [.sl 111 tTok,.int .i64,.bool])],[],1001,[(0,0)]⟩
def R07_Parser_need.h:H:=.n
noncomputable def R07_Parser_need.B:ByteArray×(List tTokT)×Int×Bool×Unit→Option ((List tTokT)×Int×Bool×Unit):=fun (p1,o0_0,o0_1,o0_2,_)=>
 Option.bind (R07_Parser_take.F (p1,o0_0,o0_1,o0_2,())) fun y1=>
 (bif (!y1.1) then
 some (y1.2.1,y1.2.2.1,false,())
 else
 some (y1.2.1,y1.2.2.1,y1.2.2.2.1,()))
noncomputable def R07_Parser_need.F:=stk R07_Parser_need.B
theorem R07_Parser_need.ev (x:TS R07_Parser_need.si):evF cR07_Parser_name inl0 (Tryz.f72.body.getD .skip) Tryz.f72.results.toList R07_Parser_need.h R07_Parser_need.si R07_Parser_need.so x=R07_Parser_need.B x:=by kernel_rfl
theorem R07_Parser_need.fn:FnOk PP 72 (Tryz.f72.body.getD .skip) Tryz.f72.results.toList Tryz.f72.ntmps:=fnOk_mk (by kernel_rfl) (by kernel_rfl) (by kernel_rfl) (by kernel_rfl)
theorem R07_Parser_need.ok:SpecOk PP 72 ⟨2,R07_Parser_need.si,R07_Parser_need.so,R07_Parser_need.F⟩:=fn_stk cxR07_Parser_name (inl0_ok _ _) mixed R07_Parser_need.fn R07_Parser_need.h (by kernel_rfl) R07_Parser_need.ev
noncomputable def spR07_Parser_need:List (Nat×List (Nat×AK)×Lv.Spec):=(72,[],⟨2,R07_Parser_need.si,R07_Parser_need.so,R07_Parser_need.F⟩)::spR07_Parser_name
noncomputable abbrev cR07_Parser_need:Cx:=⟨tabAt tab0,eqAt eqs0,specAt spR07_Parser_need,159,specPAt sq0⟩
theorem cxR07_Parser_need:CxOk PP cR07_Parser_need:=cxR07_Parser_name.consS [] R07_Parser_need.fn.enters R07_Parser_need.ok
def R07_Parser_column.si:Sh:=⟨[(0,.v false [.ptr 0 0])],[(0,true,.box 95 [.sl 111 tTok,.int .i64,.bool])],[],1,[]⟩
def R07_Parser_column.so:Sh:=⟨[(0,.v true [.str,.int .i64,.bool,.bool,.str,.int .i64])],[(0,true,.box 95 [.sl 111 tTok,.int .i64,.bool])],[],1001,[(0,0)]⟩
def R07_Parser_column.h:H:=.n
noncomputable def R07_Parser_column.B:(List tTokT)×Int×Bool×Unit→Option (ByteArray×Int×Bool×Bool×ByteArray×Int×(List tTokT)×Int×Bool×Unit):=fun (o0_0,o0_1,o0_2,_)=>
 Option.bind (R07_Parser_name.F (o0_0,o0_1,o0_2,())) fun y1=>
 Option.bind (R07_Parser_one.F ([(⟨#[98,111,111,108]⟩:ByteArray),(⟨#[105,110,116]⟩:ByteArray),(⟨#[116,101,120,116]⟩:ByteArray)],y1.2.1,y1.2.2.1,y1.2.2.2.1,())) fun y2=>
 let e3:Int:=(IntKind.i64.wrap ((1:Int)+y2.1))
 Option.bind (R07_Parser_take.F ((⟨#[110,117,108,108]⟩:ByteArray),y2.2.1,y2.2.2.1,y2.2.2.2.1,())) fun y4=>
 Option.bind (R07_Parser_take.F ((⟨#[117,110,105,113,117,101]⟩:ByteArray),y4.2.1,y4.2.2.1,y4.2.2.2.1,())) fun y5=>
 Option.bind (R07_Parser_take.F ((⟨#[114,101,102]⟩:ByteArray),y5.2.1,y5.2.2.1,y5.2.2.2.1,())) fun y6=>
 (bif y6.1 then
 Option.bind (R07_Parser_name.F (y6.2.1,y6.2.2.1,y6.2.2.2.1,())) fun y7=>
 Option.bind (R07_Parser_one.F ([(⟨#[114,101,115,116,114,105,99,116]⟩:ByteArray),(⟨#[99,97,115,99,97,100,101]⟩:ByteArray),(⟨#[115,101,116,110,117,108,108]⟩:ByteArray)],y7.2.1,y7.2.2.1,y7.2.2.2.1,())) fun y8=>
 some (y1.1,e3,y4.1,y5.1,y7.1,y8.1,y8.2.1,y8.2.2.1,y8.2.2.2.1,())
 else
 some (y1.1,e3,y4.1,y5.1,(⟨#[]⟩:ByteArray),(0:Int),y6.2.1,y6.2.2.1,y6.2.2.2.1,()))
noncomputable def R07_Parser_column.F:=stk R07_Parser_column.B
theorem R07_Parser_column.ev (x:TS R07_Parser_column.si):evF cR07_Parser_need inl0 (Tryz.f73.body.getD .skip) Tryz.f73.results.toList R07_Parser_column.h R07_Parser_column.si R07_Parser_column.so x=R07_Parser_column.B x:=by kernel_rfl
theorem R07_Parser_column.fn:FnOk PP 73 (Tryz.f73.body.getD .skip) Tryz.f73.results.toList Tryz.f73.ntmps:=fnOk_mk (by kernel_rfl) (by kernel_rfl) (by kernel_rfl) (by kernel_rfl)
theorem R07_Parser_column.ok:SpecOk PP 73 ⟨1,R07_Parser_column.si,R07_Parser_column.so,R07_Parser_column.F⟩:=fn_stk cxR07_Parser_need (inl0_ok _ _) mixed R07_Parser_column.fn R07_Parser_column.h (by kernel_rfl) R07_Parser_column.ev
noncomputable def spR07_Parser_column:List (Nat×List (Nat×AK)×Lv.Spec):=(73,[],⟨1,R07_Parser_column.si,R07_Parser_column.so,R07_Parser_column.F⟩)::spR07_Parser_need
noncomputable abbrev cR07_Parser_column:Cx:=⟨tabAt tab0,eqAt eqs0,specAt spR07_Parser_column,159,specPAt sq0⟩
theorem cxR07_Parser_column:CxOk PP cR07_Parser_column:=cxR07_Parser_need.consS [] R07_Parser_column.fn.enters R07_Parser_column.ok
def R01_Truth.si:Sh:=⟨[(0,.v false [.bool])],[],[],0,[]⟩
def R01_Truth.so:Sh:=⟨[(0,.v true [.int .i64,.int .i64,.str])],[],[],1000,[]⟩
def R01_Truth.h:H:=.n
noncomputable def R01_Truth.B:Bool×Unit→Option (Int×Int×ByteArray×Unit):=fun (p0,_)=>
 (bif p0 then
 some ((1:Int),(1:Int),(⟨#[]⟩:ByteArray),())
 else
 some ((1:Int),(0:Int),(⟨#[]⟩:ByteArray),()))
noncomputable def R01_Truth.F:=stk R01_Truth.B
theorem R01_Truth.ev (x:TS R01_Truth.si):evF cR07_Parser_column inl0 (Tryz.f127.body.getD .skip) Tryz.f127.results.toList R01_Truth.h R01_Truth.si R01_Truth.so x=R01_Truth.B x:=by kernel_rfl
theorem R01_Truth.fn:FnOk PP 127 (Tryz.f127.body.getD .skip) Tryz.f127.results.toList Tryz.f127.ntmps:=fnOk_mk (by kernel_rfl) (by kernel_rfl) (by kernel_rfl) (by kernel_rfl)
theorem R01_Truth.ok:SpecOk PP 127 ⟨1,R01_Truth.si,R01_Truth.so,R01_Truth.F⟩:=fn_stk cxR07_Parser_column (inl0_ok _ _) mixed R01_Truth.fn R01_Truth.h (by kernel_rfl) R01_Truth.ev
noncomputable def spR01_Truth:List (Nat×List (Nat×AK)×Lv.Spec):=(127,[],⟨1,R01_Truth.si,R01_Truth.so,R01_Truth.F⟩)::spR07_Parser_column
noncomputable abbrev cR01_Truth:Cx:=⟨tabAt tab0,eqAt eqs0,specAt spR01_Truth,159,specPAt sq0⟩
theorem cxR01_Truth:CxOk PP cR01_Truth:=cxR07_Parser_column.consS [] R01_Truth.fn.enters R01_Truth.ok
def R07_Parser_step.si:Sh:=⟨[(0,.v false [.ptr 0 0])],[(0,true,.box 95 [.sl 111 tTok,.int .i64,.bool])],[],1,[]⟩
def R07_Parser_step.so:Sh:=⟨[(0,.v true [.int .i64,.int .i64,.int .i64,.int .i64,.str])],[(0,true,.box 95 [.sl 111 tTok,.int .i64,.bool])],[],1001,[(0,0)]⟩
def R07_Parser_step.h:H:=(.s none .n (.s none .n (.s none .n (.s none .n (.s none .n (.s (some ⟨[(0,.v false [.ptr 0 0])],[(0,true,.box 95 [.sl 111 tTok,.int .i64,.bool])],[2],1,[]⟩) (.s none .n (.b (.l ⟨[(0,.v false [.ptr 0 0]),(4,.v false [.int .i64])],[(0,true,.box 95 [.sl 111 tTok,.int .i64,.bool])],[2,3],1,[]⟩ .n))) (.s none .n (.s none .n (.s (some ⟨[],[],[0,2],0,[]⟩) (.s none .n (.b (.l ⟨[(6,.v false [.int .i64])],[],[0,2,5],0,[]⟩ .n))) .n)))))))))
noncomputable def R07_Parser_step.B:(List tTokT)×Int×Bool×Unit→Option (Int×Int×Int×Int×ByteArray×(List tTokT)×Int×Bool×Unit):=fun (o0_0,o0_1,o0_2,_)=>
 Option.bind (R07_Parser_take.F ((⟨#[110,117,108,108]⟩:ByteArray),o0_0,o0_1,o0_2,())) fun y1=>
 (bif y1.1 then
 Option.bind (R07_Parser_take.F ((⟨#[63]⟩:ByteArray),y1.2.1,y1.2.2.1,y1.2.2.2.1,())) fun y2=>
 (bif y2.1 then
 some ((10:Int),(0:Int),(0:Int),(0:Int),(⟨#[]⟩:ByteArray),y2.2.1,y2.2.2.1,y2.2.2.2.1,())
 else
 some ((1:Int),(0:Int),(0:Int),(0:Int),(⟨#[]⟩:ByteArray),y2.2.1,y2.2.2.1,y2.2.2.2.1,()))
 else
 Option.bind (R07_Parser_take.F ((⟨#[116,114,117,101]⟩:ByteArray),y1.2.1,y1.2.2.1,y1.2.2.2.1,())) fun y3=>
 (bif y3.1 then
 Option.bind (R01_Truth.F (true,())) fun y4=>
 some ((1:Int),(0:Int),y4.1,y4.2.1,y4.2.2.1,y3.2.1,y3.2.2.1,y3.2.2.2.1,())
 else
 Option.bind (R07_Parser_take.F ((⟨#[102,97,108,115,101]⟩:ByteArray),y3.2.1,y3.2.2.1,y3.2.2.2.1,())) fun y5=>
 (bif y5.1 then
 Option.bind (R01_Truth.F (false,())) fun y6=>
 some ((1:Int),(0:Int),y6.1,y6.2.1,y6.2.2.1,y5.2.1,y5.2.2.1,y5.2.2.2.1,())
 else
 Option.bind (
 loopM (S:=Int×(List tTokT)×Int×Bool×Unit) (fun (x4,o0_0_0,o0_0_1,o0_0_2,_)=>
 (bif (decide (x4<(8:Int))) then
 bif (decide (0≤x4)&&decide (x4<([(⟨#[43]⟩:ByteArray),(⟨#[45]⟩:ByteArray),(⟨#[42]⟩:ByteArray),(⟨#[61]⟩:ByteArray),(⟨#[60]⟩:ByteArray),(⟨#[97,110,100]⟩:ByteArray),(⟨#[111,114]⟩:ByteArray),(⟨#[110,111,116]⟩:ByteArray)].length:Int))) then
 let e7:ByteArray:=(List.getD [(⟨#[43]⟩:ByteArray),(⟨#[45]⟩:ByteArray),(⟨#[42]⟩:ByteArray),(⟨#[61]⟩:ByteArray),(⟨#[60]⟩:ByteArray),(⟨#[97,110,100]⟩:ByteArray),(⟨#[111,114]⟩:ByteArray),(⟨#[110,111,116]⟩:ByteArray)] (Int.toNat x4) (⟨#[]⟩:ByteArray))
 Option.bind (R07_Parser_take.F (e7,o0_0_0,o0_0_1,o0_0_2,())) fun y8=>
 (bif y8.1 then
 let e9:Int:=(IntKind.i64.wrap ((2:Int)+x4))
 some (.inr (.inr (e9,(0:Int),(0:Int),(0:Int),(⟨#[]⟩:ByteArray),y8.2.1,y8.2.2.1,y8.2.2.2.1,())))
 else
 let e10:Int:=(IntKind.i64.wrap (x4+(1:Int)))
 some (.inl (e10,y8.2.1,y8.2.2.1,y8.2.2.2.1,())))
 else none
 else
 some (.inr (.inl (o0_0_0,o0_0_1,o0_0_2,()))))) ((0:Int),y5.2.1,y5.2.2.1,y5.2.2.2.1,()):Option (((List tTokT)×Int×Bool×Unit)⊕_)) fun r11=>match r11 with
 | .inl (o0_0_0_11,o0_0_1_11,o0_0_2_11,_)=>
 (Option.bind (R07_Parser_next.F (o0_0_0_11,o0_0_1_11,o0_0_2_11,())) fun y12=>
 (bif (y12.1==(1:Int)) then
 some ((1:Int),(0:Int),y12.2.2.1,y12.2.2.2.1,y12.2.2.2.2.1,y12.2.2.2.2.2.1,y12.2.2.2.2.2.2.1,y12.2.2.2.2.2.2.2.1,())
 else
 Option.bind (
 loopM (S:=Int×Unit) (fun (x6,_)=>
 (bif (decide (x6<(100:Int))) then
 (bif (y12.1==(0:Int)) then
 Option.bind (R01_Signed.F (x6,())) fun y13=>
 bif (!decide ((((⟨#[99]⟩:ByteArray).size+y13.1.size:Nat):Int)>IntKind.i64.max)) then
 let e14:ByteArray:=((⟨#[99]⟩:ByteArray)++y13.1)
 (bif (y12.2.1.toList==e14.toList) then
 some (.inr (.inr ((0:Int),x6,(0:Int),(0:Int),(⟨#[]⟩:ByteArray),y12.2.2.2.2.2.1,y12.2.2.2.2.2.2.1,y12.2.2.2.2.2.2.2.1,())))
 else
 let e15:Int:=(IntKind.i64.wrap (x6+(1:Int)))
 some (.inl (e15,())))
 else none
 else
 let e16:Int:=(IntKind.i64.wrap (x6+(1:Int)))
 some (.inl (e16,())))
 else
 some (.inr (.inl (()))))) ((0:Int),()):Option ((Unit)⊕_)) fun r17=>match r17 with
 | .inl (_)=>
 (some ((0:Int),(0:Int),(0:Int),(0:Int),(⟨#[]⟩:ByteArray),y12.2.2.2.2.2.1,y12.2.2.2.2.2.2.1,false,()))
 | .inr r=>some r))
 | .inr r=>some r)))
noncomputable def R07_Parser_step.F:=stk R07_Parser_step.B
theorem R07_Parser_step.ev (x:TS R07_Parser_step.si):evF cR01_Truth inl0 (Tryz.f94.body.getD .skip) Tryz.f94.results.toList R07_Parser_step.h R07_Parser_step.si R07_Parser_step.so x=R07_Parser_step.B x:=by kernel_rfl
theorem R07_Parser_step.fn:FnOk PP 94 (Tryz.f94.body.getD .skip) Tryz.f94.results.toList Tryz.f94.ntmps:=fnOk_mk (by kernel_rfl) (by kernel_rfl) (by kernel_rfl) (by kernel_rfl)
theorem R07_Parser_step.ok:SpecOk PP 94 ⟨1,R07_Parser_step.si,R07_Parser_step.so,R07_Parser_step.F⟩:=fn_stk cxR01_Truth (inl0_ok _ _) mixed R07_Parser_step.fn R07_Parser_step.h (by kernel_rfl) R07_Parser_step.ev
noncomputable def spR07_Parser_step:List (Nat×List (Nat×AK)×Lv.Spec):=(94,[],⟨1,R07_Parser_step.si,R07_Parser_step.so,R07_Parser_step.F⟩)::spR01_Truth
noncomputable abbrev cR07_Parser_step:Cx:=⟨tabAt tab0,eqAt eqs0,specAt spR07_Parser_step,159,specPAt sq0⟩
theorem cxR07_Parser_step:CxOk PP cR07_Parser_step:=cxR01_Truth.consS [] R07_Parser_step.fn.enters R07_Parser_step.ok
def R07_Parser_expr.si:Sh:=⟨[(0,.v false [.ptr 0 0])],[(0,true,.box 95 [.sl 111 tTok,.int .i64,.bool])],[],1,[]⟩
def R07_Parser_expr.so:Sh:=⟨[(0,.v false [.ref 1001])],[(0,true,.box 95 [.sl 111 tTok,.int .i64,.bool]),(1001,false,.arr 78 tNode)],[],1002,[(0,0)]⟩
def R07_Parser_expr.h:H:=(.s none .n (.s none .n (.s none .n (.s none (.b (.l ⟨[(0,.v false [.ptr 1 0]),(3,.v false [.ref 0])],[(0,false,.arr 78 tNode),(1,true,.box 95 [.sl 111 tTok,.int .i64,.bool])],[],2,[]⟩ .n)) .n))))
noncomputable def R07_Parser_expr.B:(List tTokT)×Int×Bool×Unit→Option ((List tTokT)×Int×Bool×(List tNodeT)×Unit):=fun (o0_0,o0_1,o0_2,_)=>
 Option.bind (R07_Parser_need.F ((⟨#[91]⟩:ByteArray),o0_0,o0_1,o0_2,())) fun y1=>
 loopM (S:=(List tNodeT)×(List tTokT)×Int×Bool×Unit) (fun (o3_0,o0_0_0,o0_0_1,o0_0_2,_)=>
 (bif o0_0_2 then
 Option.bind (R07_Parser_take.F ((⟨#[93]⟩:ByteArray),o0_0_0,o0_0_1,o0_0_2,())) fun y2=>
 (bif (!y2.1) then
 Option.bind (R07_Parser_step.F (y2.2.1,y2.2.2.1,y2.2.2.2.1,())) fun y3=>
 bif (Nat.ble (o3_0.length+ [(y3.1,(y3.2.1,(y3.2.2.1,(y3.2.2.2.1,y3.2.2.2.2.1))))].length) 2932031007402) then
 (bif (decide (((o3_0++ [(y3.1,(y3.2.1,(y3.2.2.1,(y3.2.2.2.1,y3.2.2.2.2.1))))]).length:Int)>(100:Int))) then
 some (.inl ((o3_0++ [(y3.1,(y3.2.1,(y3.2.2.1,(y3.2.2.2.1,y3.2.2.2.2.1))))]),y3.2.2.2.2.2.1,y3.2.2.2.2.2.2.1,false,()))
 else
 some (.inl ((o3_0++ [(y3.1,(y3.2.1,(y3.2.2.1,(y3.2.2.2.1,y3.2.2.2.2.1))))]),y3.2.2.2.2.2.1,y3.2.2.2.2.2.2.1,y3.2.2.2.2.2.2.2.1,())))
 else none
 else
 some (.inr (y2.2.1,y2.2.2.1,y2.2.2.2.1,o3_0,())))
 else
 some (.inr (o0_0_0,o0_0_1,o0_0_2,o3_0,())))) (([]:List tNodeT),y1.1,y1.2.1,y1.2.2.1,())
noncomputable def R07_Parser_expr.F:=stk R07_Parser_expr.B
theorem R07_Parser_expr.ev (x:TS R07_Parser_expr.si):evF cR07_Parser_step inl0 (Tryz.f74.body.getD .skip) Tryz.f74.results.toList R07_Parser_expr.h R07_Parser_expr.si R07_Parser_expr.so x=R07_Parser_expr.B x:=by kernel_rfl
theorem R07_Parser_expr.fn:FnOk PP 74 (Tryz.f74.body.getD .skip) Tryz.f74.results.toList Tryz.f74.ntmps:=fnOk_mk (by kernel_rfl) (by kernel_rfl) (by kernel_rfl) (by kernel_rfl)
theorem R07_Parser_expr.ok:SpecOk PP 74 ⟨1,R07_Parser_expr.si,R07_Parser_expr.so,R07_Parser_expr.F⟩:=fn_stk cxR07_Parser_step (inl0_ok _ _) mixed R07_Parser_expr.fn R07_Parser_expr.h (by kernel_rfl) R07_Parser_expr.ev
noncomputable def spR07_Parser_expr:List (Nat×List (Nat×AK)×Lv.Spec):=(74,[],⟨1,R07_Parser_expr.si,R07_Parser_expr.so,R07_Parser_expr.F⟩)::spR07_Parser_step
noncomputable abbrev cR07_Parser_expr:Cx:=⟨tabAt tab0,eqAt eqs0,specAt spR07_Parser_expr,159,specPAt sq0⟩
theorem cxR07_Parser_expr:CxOk PP cR07_Parser_expr:=cxR07_Parser_step.consS [] R07_Parser_expr.fn.enters R07_Parser_expr.ok
def R07_Parser_table.si:Sh:=⟨[(0,.v false [.ptr 0 0])],[(0,true,.box 95 [.sl 111 tTok,.int .i64,.bool])],[],1,[]⟩
def R07_Parser_table.so:Sh:=⟨[(0,.v true [.str,.ref 1001,.ref 1002])],[(0,true,.box 95 [.sl 111 tTok,.int .i64,.bool]),(1001,false,.arr 41 tColumn),(1002,false,.arr 32 (.sl 78 tNode))],[],1003,[(0,0)]⟩
def R07_Parser_table.h:H:=(.s none .n (.s none .n (.s none .n (.s none .n (.s (some ⟨[(0,.v false [.ptr 0 0]),(3,.v false [.ptr 1 0])],[(0,true,.box 95 [.sl 111 tTok,.int .i64,.bool]),(1,true,.box 29 [.str,.ref 2,.ref 3]),(2,false,.arr 41 tColumn),(3,false,.arr 32 (.sl 78 tNode))],[2],4,[]⟩) (.b (.l ⟨[(0,.v false [.ptr 0 0]),(3,.v false [.ptr 1 0])],[(0,true,.box 95 [.sl 111 tTok,.int .i64,.bool]),(1,true,.box 29 [.str,.ref 2,.ref 3]),(2,false,.arr 41 tColumn),(3,false,.arr 32 (.sl 78 tNode))],[2],4,[]⟩ .n)) (.s none .n (.s (some ⟨[(0,.v false [.ptr 0 0]),(3,.v false [.ptr 1 0])],[(0,true,.box 95 [.sl 111 tTok,.int .i64,.bool]),(1,true,.box 29 [.str,.ref 2,.ref 3]),(2,false,.arr 41 tColumn),(3,false,.arr 32 (.sl 78 tNode))],[2],4,[]⟩) (.b (.l ⟨[(0,.v false [.ptr 0 0]),(3,.v false [.ptr 1 0])],[(0,true,.box 95 [.sl 111 tTok,.int .i64,.bool]),(1,true,.box 29 [.str,.ref 2,.ref 3]),(2,false,.arr 41 tColumn),(3,false,.arr 32 (.sl 78 tNode))],[2],4,[]⟩ .n)) .n)))))))
noncomputable def R07_Parser_table.B:(List tTokT)×Int×Bool×Unit→Option (ByteArray×(List tTokT)×Int×Bool×(List tColumnT)×(List (List tNodeT))×Unit):=fun (o0_0,o0_1,o0_2,_)=>
 Option.bind (R07_Parser_name.F (o0_0,o0_1,o0_2,())) fun y1=>
 Option.bind (R07_Parser_need.F ((⟨#[40]⟩:ByteArray),y1.2.1,y1.2.2.1,y1.2.2.2.1,())) fun y2=>
 Option.bind (R07_Parser_column.F (y2.1,y2.2.1,y2.2.2.1,())) fun y3=>
 bif (Nat.ble [(y3.1,(y3.2.1,(y3.2.2.1,(y3.2.2.2.1,(y3.2.2.2.2.1,y3.2.2.2.2.2.1)))))].length 2513169434916) then
 Option.bind (
 loopM (S:=(List tTokT)×Int×Bool×ByteArray×(List tColumnT)×(List (List tNodeT))×Unit) (fun (o0_0_0,o0_0_1,o0_0_2,o3_0_0,o3_0_1,o3_0_2,_)=>
 (bif o0_0_2 then
 Option.bind (R07_Parser_take.F ((⟨#[44]⟩:ByteArray),o0_0_0,o0_0_1,o0_0_2,())) fun y4=>
 (bif y4.1 then
 Option.bind (R07_Parser_column.F (y4.2.1,y4.2.2.1,y4.2.2.2.1,())) fun y5=>
 bif (Nat.ble (o3_0_1.length+ [(y5.1,(y5.2.1,(y5.2.2.1,(y5.2.2.2.1,(y5.2.2.2.2.1,y5.2.2.2.2.2.1)))))].length) 2513169434916) then
 some (.inl (y5.2.2.2.2.2.2.1,y5.2.2.2.2.2.2.2.1,y5.2.2.2.2.2.2.2.2.1,o3_0_0,(o3_0_1++ [(y5.1,(y5.2.1,(y5.2.2.1,(y5.2.2.2.1,(y5.2.2.2.2.1,y5.2.2.2.2.2.1)))))]),o3_0_2,()))
 else none
 else
 some (.inr (.inl (y4.2.1,y4.2.2.1,y4.2.2.2.1,o3_0_0,o3_0_1,o3_0_2,()))))
 else
 some (.inr (.inl (o0_0_0,o0_0_1,o0_0_2,o3_0_0,o3_0_1,o3_0_2,()))))) (y3.2.2.2.2.2.2.1,y3.2.2.2.2.2.2.2.1,y3.2.2.2.2.2.2.2.2.1,y1.1,[(y3.1,(y3.2.1,(y3.2.2.1,(y3.2.2.2.1,(y3.2.2.2.2.1,y3.2.2.2.2.2.1)))))],[],()):Option (((List tTokT)×Int×Bool×ByteArray×(List tColumnT)×(List (List tNodeT))×Unit)⊕_)) fun r6=>match r6 with
 | .inl (o0_0_0_6,o0_0_1_6,o0_0_2_6,o3_0_0_6,o3_0_1_6,o3_0_2_6,_)=>
 (Option.bind (R07_Parser_need.F ((⟨#[41]⟩:ByteArray),o0_0_0_6,o0_0_1_6,o0_0_2_6,())) fun y7=>
 Option.bind (
 loopM (S:=(List tTokT)×Int×Bool×ByteArray×(List tColumnT)×(List (List tNodeT))×Unit) (fun (o0_0_0,o0_0_1,o0_0_2,o3_0_0,o3_0_1,o3_0_2,_)=>
 (bif o0_0_2 then
 Option.bind (R07_Parser_take.F ((⟨#[99,104,101,99,107]⟩:ByteArray),o0_0_0,o0_0_1,o0_0_2,())) fun y8=>
 (bif y8.1 then
 Option.bind (R07_Parser_expr.F (y8.2.1,y8.2.2.1,y8.2.2.2.1,())) fun y9=>
 bif (Nat.ble (o3_0_2.length+ [y9.2.2.2.1].length) 5864062014805) then
 some (.inl (y9.1,y9.2.1,y9.2.2.1,o3_0_0,o3_0_1,(o3_0_2++ [y9.2.2.2.1]),()))
 else none
 else
 some (.inr (.inl (y8.2.1,y8.2.2.1,y8.2.2.2.1,o3_0_0,o3_0_1,o3_0_2,()))))
 else
 some (.inr (.inl (o0_0_0,o0_0_1,o0_0_2,o3_0_0,o3_0_1,o3_0_2,()))))) (y7.1,y7.2.1,y7.2.2.1,o3_0_0_6,o3_0_1_6,o3_0_2_6,()):Option (((List tTokT)×Int×Bool×ByteArray×(List tColumnT)×(List (List tNodeT))×Unit)⊕_)) fun r10=>match r10 with
 | .inl (o0_0_0_10,o0_0_1_10,o0_0_2_10,o3_0_0_10,o3_0_1_10,o3_0_2_10,_)=>
 ((bif (decide ((o3_0_1_10.length:Int)>(40:Int))) then
 some (o3_0_0_10,o0_0_0_10,o0_0_1_10,false,o3_0_1_10,o3_0_2_10,())
 else
 (bif (decide ((o3_0_2_10.length:Int)>(40:Int))) then
 some (o3_0_0_10,o0_0_0_10,o0_0_1_10,false,o3_0_1_10,o3_0_2_10,())
 else
 some (o3_0_0_10,o0_0_0_10,o0_0_1_10,o0_0_2_10,o3_0_1_10,o3_0_2_10,()))))
 | .inr r=>some r)
 | .inr r=>some r
 else none
noncomputable def R07_Parser_table.F:=stk R07_Parser_table.B
theorem R07_Parser_table.ev (x:TS R07_Parser_table.si):evF cR07_Parser_expr inl0 (Tryz.f50.body.getD .skip) Tryz.f50.results.toList R07_Parser_table.h R07_Parser_table.si R07_Parser_table.so x=R07_Parser_table.B x:=by kernel_rfl
theorem R07_Parser_table.fn:FnOk PP 50 (Tryz.f50.body.getD .skip) Tryz.f50.results.toList Tryz.f50.ntmps:=fnOk_mk (by kernel_rfl) (by kernel_rfl) (by kernel_rfl) (by kernel_rfl)
theorem R07_Parser_table.ok:SpecOk PP 50 ⟨1,R07_Parser_table.si,R07_Parser_table.so,R07_Parser_table.F⟩:=fn_stk cxR07_Parser_expr (inl0_ok _ _) mixed R07_Parser_table.fn R07_Parser_table.h (by kernel_rfl) R07_Parser_table.ev
noncomputable def spR07_Parser_table:List (Nat×List (Nat×AK)×Lv.Spec):=(50,[],⟨1,R07_Parser_table.si,R07_Parser_table.so,R07_Parser_table.F⟩)::spR07_Parser_expr
noncomputable abbrev cR07_Parser_table:Cx:=⟨tabAt tab0,eqAt eqs0,specAt spR07_Parser_table,159,specPAt sq0⟩
theorem cxR07_Parser_table:CxOk PP cR07_Parser_table:=cxR07_Parser_expr.consS [] R07_Parser_table.fn.enters R07_Parser_table.ok
def R07_Parser_col.si:Sh:=⟨[(0,.v false [.ptr 0 0])],[(0,true,.box 95 [.sl 111 tTok,.int .i64,.bool])],[],1,[]⟩
def R07_Parser_col.so:Sh:=⟨[(0,.v false [.int .i64])],[(0,true,.box 95 [.sl 111 tTok,.int .i64,.bool])],[],1001,[(0,0)]⟩
def R07_Parser_col.h:H:=(.s none .n (.s none .n (.s none (.s (some ⟨[(26,.v false [.bool])],[],[0,3],0,[]⟩) .n .n) .n)))
noncomputable def R07_Parser_col.B:(List tTokT)×Int×Bool×Unit→Option (Int×(List tTokT)×Int×Bool×Unit):=fun (o0_0,o0_1,o0_2,_)=>
 Option.bind (R07_Parser_next.F (o0_0,o0_1,o0_2,())) fun y1=>
 Option.bind (
 (bif (y1.1 !=(1:Int)) then
 some (.inl (true,()))
 else
 (bif (y1.2.2.1 !=(2:Int)) then
 some (.inl (true,()))
 else
 (bif (decide (y1.2.2.2.1<(0:Int))) then
 some (.inl (true,()))
 else
 some (.inl ((decide (y1.2.2.2.1>(99:Int))),()))))):Option ((Bool×Unit)⊕_)) fun r2=>match r2 with
 | .inl (x26_2,_)=>
 ((bif x26_2 then
 some (y1.2.2.2.1,y1.2.2.2.2.2.1,y1.2.2.2.2.2.2.1,false,())
 else
 some (y1.2.2.2.1,y1.2.2.2.2.2.1,y1.2.2.2.2.2.2.1,y1.2.2.2.2.2.2.2.1,())))
 | .inr r=>some r
noncomputable def R07_Parser_col.F:=stk R07_Parser_col.B
theorem R07_Parser_col.ev (x:TS R07_Parser_col.si):evF cR07_Parser_table inl0 (Tryz.f75.body.getD .skip) Tryz.f75.results.toList R07_Parser_col.h R07_Parser_col.si R07_Parser_col.so x=R07_Parser_col.B x:=by kernel_rfl
theorem R07_Parser_col.fn:FnOk PP 75 (Tryz.f75.body.getD .skip) Tryz.f75.results.toList Tryz.f75.ntmps:=fnOk_mk (by kernel_rfl) (by kernel_rfl) (by kernel_rfl) (by kernel_rfl)
theorem R07_Parser_col.ok:SpecOk PP 75 ⟨1,R07_Parser_col.si,R07_Parser_col.so,R07_Parser_col.F⟩:=fn_stk cxR07_Parser_table (inl0_ok _ _) mixed R07_Parser_col.fn R07_Parser_col.h (by kernel_rfl) R07_Parser_col.ev
noncomputable def spR07_Parser_col:List (Nat×List (Nat×AK)×Lv.Spec):=(75,[],⟨1,R07_Parser_col.si,R07_Parser_col.so,R07_Parser_col.F⟩)::spR07_Parser_table
noncomputable abbrev cR07_Parser_col:Cx:=⟨tabAt tab0,eqAt eqs0,specAt spR07_Parser_col,159,specPAt sq0⟩
theorem cxR07_Parser_col:CxOk PP cR07_Parser_col:=cxR07_Parser_table.consS [] R07_Parser_col.fn.enters R07_Parser_col.ok
def R07_Parser_agg.si:Sh:=⟨[(0,.v false [.ptr 0 0])],[(0,true,.box 95 [.sl 111 tTok,.int .i64,.bool])],[],1,[]⟩
def R07_Parser_agg.so:Sh:=⟨[(0,.v true [.int .i64,.int .i64])],[(0,true,.box 95 [.sl 111 tTok,.int .i64,.bool])],[],1001,[(0,0)]⟩
def R07_Parser_agg.h:H:=.n
noncomputable def R07_Parser_agg.B:(List tTokT)×Int×Bool×Unit→Option (Int×Int×(List tTokT)×Int×Bool×Unit):=fun (o0_0,o0_1,o0_2,_)=>
 Option.bind (R07_Parser_one.F ([(⟨#[99,111,117,110,116]⟩:ByteArray),(⟨#[115,117,109]⟩:ByteArray),(⟨#[109,105,110]⟩:ByteArray),(⟨#[109,97,120]⟩:ByteArray)],o0_0,o0_1,o0_2,())) fun y1=>
 (bif (y1.1 !=(0:Int)) then
 Option.bind (R07_Parser_col.F (y1.2.1,y1.2.2.1,y1.2.2.2.1,())) fun y2=>
 some (y1.1,y2.1,y2.2.1,y2.2.2.1,y2.2.2.2.1,())
 else
 some (y1.1,(0:Int),y1.2.1,y1.2.2.1,y1.2.2.2.1,()))
noncomputable def R07_Parser_agg.F:=stk R07_Parser_agg.B
theorem R07_Parser_agg.ev (x:TS R07_Parser_agg.si):evF cR07_Parser_col inl0 (Tryz.f77.body.getD .skip) Tryz.f77.results.toList R07_Parser_agg.h R07_Parser_agg.si R07_Parser_agg.so x=R07_Parser_agg.B x:=by kernel_rfl
theorem R07_Parser_agg.fn:FnOk PP 77 (Tryz.f77.body.getD .skip) Tryz.f77.results.toList Tryz.f77.ntmps:=fnOk_mk (by kernel_rfl) (by kernel_rfl) (by kernel_rfl) (by kernel_rfl)
theorem R07_Parser_agg.ok:SpecOk PP 77 ⟨1,R07_Parser_agg.si,R07_Parser_agg.so,R07_Parser_agg.F⟩:=fn_stk cxR07_Parser_col (inl0_ok _ _) mixed R07_Parser_agg.fn R07_Parser_agg.h (by kernel_rfl) R07_Parser_agg.ev
noncomputable def spR07_Parser_agg:List (Nat×List (Nat×AK)×Lv.Spec):=(77,[],⟨1,R07_Parser_agg.si,R07_Parser_agg.so,R07_Parser_agg.F⟩)::spR07_Parser_col
noncomputable abbrev cR07_Parser_agg:Cx:=⟨tabAt tab0,eqAt eqs0,specAt spR07_Parser_agg,159,specPAt sq0⟩
theorem cxR07_Parser_agg:CxOk PP cR07_Parser_agg:=cxR07_Parser_col.consS [] R07_Parser_agg.fn.enters R07_Parser_agg.ok
def R07_Parser_view.si:Sh:=⟨[(0,.v false [.ptr 0 0])],[(0,true,.box 95 [.sl 111 tTok,.int .i64,.bool])],[],1,[]⟩
def R07_Parser_view.so:Sh:=⟨[(0,.v true [.str,.str,.str,.int .i64,.int .i64,.ref 1001,.ref 1002,.bool,.ref 1003])],[(0,true,.box 95 [.sl 111 tTok,.int .i64,.bool]),(1001,false,.arr 78 tNode),(1002,false,.arr 3 (.int .i64)),(1003,false,.arr 66 tAgg)],[],1004,[(0,0)]⟩
def R07_Parser_view.h:H:=(.s none .n (.s none .n (.s none .n (.s none .n (.s (some ⟨[(0,.v false [.ptr 0 0]),(3,.v false [.ptr 1 0])],[(0,true,.box 95 [.sl 111 tTok,.int .i64,.bool]),(1,true,.box 36 [.str,.str,.str,.int .i64,.int .i64,.ref 2,.ref 3,.bool,.ref 4]),(2,false,.arr 78 tNode),(3,false,.arr 3 (.int .i64)),(4,false,.arr 66 tAgg)],[2],5,[]⟩) .n (.s (some ⟨[(0,.v false [.ptr 0 0]),(3,.v false [.ptr 1 0])],[(0,true,.box 95 [.sl 111 tTok,.int .i64,.bool]),(1,true,.box 36 [.str,.str,.str,.int .i64,.int .i64,.ref 2,.ref 3,.bool,.ref 4]),(2,false,.arr 78 tNode),(3,false,.arr 3 (.int .i64)),(4,false,.arr 66 tAgg)],[2],5,[]⟩) .n (.s none .n (.s (some ⟨[(0,.v false [.ptr 0 0]),(3,.v false [.ptr 1 0])],[(0,true,.box 95 [.sl 111 tTok,.int .i64,.bool]),(1,true,.box 36 [.str,.str,.str,.int .i64,.int .i64,.ref 2,.ref 3,.bool,.ref 4]),(2,false,.arr 78 tNode),(3,false,.arr 3 (.int .i64)),(4,false,.arr 66 tAgg)],[2],5,[]⟩) (.s (some ⟨[(0,.v false [.ptr 0 0]),(52,.v false [.bool])],[(0,true,.box 95 [.sl 111 tTok,.int .i64,.bool])],[2,3],1,[]⟩) .n (.c (.s none .n (.b (.l ⟨[(0,.v false [.ptr 0 0]),(3,.v false [.ptr 1 0])],[(0,true,.box 95 [.sl 111 tTok,.int .i64,.bool]),(1,true,.box 36 [.str,.str,.str,.int .i64,.int .i64,.ref 2,.ref 3,.bool,.ref 4]),(2,false,.arr 78 tNode),(3,false,.arr 3 (.int .i64)),(4,false,.arr 66 tAgg)],[2],5,[]⟩ .n))) .n)) (.s none .n (.s (some ⟨[(0,.v false [.ptr 0 0]),(3,.v false [.ptr 1 0])],[(0,true,.box 95 [.sl 111 tTok,.int .i64,.bool]),(1,true,.box 36 [.str,.str,.str,.int .i64,.int .i64,.ref 2,.ref 3,.bool,.ref 4]),(2,false,.arr 78 tNode),(3,false,.arr 3 (.int .i64)),(4,false,.arr 66 tAgg)],[2],5,[]⟩) (.s (some ⟨[(91,.v false [.bool])],[],[0,2,3],0,[]⟩) .n (.c (.s none .n (.b (.l ⟨[(0,.v false [.ptr 0 0]),(3,.v false [.ptr 1 0])],[(0,true,.box 95 [.sl 111 tTok,.int .i64,.bool]),(1,true,.box 36 [.str,.str,.str,.int .i64,.int .i64,.ref 2,.ref 3,.bool,.ref 4]),(2,false,.arr 78 tNode),(3,false,.arr 3 (.int .i64)),(4,false,.arr 66 tAgg)],[2],5,[]⟩ .n))) .n)) .n))))))))))
noncomputable def R07_Parser_view.B:(List tTokT)×Int×Bool×Unit→Option (ByteArray×ByteArray×ByteArray×Int×Int×Bool×(List tTokT)×Int×Bool×(List tNodeT)×(List Int)×(List tAggT)×Unit):=fun (o0_0,o0_1,o0_2,_)=>
 Option.bind (R07_Parser_name.F (o0_0,o0_1,o0_2,())) fun y1=>
 Option.bind (R07_Parser_need.F ((⟨#[102,114,111,109]⟩:ByteArray),y1.2.1,y1.2.2.1,y1.2.2.2.1,())) fun y2=>
 Option.bind (R07_Parser_name.F (y2.1,y2.2.1,y2.2.2.1,())) fun y3=>
 Option.bind (
 Option.bind (R07_Parser_take.F ((⟨#[106,111,105,110]⟩:ByteArray),y3.2.1,y3.2.2.1,y3.2.2.2.1,())) fun y4=>
 (bif y4.1 then
 Option.bind (R07_Parser_name.F (y4.2.1,y4.2.2.1,y4.2.2.2.1,())) fun y5=>
 Option.bind (R07_Parser_need.F ((⟨#[111,110]⟩:ByteArray),y5.2.1,y5.2.2.1,y5.2.2.2.1,())) fun y6=>
 Option.bind (R07_Parser_col.F (y6.1,y6.2.1,y6.2.2.1,())) fun y7=>
 Option.bind (R07_Parser_need.F ((⟨#[61]⟩:ByteArray),y7.2.1,y7.2.2.1,y7.2.2.2.1,())) fun y8=>
 Option.bind (R07_Parser_col.F (y8.1,y8.2.1,y8.2.2.1,())) fun y9=>
 some (.inl (y9.2.1,y9.2.2.1,y9.2.2.2.1,y1.1,y3.1,y5.1,y7.1,y9.1,false,[],[],[],()))
 else
 some (.inl (y4.2.1,y4.2.2.1,y4.2.2.2.1,y1.1,y3.1,(⟨#[]⟩:ByteArray),(0:Int),(0:Int),false,[],[],[],()))):Option (((List tTokT)×Int×Bool×ByteArray×ByteArray×ByteArray×Int×Int×Bool×(List tNodeT)×(List Int)×(List tAggT)×Unit)⊕_)) fun r10=>match r10 with
 | .inl (o0_0_0_10,o0_0_1_10,o0_0_2_10,o3_0_0_10,o3_0_1_10,o3_0_2_10,o3_0_3_10,o3_0_4_10,o3_0_7_10,o3_0_5_10,o3_0_6_10,o3_0_8_10,_)=>
 (Option.bind (
 Option.bind (R07_Parser_take.F ((⟨#[119,104,101,114,101]⟩:ByteArray),o0_0_0_10,o0_0_1_10,o0_0_2_10,())) fun y11=>
 (bif y11.1 then
 Option.bind (R07_Parser_expr.F (y11.2.1,y11.2.2.1,y11.2.2.2.1,())) fun y12=>
 some (.inl (y12.1,y12.2.1,y12.2.2.1,o3_0_0_10,o3_0_1_10,o3_0_2_10,o3_0_3_10,o3_0_4_10,o3_0_7_10,y12.2.2.2.1,o3_0_6_10,o3_0_8_10,()))
 else
 some (.inl (y11.2.1,y11.2.2.1,y11.2.2.2.1,o3_0_0_10,o3_0_1_10,o3_0_2_10,o3_0_3_10,o3_0_4_10,o3_0_7_10,o3_0_5_10,o3_0_6_10,o3_0_8_10,()))):Option (((List tTokT)×Int×Bool×ByteArray×ByteArray×ByteArray×Int×Int×Bool×(List tNodeT)×(List Int)×(List tAggT)×Unit)⊕_)) fun r13=>match r13 with
 | .inl (o0_0_0_13,o0_0_1_13,o0_0_2_13,o3_0_0_13,o3_0_1_13,o3_0_2_13,o3_0_3_13,o3_0_4_13,o3_0_7_13,o3_0_5_13,o3_0_6_13,o3_0_8_13,_)=>
 (Option.bind (R07_Parser_need.F ((⟨#[112,105,99,107]⟩:ByteArray),o0_0_0_13,o0_0_1_13,o0_0_2_13,())) fun y14=>
 Option.bind (
 Option.bind (
 (bif (decide (y14.2.1<(y14.1.length:Int))) then
 Option.bind (R07_Parser_is.F ((⟨#[103,114,111,117,112]⟩:ByteArray),y14.1,y14.2.1,y14.2.2.1,())) fun y15=>
 some (.inl ((!y15.1),y15.2.1,y15.2.2.1,y15.2.2.2.1,()))
 else
 some (.inl (false,y14.1,y14.2.1,y14.2.2.1,()))):Option ((Bool×(List tTokT)×Int×Bool×Unit)⊕_)) fun r16=>match r16 with
 | .inl (x52_16,o0_0_0_16,o0_0_1_16,o0_0_2_16,_)=>
 ((bif x52_16 then
 Option.bind (R07_Parser_col.F (o0_0_0_16,o0_0_1_16,o0_0_2_16,())) fun y17=>
 bif (Nat.ble (o3_0_6_13.length+ [y17.1].length) 17592186044416) then
 loopM (S:=(List tTokT)×Int×Bool×ByteArray×ByteArray×ByteArray×Int×Int×Bool×(List tNodeT)×(List Int)×(List tAggT)×Unit) (fun (o0_0_0,o0_0_1,o0_0_2,o3_0_0,o3_0_1,o3_0_2,o3_0_3,o3_0_4,o3_0_7,o3_0_5,o3_0_6,o3_0_8,_)=>
 (bif o0_0_2 then
 Option.bind (R07_Parser_take.F ((⟨#[44]⟩:ByteArray),o0_0_0,o0_0_1,o0_0_2,())) fun y18=>
 (bif y18.1 then
 Option.bind (R07_Parser_col.F (y18.2.1,y18.2.2.1,y18.2.2.2.1,())) fun y19=>
 bif (Nat.ble (o3_0_6.length+ [y19.1].length) 17592186044416) then
 some (.inl (y19.2.1,y19.2.2.1,y19.2.2.2.1,o3_0_0,o3_0_1,o3_0_2,o3_0_3,o3_0_4,o3_0_7,o3_0_5,(o3_0_6++ [y19.1]),o3_0_8,()))
 else none
 else
 some (.inr (.inl (y18.2.1,y18.2.2.1,y18.2.2.2.1,o3_0_0,o3_0_1,o3_0_2,o3_0_3,o3_0_4,o3_0_7,o3_0_5,o3_0_6,o3_0_8,()))))
 else
 some (.inr (.inl (o0_0_0,o0_0_1,o0_0_2,o3_0_0,o3_0_1,o3_0_2,o3_0_3,o3_0_4,o3_0_7,o3_0_5,o3_0_6,o3_0_8,()))))) (y17.2.1,y17.2.2.1,y17.2.2.2.1,o3_0_0_13,o3_0_1_13,o3_0_2_13,o3_0_3_13,o3_0_4_13,o3_0_7_13,o3_0_5_13,(o3_0_6_13++ [y17.1]),o3_0_8_13,())
 else none
 else
 some (.inl (o0_0_0_16,o0_0_1_16,o0_0_2_16,o3_0_0_13,o3_0_1_13,o3_0_2_13,o3_0_3_13,o3_0_4_13,o3_0_7_13,o3_0_5_13,o3_0_6_13,o3_0_8_13,()))))
 | .inr r=>some r:Option (((List tTokT)×Int×Bool×ByteArray×ByteArray×ByteArray×Int×Int×Bool×(List tNodeT)×(List Int)×(List tAggT)×Unit)⊕_)) fun r20=>match r20 with
 | .inl (o0_0_0_20,o0_0_1_20,o0_0_2_20,o3_0_0_20,o3_0_1_20,o3_0_2_20,o3_0_3_20,o3_0_4_20,o3_0_7_20,o3_0_5_20,o3_0_6_20,o3_0_8_20,_)=>
 (Option.bind (R07_Parser_take.F ((⟨#[103,114,111,117,112]⟩:ByteArray),o0_0_0_20,o0_0_1_20,o0_0_2_20,())) fun y21=>
 Option.bind (
 Option.bind (
 (bif y21.1 then
 some (.inl ((decide (y21.2.2.1<(y21.2.1.length:Int))),()))
 else
 some (.inl (false,()))):Option ((Bool×Unit)⊕_)) fun r22=>match r22 with
 | .inl (x91_22,_)=>
 ((bif x91_22 then
 Option.bind (R07_Parser_agg.F (y21.2.1,y21.2.2.1,y21.2.2.2.1,())) fun y23=>
 bif (Nat.ble (o3_0_8_20.length+ [(y23.1,y23.2.1)].length) 8796093022208) then
 loopM (S:=(List tTokT)×Int×Bool×ByteArray×ByteArray×ByteArray×Int×Int×Bool×(List tNodeT)×(List Int)×(List tAggT)×Unit) (fun (o0_0_0,o0_0_1,o0_0_2,o3_0_0,o3_0_1,o3_0_2,o3_0_3,o3_0_4,o3_0_7,o3_0_5,o3_0_6,o3_0_8,_)=>
 (bif o0_0_2 then
 Option.bind (R07_Parser_take.F ((⟨#[44]⟩:ByteArray),o0_0_0,o0_0_1,o0_0_2,())) fun y24=>
 (bif y24.1 then
 Option.bind (R07_Parser_agg.F (y24.2.1,y24.2.2.1,y24.2.2.2.1,())) fun y25=>
 bif (Nat.ble (o3_0_8.length+ [(y25.1,y25.2.1)].length) 8796093022208) then
 some (.inl (y25.2.2.1,y25.2.2.2.1,y25.2.2.2.2.1,o3_0_0,o3_0_1,o3_0_2,o3_0_3,o3_0_4,o3_0_7,o3_0_5,o3_0_6,(o3_0_8++ [(y25.1,y25.2.1)]),()))
 else none
 else
 some (.inr (.inl (y24.2.1,y24.2.2.1,y24.2.2.2.1,o3_0_0,o3_0_1,o3_0_2,o3_0_3,o3_0_4,o3_0_7,o3_0_5,o3_0_6,o3_0_8,()))))
 else
 some (.inr (.inl (o0_0_0,o0_0_1,o0_0_2,o3_0_0,o3_0_1,o3_0_2,o3_0_3,o3_0_4,o3_0_7,o3_0_5,o3_0_6,o3_0_8,()))))) (y23.2.2.1,y23.2.2.2.1,y23.2.2.2.2.1,o3_0_0_20,o3_0_1_20,o3_0_2_20,o3_0_3_20,o3_0_4_20,y21.1,o3_0_5_20,o3_0_6_20,(o3_0_8_20++ [(y23.1,y23.2.1)]),())
 else none
 else
 some (.inl (y21.2.1,y21.2.2.1,y21.2.2.2.1,o3_0_0_20,o3_0_1_20,o3_0_2_20,o3_0_3_20,o3_0_4_20,y21.1,o3_0_5_20,o3_0_6_20,o3_0_8_20,()))))
 | .inr r=>some r:Option (((List tTokT)×Int×Bool×ByteArray×ByteArray×ByteArray×Int×Int×Bool×(List tNodeT)×(List Int)×(List tAggT)×Unit)⊕_)) fun r26=>match r26 with
 | .inl (o0_0_0_26,o0_0_1_26,o0_0_2_26,o3_0_0_26,o3_0_1_26,o3_0_2_26,o3_0_3_26,o3_0_4_26,o3_0_7_26,o3_0_5_26,o3_0_6_26,o3_0_8_26,_)=>
 ((bif (decide ((o3_0_6_26.length:Int)>(40:Int))) then
 some (o3_0_0_26,o3_0_1_26,o3_0_2_26,o3_0_3_26,o3_0_4_26,o3_0_7_26,o0_0_0_26,o0_0_1_26,false,o3_0_5_26,o3_0_6_26,o3_0_8_26,())
 else
 (bif (decide ((o3_0_8_26.length:Int)>(40:Int))) then
 some (o3_0_0_26,o3_0_1_26,o3_0_2_26,o3_0_3_26,o3_0_4_26,o3_0_7_26,o0_0_0_26,o0_0_1_26,false,o3_0_5_26,o3_0_6_26,o3_0_8_26,())
 else
 some (o3_0_0_26,o3_0_1_26,o3_0_2_26,o3_0_3_26,o3_0_4_26,o3_0_7_26,o0_0_0_26,o0_0_1_26,o0_0_2_26,o3_0_5_26,o3_0_6_26,o3_0_8_26,()))))
 | .inr r=>some r)
 | .inr r=>some r)
 | .inr r=>some r)
 | .inr r=>some r
noncomputable def R07_Parser_view.F:=stk R07_Parser_view.B
theorem R07_Parser_view.ev (x:TS R07_Parser_view.si):evF cR07_Parser_agg inl0 (Tryz.f51.body.getD .skip) Tryz.f51.results.toList R07_Parser_view.h R07_Parser_view.si R07_Parser_view.so x=R07_Parser_view.B x:=by kernel_rfl
theorem R07_Parser_view.fn:FnOk PP 51 (Tryz.f51.body.getD .skip) Tryz.f51.results.toList Tryz.f51.ntmps:=fnOk_mk (by kernel_rfl) (by kernel_rfl) (by kernel_rfl) (by kernel_rfl)
theorem R07_Parser_view.ok:SpecOk PP 51 ⟨1,R07_Parser_view.si,R07_Parser_view.so,R07_Parser_view.F⟩:=fn_stk cxR07_Parser_agg (inl0_ok _ _) mixed R07_Parser_view.fn R07_Parser_view.h (by kernel_rfl) R07_Parser_view.ev
noncomputable def spR07_Parser_view:List (Nat×List (Nat×AK)×Lv.Spec):=(51,[],⟨1,R07_Parser_view.si,R07_Parser_view.so,R07_Parser_view.F⟩)::spR07_Parser_agg
noncomputable abbrev cR07_Parser_view:Cx:=⟨tabAt tab0,eqAt eqs0,specAt spR07_Parser_view,159,specPAt sq0⟩
theorem cxR07_Parser_view:CxOk PP cR07_Parser_view:=cxR07_Parser_agg.consS [] R07_Parser_view.fn.enters R07_Parser_view.ok
def R07_Parse.si:Sh:=⟨[(0,.v false [.str])],[],[],0,[]⟩
def R07_Parse.so:Sh:=⟨[(0,.tup [(true,[.int .i64,.str,.ref 1000,.ref 1001,.str,.str,.str,.int .i64,.int .i64,.ref 1002,.ref 1003,.bool,.ref 1004]),(false,[.int .i64])])],[(1000,false,.arr 41 tColumn),(1001,false,.arr 32 (.sl 78 tNode)),(1002,false,.arr 78 tNode),(1003,false,.arr 3 (.int .i64)),(1004,false,.arr 66 tAgg)],[],1005,[]⟩
def R07_Parse.h:H:=(.s none .n (.s none .n (.s none .n (.s none .n (.s none .n (.s (some ⟨[(6,.v false [.ptr 0 0]),(7,.v false [.ptr 1 0])],[(0,true,.box 95 [.sl 111 tTok,.int .i64,.bool]),(1,true,.box 38 [.int .i64,.str,.ref 2,.ref 3,.str,.str,.str,.int .i64,.int .i64,.ref 4,.ref 5,.bool,.ref 6]),(2,false,.arr 41 tColumn),(3,false,.arr 32 (.sl 78 tNode)),(4,false,.arr 78 tNode),(5,false,.arr 3 (.int .i64)),(6,false,.arr 66 tAgg)],[2,4],7,[]⟩) (.s (some ⟨[(32,.v false [.bool])],[],[2,4,6,7],0,[]⟩) .n .n) .n))))))
noncomputable def R07_Parse.B:ByteArray×Unit→Option (Int×ByteArray×ByteArray×ByteArray×ByteArray×Int×Int×Bool×Int×(List tColumnT)×(List (List tNodeT))×(List tNodeT)×(List Int)×(List tAggT)×Unit):=fun (p0,_)=>
 Option.bind (R06_Lex.F (p0,())) fun y1=>
 (bif (y1.1 !=(0:Int)) then
 some ((0:Int),(⟨#[]⟩:ByteArray),(⟨#[]⟩:ByteArray),(⟨#[]⟩:ByteArray),(⟨#[]⟩:ByteArray),(0:Int),(0:Int),false,y1.1,[],[],[],[],[],())
 else
 Option.bind (R07_Parser_one.F ([(⟨#[116,97,98,108,101]⟩:ByteArray),(⟨#[118,105,101,119]⟩:ByteArray)],y1.2.1,(0:Int),true,())) fun y2=>
 Option.bind (
 Option.bind (
 (bif y2.2.2.2.1 then
 some (.inl ((y2.1==(0:Int)),()))
 else
 some (.inl (false,()))):Option ((Bool×Unit)⊕_)) fun r3=>match r3 with
 | .inl (x32_3,_)=>
 ((bif x32_3 then
 Option.bind (R07_Parser_table.F (y2.2.1,y2.2.2.1,y2.2.2.2.1,())) fun y4=>
 some (.inl (y4.2.1,y4.2.2.1,y4.2.2.2.1,y2.1,y4.1,(⟨#[]⟩:ByteArray),(⟨#[]⟩:ByteArray),(⟨#[]⟩:ByteArray),(0:Int),(0:Int),false,y4.2.2.2.2.1,y4.2.2.2.2.2.1,[],[],[],()))
 else
 (bif y2.2.2.2.1 then
 Option.bind (R07_Parser_view.F (y2.2.1,y2.2.2.1,y2.2.2.2.1,())) fun y5=>
 some (.inl (y5.2.2.2.2.2.2.1,y5.2.2.2.2.2.2.2.1,y5.2.2.2.2.2.2.2.2.1,y2.1,(⟨#[]⟩:ByteArray),y5.1,y5.2.1,y5.2.2.1,y5.2.2.2.1,y5.2.2.2.2.1,y5.2.2.2.2.2.1,[],[],y5.2.2.2.2.2.2.2.2.2.1,y5.2.2.2.2.2.2.2.2.2.2.1,y5.2.2.2.2.2.2.2.2.2.2.2.1,()))
 else
 some (.inl (y2.2.1,y2.2.2.1,y2.2.2.2.1,y2.1,(⟨#[]⟩:ByteArray),(⟨#[]⟩:ByteArray),(⟨#[]⟩:ByteArray),(⟨#[]⟩:ByteArray),(0:Int),(0:Int),false,[],[],[],[],[],())))))
 | .inr r=>some r:Option (((List tTokT)×Int×Bool×Int×ByteArray×ByteArray×ByteArray×ByteArray×Int×Int×Bool×(List tColumnT)×(List (List tNodeT))×(List tNodeT)×(List Int)×(List tAggT)×Unit)⊕_)) fun r6=>match r6 with
 | .inl (o6_0_0_6,o6_0_1_6,o6_0_2_6,o7_0_0_6,o7_0_1_6,o7_0_4_6,o7_0_5_6,o7_0_6_6,o7_0_7_6,o7_0_8_6,o7_0_11_6,o7_0_2_6,o7_0_3_6,o7_0_9_6,o7_0_10_6,o7_0_12_6,_)=>
 ((bif (!o6_0_2_6) then
 some ((0:Int),(⟨#[]⟩:ByteArray),(⟨#[]⟩:ByteArray),(⟨#[]⟩:ByteArray),(⟨#[]⟩:ByteArray),(0:Int),(0:Int),false,(70:Int),[],[],[],[],[],())
 else
 (bif (decide (o6_0_1_6<(y1.2.1.length:Int))) then
 some ((0:Int),(⟨#[]⟩:ByteArray),(⟨#[]⟩:ByteArray),(⟨#[]⟩:ByteArray),(⟨#[]⟩:ByteArray),(0:Int),(0:Int),false,(70:Int),[],[],[],[],[],())
 else
 some (o7_0_0_6,o7_0_1_6,o7_0_4_6,o7_0_5_6,o7_0_6_6,o7_0_7_6,o7_0_8_6,o7_0_11_6,(0:Int),o7_0_2_6,o7_0_3_6,o7_0_9_6,o7_0_10_6,o7_0_12_6,()))))
 | .inr r=>some r)
noncomputable def R07_Parse.F:=stk R07_Parse.B
theorem R07_Parse.ev (x:TS R07_Parse.si):evF cR07_Parser_view inl0 (Tryz.f32.body.getD .skip) Tryz.f32.results.toList R07_Parse.h R07_Parse.si R07_Parse.so x=R07_Parse.B x:=by kernel_rfl
theorem R07_Parse.fn:FnOk PP 32 (Tryz.f32.body.getD .skip) Tryz.f32.results.toList Tryz.f32.ntmps:=fnOk_mk (by kernel_rfl) (by kernel_rfl) (by kernel_rfl) (by kernel_rfl)
theorem R07_Parse.ok:SpecOk PP 32 ⟨1,R07_Parse.si,R07_Parse.so,R07_Parse.F⟩:=fn_stk cxR07_Parser_view (inl0_ok _ _) mixed R07_Parse.fn R07_Parse.h (by kernel_rfl) R07_Parse.ev
noncomputable def spR07_Parse:List (Nat×List (Nat×AK)×Lv.Spec):=(32,[],⟨1,R07_Parse.si,R07_Parse.so,R07_Parse.F⟩)::spR07_Parser_view
noncomputable abbrev cR07_Parse:Cx:=⟨tabAt tab0,eqAt eqs0,specAt spR07_Parse,159,specPAt sq0⟩
theorem cxR07_Parse:CxOk PP cR07_Parse:=cxR07_Parser_view.consS [] R07_Parse.fn.enters R07_Parse.ok
def R03_Same.si:Sh:=⟨[(0,.v false [.sl 78 tNode]),(1,.v false [.sl 78 tNode])],[],[],0,[]⟩
def R03_Same.so:Sh:=⟨[(0,.v false [.bool])],[],[],1000,[]⟩
def R03_Same.h:H:=(.s none .n (.s none .n (.s none (.s none .n (.b (.l ⟨[(5,.v false [.int .i64])],[],[0,1],0,[]⟩ .n))) .n)))
noncomputable def R03_Same.B:(List tNodeT)×(List tNodeT)×Unit→Option (Bool×Unit):=fun (p0,p1,_)=>
 (bif ((p0.length:Int) !=(p1.length:Int)) then
 some (false,())
 else
 loopM (S:=Int×Unit) (fun (x5,_)=>
 (bif (decide (x5<(p0.length:Int))) then
 bif (decide (0≤x5)&&decide (x5<(p0.length:Int))) then
 let e1:tNodeT:=(List.getD p0 (Int.toNat x5) tNode.z)
 bif (decide (0≤x5)&&decide (x5<(p1.length:Int))) then
 let e2:tNodeT:=(List.getD p1 (Int.toNat x5) tNode.z)
 (bif (!(Ty.eq tNode e1 e2)) then
 some (.inr (false,()))
 else
 let e3:Int:=(IntKind.i64.wrap (x5+(1:Int)))
 some (.inl (e3,())))
 else none
 else none
 else
 some (.inr (true,())))) ((0:Int),()))
noncomputable def R03_Same.F:=stk R03_Same.B
theorem R03_Same.ev (x:TS R03_Same.si):evF cR07_Parse inl0 (Tryz.f59.body.getD .skip) Tryz.f59.results.toList R03_Same.h R03_Same.si R03_Same.so x=R03_Same.B x:=by kernel_rfl
theorem R03_Same.fn:FnOk PP 59 (Tryz.f59.body.getD .skip) Tryz.f59.results.toList Tryz.f59.ntmps:=fnOk_mk (by kernel_rfl) (by kernel_rfl) (by kernel_rfl) (by kernel_rfl)
theorem R03_Same.ok:SpecOk PP 59 ⟨2,R03_Same.si,R03_Same.so,R03_Same.F⟩:=fn_stk cxR07_Parse (inl0_ok _ _) mixed R03_Same.fn R03_Same.h (by kernel_rfl) R03_Same.ev
noncomputable def spR03_Same:List (Nat×List (Nat×AK)×Lv.Spec):=(59,[],⟨2,R03_Same.si,R03_Same.so,R03_Same.F⟩)::spR07_Parse
noncomputable abbrev cR03_Same:Cx:=⟨tabAt tab0,eqAt eqs0,specAt spR03_Same,159,specPAt sq0⟩
theorem cxR03_Same:CxOk PP cR03_Same:=cxR07_Parse.consS [] R03_Same.fn.enters R03_Same.ok
def R07_SameTable.si:Sh:=⟨[(0,.v true [.str,.sl 41 tColumn,.sl 32 (.sl 78 tNode)]),(1,.v true [.str,.sl 41 tColumn,.sl 32 (.sl 78 tNode)])],[],[],0,[]⟩
def R07_SameTable.so:Sh:=⟨[(0,.v false [.bool])],[],[],1000,[]⟩
def R07_SameTable.h:H:=(.s none .n (.s (some ⟨[],[],[2,3],0,[]⟩) .n (.s (some ⟨[],[],[2,3],0,[]⟩) (.s none .n (.b (.l ⟨[(5,.v false [.int .i64])],[],[2,3],0,[]⟩ .n))) (.s none (.s none .n (.b (.l ⟨[(6,.v false [.int .i64])],[],[2,3],0,[]⟩ .n))) .n))))
noncomputable def R07_SameTable.B:ByteArray×(List tColumnT)×(List (List tNodeT))×ByteArray×(List tColumnT)×(List (List tNodeT))×Unit→Option (Bool×Unit):=fun (p0_0,p0_1,p0_2,p1_0,p1_1,p1_2,_)=>
 Option.bind (
 (bif (!(p0_0.toList==p1_0.toList)) then
 some (.inr (false,()))
 else
 (bif ((p0_1.length:Int) !=(p1_1.length:Int)) then
 some (.inr (false,()))
 else
 (bif ((p0_2.length:Int) !=(p1_2.length:Int)) then
 some (.inr (false,()))
 else
 some (.inl (()))))):Option ((Unit)⊕_)) fun r1=>match r1 with
 | .inl (_)=>
 (Option.bind (
 loopM (S:=Int×Unit) (fun (x5,_)=>
 (bif (decide (x5<(p0_1.length:Int))) then
 bif (decide (0≤x5)&&decide (x5<(p0_1.length:Int))) then
 let e2:tColumnT:=(List.getD p0_1 (Int.toNat x5) tColumn.z)
 bif (decide (0≤x5)&&decide (x5<(p1_1.length:Int))) then
 let e3:tColumnT:=(List.getD p1_1 (Int.toNat x5) tColumn.z)
 (bif (!(Ty.eq tColumn e2 e3)) then
 some (.inr (.inr (false,())))
 else
 let e4:Int:=(IntKind.i64.wrap (x5+(1:Int)))
 some (.inl (e4,())))
 else none
 else none
 else
 some (.inr (.inl (()))))) ((0:Int),()):Option ((Unit)⊕_)) fun r5=>match r5 with
 | .inl (_)=>
 (loopM (S:=Int×Unit) (fun (x6,_)=>
 (bif (decide (x6<(p0_2.length:Int))) then
 bif (decide (0≤x6)&&decide (x6<(p0_2.length:Int))) then
 let e6:(List tNodeT):=(List.getD p0_2 (Int.toNat x6) [])
 bif (decide (0≤x6)&&decide (x6<(p1_2.length:Int))) then
 let e7:(List tNodeT):=(List.getD p1_2 (Int.toNat x6) [])
 Option.bind (R03_Same.F (e6,e7,())) fun y8=>
 (bif (!y8.1) then
 some (.inr (false,()))
 else
 let e9:Int:=(IntKind.i64.wrap (x6+(1:Int)))
 some (.inl (e9,())))
 else none
 else none
 else
 some (.inr (true,())))) ((0:Int),()))
 | .inr r=>some r)
 | .inr r=>some r
noncomputable def R07_SameTable.F:=stk R07_SameTable.B
theorem R07_SameTable.ev (x:TS R07_SameTable.si):evF cR03_Same inl0 (Tryz.f43.body.getD .skip) Tryz.f43.results.toList R07_SameTable.h R07_SameTable.si R07_SameTable.so x=R07_SameTable.B x:=by kernel_rfl
theorem R07_SameTable.fn:FnOk PP 43 (Tryz.f43.body.getD .skip) Tryz.f43.results.toList Tryz.f43.ntmps:=fnOk_mk (by kernel_rfl) (by kernel_rfl) (by kernel_rfl) (by kernel_rfl)
theorem R07_SameTable.ok:SpecOk PP 43 ⟨2,R07_SameTable.si,R07_SameTable.so,R07_SameTable.F⟩:=fn_stk cxR03_Same (inl0_ok _ _) mixed R07_SameTable.fn R07_SameTable.h (by kernel_rfl) R07_SameTable.ev
noncomputable def spR07_SameTable:List (Nat×List (Nat×AK)×Lv.Spec):=(43,[],⟨2,R07_SameTable.si,R07_SameTable.so,R07_SameTable.F⟩)::spR03_Same
noncomputable abbrev cR07_SameTable:Cx:=⟨tabAt tab0,eqAt eqs0,specAt spR07_SameTable,159,specPAt sq0⟩
theorem cxR07_SameTable:CxOk PP cR07_SameTable:=cxR03_Same.consS [] R07_SameTable.fn.enters R07_SameTable.ok
def R07_Ints.si:Sh:=⟨[(0,.v false [.sl 3 (.int .i64)]),(1,.v false [.sl 3 (.int .i64)])],[],[],0,[]⟩
def R07_Ints.so:Sh:=⟨[(0,.v false [.bool])],[],[],1000,[]⟩
def R07_Ints.h:H:=(.s none .n (.s none .n (.s none (.s none .n (.b (.l ⟨[(5,.v false [.int .i64])],[],[0,1],0,[]⟩ .n))) .n)))
noncomputable def R07_Ints.B:(List Int)×(List Int)×Unit→Option (Bool×Unit):=fun (p0,p1,_)=>
 (bif ((p0.length:Int) !=(p1.length:Int)) then
 some (false,())
 else
 loopM (S:=Int×Unit) (fun (x5,_)=>
 (bif (decide (x5<(p0.length:Int))) then
 bif (decide (0≤x5)&&decide (x5<(p0.length:Int))) then
 let e1:Int:=(List.getD p0 (Int.toNat x5) (0:Int))
 bif (decide (0≤x5)&&decide (x5<(p1.length:Int))) then
 let e2:Int:=(List.getD p1 (Int.toNat x5) (0:Int))
 (bif (e1 !=e2) then
 some (.inr (false,()))
 else
 let e3:Int:=(IntKind.i64.wrap (x5+(1:Int)))
 some (.inl (e3,())))
 else none
 else none
 else
 some (.inr (true,())))) ((0:Int),()))
noncomputable def R07_Ints.F:=stk R07_Ints.B
theorem R07_Ints.eq:R07_Ints.F=R07_Ints.B:=stk_eq _
theorem R07_Ints.ev (x:TS R07_Ints.si):evF cR07_SameTable inl0 (Tryz.f17.body.getD .skip) Tryz.f17.results.toList R07_Ints.h R07_Ints.si R07_Ints.so x=R07_Ints.B x:=by kernel_rfl
theorem R07_Ints.fn:FnOk PP 17 (Tryz.f17.body.getD .skip) Tryz.f17.results.toList Tryz.f17.ntmps:=fnOk_mk (by kernel_rfl) (by kernel_rfl) (by kernel_rfl) (by kernel_rfl)
theorem R07_Ints.ok:SpecOk PP 17 ⟨2,R07_Ints.si,R07_Ints.so,R07_Ints.F⟩:=fn_stk cxR07_SameTable (inl0_ok _ _) mixed R07_Ints.fn R07_Ints.h (by kernel_rfl) R07_Ints.ev
noncomputable def spR07_Ints:List (Nat×List (Nat×AK)×Lv.Spec):=(17,[],⟨2,R07_Ints.si,R07_Ints.so,R07_Ints.F⟩)::spR07_SameTable
noncomputable abbrev cR07_Ints:Cx:=⟨tabAt tab0,eqAt eqs0,specAt spR07_Ints,159,specPAt sq0⟩
theorem cxR07_Ints:CxOk PP cR07_Ints:=cxR07_SameTable.consS [] R07_Ints.fn.enters R07_Ints.ok
def R07_SameView.si:Sh:=⟨[(0,.v true [.str,.str,.str,.int .i64,.int .i64,.sl 78 tNode,.sl 3 (.int .i64),.bool,.sl 66 tAgg]),(1,.v true [.str,.str,.str,.int .i64,.int .i64,.sl 78 tNode,.sl 3 (.int .i64),.bool,.sl 66 tAgg])],[],[],0,[]⟩
def R07_SameView.so:Sh:=⟨[(0,.v false [.bool])],[],[],1000,[]⟩
def R07_SameView.h:H:=(.s none .n (.s none (.s (some ⟨[(63,.v false [.bool])],[],[2,3],0,[]⟩) .n .n) (.s none (.s none .n (.b (.l ⟨[(5,.v false [.int .i64])],[],[2,3],0,[]⟩ .n))) .n)))
noncomputable def R07_SameView.B:ByteArray×ByteArray×ByteArray×Int×Int×(List tNodeT)×(List Int)×Bool×(List tAggT)×ByteArray×ByteArray×ByteArray×Int×Int×(List tNodeT)×(List Int)×Bool×(List tAggT)×Unit→Option (Bool×Unit):=fun (p0_0,p0_1,p0_2,p0_3,p0_4,p0_5,p0_6,p0_7,p0_8,p1_0,p1_1,p1_2,p1_3,p1_4,p1_5,p1_6,p1_7,p1_8,_)=>
 Option.bind (
 (bif (!(p0_0.toList==p1_0.toList)) then
 some (.inl (true,()))
 else
 (bif (!(p0_1.toList==p1_1.toList)) then
 some (.inl (true,()))
 else
 (bif (!(p0_2.toList==p1_2.toList)) then
 some (.inl (true,()))
 else
 (bif (!(Ty.eq tAgg (p0_3,p0_4) (p1_3,p1_4))) then
 some (.inl (true,()))
 else
 Option.bind (R03_Same.F (p0_5,p1_5,())) fun y1=>
 (bif (!y1.1) then
 some (.inl (true,()))
 else
 Option.bind (R07_Ints.F (p0_6,p1_6,())) fun y2=>
 (bif (!y2.1) then
 some (.inl (true,()))
 else
 (bif (!(p0_7==p1_7)) then
 some (.inl (true,()))
 else
 some (.inl (((p0_8.length:Int) !=(p1_8.length:Int)),()))))))))):Option ((Bool×Unit)⊕_)) fun r3=>match r3 with
 | .inl (x63_3,_)=>
 ((bif x63_3 then
 some (false,())
 else
 loopM (S:=Int×Unit) (fun (x5,_)=>
 (bif (decide (x5<(p0_8.length:Int))) then
 bif (decide (0≤x5)&&decide (x5<(p0_8.length:Int))) then
 let e4:tAggT:=(List.getD p0_8 (Int.toNat x5) tAgg.z)
 bif (decide (0≤x5)&&decide (x5<(p1_8.length:Int))) then
 let e5:tAggT:=(List.getD p1_8 (Int.toNat x5) tAgg.z)
 (bif (!(Ty.eq tAgg e4 e5)) then
 some (.inr (false,()))
 else
 let e6:Int:=(IntKind.i64.wrap (x5+(1:Int)))
 some (.inl (e6,())))
 else none
 else none
 else
 some (.inr (true,())))) ((0:Int),())))
 | .inr r=>some r
noncomputable def R07_SameView.F:=stk R07_SameView.B
theorem R07_SameView.ev (x:TS R07_SameView.si):evF cR07_Ints inl0 (Tryz.f44.body.getD .skip) Tryz.f44.results.toList R07_SameView.h R07_SameView.si R07_SameView.so x=R07_SameView.B x:=by kernel_rfl
theorem R07_SameView.fn:FnOk PP 44 (Tryz.f44.body.getD .skip) Tryz.f44.results.toList Tryz.f44.ntmps:=fnOk_mk (by kernel_rfl) (by kernel_rfl) (by kernel_rfl) (by kernel_rfl)
theorem R07_SameView.ok:SpecOk PP 44 ⟨2,R07_SameView.si,R07_SameView.so,R07_SameView.F⟩:=fn_stk cxR07_Ints (inl0_ok _ _) mixed R07_SameView.fn R07_SameView.h (by kernel_rfl) R07_SameView.ev
noncomputable def spR07_SameView:List (Nat×List (Nat×AK)×Lv.Spec):=(44,[],⟨2,R07_SameView.si,R07_SameView.so,R07_SameView.F⟩)::spR07_Ints
noncomputable abbrev cR07_SameView:Cx:=⟨tabAt tab0,eqAt eqs0,specAt spR07_SameView,159,specPAt sq0⟩
theorem cxR07_SameView:CxOk PP cR07_SameView:=cxR07_Ints.consS [] R07_SameView.fn.enters R07_SameView.ok
def R07_Same.si:Sh:=⟨[(0,.v true [.int .i64,.str,.sl 41 tColumn,.sl 32 (.sl 78 tNode),.str,.str,.str,.int .i64,.int .i64,.sl 78 tNode,.sl 3 (.int .i64),.bool,.sl 66 tAgg]),(1,.v true [.int .i64,.str,.sl 41 tColumn,.sl 32 (.sl 78 tNode),.str,.str,.str,.int .i64,.int .i64,.sl 78 tNode,.sl 3 (.int .i64),.bool,.sl 66 tAgg])],[],[],0,[]⟩
def R07_Same.so:Sh:=⟨[(0,.v false [.bool])],[],[],1000,[]⟩
def R07_Same.h:H:=.n
noncomputable def R07_Same.B:Int×ByteArray×(List tColumnT)×(List (List tNodeT))×ByteArray×ByteArray×ByteArray×Int×Int×(List tNodeT)×(List Int)×Bool×(List tAggT)×Int×ByteArray×(List tColumnT)×(List (List tNodeT))×ByteArray×ByteArray×ByteArray×Int×Int×(List tNodeT)×(List Int)×Bool×(List tAggT)×Unit→Option (Bool×Unit):=fun (p0_0,p0_1,p0_2,p0_3,p0_4,p0_5,p0_6,p0_7,p0_8,p0_9,p0_10,p0_11,p0_12,p1_0,p1_1,p1_2,p1_3,p1_4,p1_5,p1_6,p1_7,p1_8,p1_9,p1_10,p1_11,p1_12,_)=>
 (bif (p0_0==p1_0) then
 Option.bind (R07_SameTable.F (p0_1,p0_2,p0_3,p1_1,p1_2,p1_3,())) fun y1=>
 (bif y1.1 then
 Option.bind (R07_SameView.F (p0_4,p0_5,p0_6,p0_7,p0_8,p0_9,p0_10,p0_11,p0_12,p1_4,p1_5,p1_6,p1_7,p1_8,p1_9,p1_10,p1_11,p1_12,())) fun y2=>
 some (y2.1,())
 else
 some (false,()))
 else
 some (false,()))
noncomputable def R07_Same.F:=stk R07_Same.B
theorem R07_Same.ev (x:TS R07_Same.si):evF cR07_SameView inl0 (Tryz.f29.body.getD .skip) Tryz.f29.results.toList R07_Same.h R07_Same.si R07_Same.so x=R07_Same.B x:=by kernel_rfl
theorem R07_Same.fn:FnOk PP 29 (Tryz.f29.body.getD .skip) Tryz.f29.results.toList Tryz.f29.ntmps:=fnOk_mk (by kernel_rfl) (by kernel_rfl) (by kernel_rfl) (by kernel_rfl)
theorem R07_Same.ok:SpecOk PP 29 ⟨2,R07_Same.si,R07_Same.so,R07_Same.F⟩:=fn_stk cxR07_SameView (inl0_ok _ _) mixed R07_Same.fn R07_Same.h (by kernel_rfl) R07_Same.ev
noncomputable def spR07_Same:List (Nat×List (Nat×AK)×Lv.Spec):=(29,[],⟨2,R07_Same.si,R07_Same.so,R07_Same.F⟩)::spR07_SameView
noncomputable abbrev cR07_Same:Cx:=⟨tabAt tab0,eqAt eqs0,specAt spR07_Same,159,specPAt sq0⟩
theorem cxR07_Same:CxOk PP cR07_Same:=cxR07_SameView.consS [] R07_Same.fn.enters R07_Same.ok
def R07_Print.si:Sh:=⟨[(0,.v true [.int .i64,.str,.sl 41 tColumn,.sl 32 (.sl 78 tNode),.str,.str,.str,.int .i64,.int .i64,.sl 78 tNode,.sl 3 (.int .i64),.bool,.sl 66 tAgg])],[],[],0,[]⟩
def R07_Print.so:Sh:=⟨[(0,.v false [.str])],[],[],1000,[]⟩
def R07_Print.h:H:=(.s none .n (.s none .n (.s (some ⟨[(3,.v false [.str])],[],[1],0,[]⟩) .n .n)))
noncomputable def R07_Print.B:Int×ByteArray×(List tColumnT)×(List (List tNodeT))×ByteArray×ByteArray×ByteArray×Int×Int×(List tNodeT)×(List Int)×Bool×(List tAggT)×Unit→Option (ByteArray×Unit):=fun (p0_0,p0_1,p0_2,p0_3,p0_4,p0_5,p0_6,p0_7,p0_8,p0_9,p0_10,p0_11,p0_12,_)=>
 Option.bind (R07_viewText.F (p0_4,p0_5,p0_6,p0_7,p0_8,p0_9,p0_10,p0_11,p0_12,())) fun y1=>
 Option.bind (
 (bif (p0_0==(0:Int)) then
 Option.bind (R07_tableText.F (p0_1,p0_2,p0_3,())) fun y2=>
 some (.inl (y2.1,()))
 else
 some (.inl (y1.1,()))):Option ((ByteArray×Unit)⊕_)) fun r3=>match r3 with
 | .inl (x3_3,_)=>
 ((bif (decide ((x3_3.size:Int)>(20000:Int))) then
 some ((⟨#[]⟩:ByteArray),())
 else
 Option.bind (R07_Parse.F (x3_3,())) fun y4=>
 (bif (y4.2.2.2.2.2.2.2.2.1 !=(0:Int)) then
 some ((⟨#[]⟩:ByteArray),())
 else
 Option.bind (R07_Same.F (p0_0,p0_1,p0_2,p0_3,p0_4,p0_5,p0_6,p0_7,p0_8,p0_9,p0_10,p0_11,p0_12,y4.1,y4.2.1,y4.2.2.2.2.2.2.2.2.2.1,y4.2.2.2.2.2.2.2.2.2.2.1,y4.2.2.1,y4.2.2.2.1,y4.2.2.2.2.1,y4.2.2.2.2.2.1,y4.2.2.2.2.2.2.1,y4.2.2.2.2.2.2.2.2.2.2.2.1,y4.2.2.2.2.2.2.2.2.2.2.2.2.1,y4.2.2.2.2.2.2.2.1,y4.2.2.2.2.2.2.2.2.2.2.2.2.2.1,())) fun y5=>
 (bif (!y5.1) then
 some ((⟨#[]⟩:ByteArray),())
 else
 some (x3_3,())))))
 | .inr r=>some r
noncomputable def R07_Print.F:=stk R07_Print.B
theorem R07_Print.ev (x:TS R07_Print.si):evF cR07_Same inl0 (Tryz.f21.body.getD .skip) Tryz.f21.results.toList R07_Print.h R07_Print.si R07_Print.so x=R07_Print.B x:=by kernel_rfl
theorem R07_Print.fn:FnOk PP 21 (Tryz.f21.body.getD .skip) Tryz.f21.results.toList Tryz.f21.ntmps:=fnOk_mk (by kernel_rfl) (by kernel_rfl) (by kernel_rfl) (by kernel_rfl)
theorem R07_Print.ok:SpecOk PP 21 ⟨1,R07_Print.si,R07_Print.so,R07_Print.F⟩:=fn_stk cxR07_Same (inl0_ok _ _) mixed R07_Print.fn R07_Print.h (by kernel_rfl) R07_Print.ev
noncomputable def spR07_Print:List (Nat×List (Nat×AK)×Lv.Spec):=(21,[],⟨1,R07_Print.si,R07_Print.so,R07_Print.F⟩)::spR07_Same
noncomputable abbrev cR07_Print:Cx:=⟨tabAt tab0,eqAt eqs0,specAt spR07_Print,159,specPAt sq0⟩
theorem cxR07_Print:CxOk PP cR07_Print:=cxR07_Same.consS [] R07_Print.fn.enters R07_Print.ok
def R03_Big.si:Sh:=⟨[(0,.v false [.sl 78 tNode])],[],[],0,[]⟩
def R03_Big.so:Sh:=⟨[(0,.v false [.bool])],[],[],1000,[]⟩
def R03_Big.h:H:=(.s none .n (.s (some ⟨[],[],[0],0,[]⟩) (.s none .n (.b (.l ⟨[(3,.v false [.int .i64])],[],[0],0,[]⟩ .n))) .n))
noncomputable def R03_Big.B:(List tNodeT)×Unit→Option (Bool×Unit):=fun (p0,_)=>
 Option.bind (
 loopM (S:=Int×Unit) (fun (x3,_)=>
 (bif (decide (x3<(p0.length:Int))) then
 bif (decide (0≤x3)&&decide (x3<(p0.length:Int))) then
 let e1:tNodeT:=(List.getD p0 (Int.toNat x3) tNode.z)
 (bif (decide ((e1.2.2.2.2.size:Int)>(1000:Int))) then
 some (.inr (.inr (true,())))
 else
 let e2:Int:=(IntKind.i64.wrap (x3+(1:Int)))
 some (.inl (e2,())))
 else none
 else
 some (.inr (.inl (()))))) ((0:Int),()):Option ((Unit)⊕_)) fun r3=>match r3 with
 | .inl (_)=>
 (some ((decide ((p0.length:Int)>(120:Int))),()))
 | .inr r=>some r
noncomputable def R03_Big.F:=stk R03_Big.B
theorem R03_Big.ev (x:TS R03_Big.si):evF cR07_Print inl0 (Tryz.f27.body.getD .skip) Tryz.f27.results.toList R03_Big.h R03_Big.si R03_Big.so x=R03_Big.B x:=by kernel_rfl
theorem R03_Big.fn:FnOk PP 27 (Tryz.f27.body.getD .skip) Tryz.f27.results.toList Tryz.f27.ntmps:=fnOk_mk (by kernel_rfl) (by kernel_rfl) (by kernel_rfl) (by kernel_rfl)
theorem R03_Big.ok:SpecOk PP 27 ⟨1,R03_Big.si,R03_Big.so,R03_Big.F⟩:=fn_stk cxR07_Print (inl0_ok _ _) mixed R03_Big.fn R03_Big.h (by kernel_rfl) R03_Big.ev
noncomputable def spR03_Big:List (Nat×List (Nat×AK)×Lv.Spec):=(27,[],⟨1,R03_Big.si,R03_Big.so,R03_Big.F⟩)::spR07_Print
noncomputable abbrev cR03_Big:Cx:=⟨tabAt tab0,eqAt eqs0,specAt spR03_Big,159,specPAt sq0⟩
theorem cxR03_Big:CxOk PP cR03_Big:=cxR07_Print.consS [] R03_Big.fn.enters R03_Big.ok
def R07_Big.si:Sh:=⟨[(0,.v true [.int .i64,.str,.sl 41 tColumn,.sl 32 (.sl 78 tNode),.str,.str,.str,.int .i64,.int .i64,.sl 78 tNode,.sl 3 (.int .i64),.bool,.sl 66 tAgg])],[],[],0,[]⟩
def R07_Big.so:Sh:=⟨[(0,.v false [.bool])],[],[],1000,[]⟩
def R07_Big.h:H:=(.s none .n (.s none .n (.s (some ⟨[(3,.v false [.int .i64])],[],[1],0,[]⟩) (.s none .n (.b (.l ⟨[(3,.v false [.int .i64]),(4,.v false [.int .i64])],[],[1],0,[]⟩ .n))) (.s (some ⟨[],[],[1,3],0,[]⟩) (.s none .n (.b (.l ⟨[(5,.v false [.int .i64])],[],[1,3],0,[]⟩ .n))) .n))))
noncomputable def R07_Big.B:Int×ByteArray×(List tColumnT)×(List (List tNodeT))×ByteArray×ByteArray×ByteArray×Int×Int×(List tNodeT)×(List Int)×Bool×(List tAggT)×Unit→Option (Bool×Unit):=fun (p0_0,p0_1,p0_2,p0_3,p0_4,p0_5,p0_6,p0_7,p0_8,p0_9,p0_10,p0_11,p0_12,_)=>
 let e1:Int:=(IntKind.i64.wrap ((p0_2.length:Int)+(p0_3.length:Int)))
 let e2:Int:=(IntKind.i64.wrap (e1+(p0_10.length:Int)))
 let e3:Int:=(IntKind.i64.wrap (e2+(p0_12.length:Int)))
 let e4:Int:=(IntKind.i64.wrap (e3+(p0_9.length:Int)))
 Option.bind (
 loopM (S:=Int×Int×Unit) (fun (x3,x4,_)=>
 (bif (decide (x4<(p0_3.length:Int))) then
 bif (decide (0≤x4)&&decide (x4<(p0_3.length:Int))) then
 let e5:(List tNodeT):=(List.getD p0_3 (Int.toNat x4) [])
 let e6:Int:=(IntKind.i64.wrap (x3+(e5.length:Int)))
 bif (decide (0≤x4)&&decide (x4<(p0_3.length:Int))) then
 let e7:(List tNodeT):=(List.getD p0_3 (Int.toNat x4) [])
 Option.bind (R03_Big.F (e7,())) fun y8=>
 (bif y8.1 then
 some (.inr (.inr (true,())))
 else
 let e9:Int:=(IntKind.i64.wrap (x4+(1:Int)))
 some (.inl (e6,e9,())))
 else none
 else none
 else
 some (.inr (.inl (x3,()))))) (e4,(0:Int),()):Option ((Int×Unit)⊕_)) fun r10=>match r10 with
 | .inl (x3_10,_)=>
 (Option.bind (
 loopM (S:=Int×Unit) (fun (x5,_)=>
 (bif (decide (x5<(p0_2.length:Int))) then
 bif (decide (0≤x5)&&decide (x5<(p0_2.length:Int))) then
 let e11:tColumnT:=(List.getD p0_2 (Int.toNat x5) tColumn.z)
 (bif (decide ((e11.1.size:Int)>(100:Int))) then
 some (.inr (.inr (true,())))
 else
 bif (decide (0≤x5)&&decide (x5<(p0_2.length:Int))) then
 let e12:tColumnT:=(List.getD p0_2 (Int.toNat x5) tColumn.z)
 (bif (decide ((e12.2.2.2.2.1.size:Int)>(100:Int))) then
 some (.inr (.inr (true,())))
 else
 let e13:Int:=(IntKind.i64.wrap (x5+(1:Int)))
 some (.inl (e13,())))
 else none)
 else none
 else
 some (.inr (.inl (()))))) ((0:Int),()):Option ((Unit)⊕_)) fun r14=>match r14 with
 | .inl (_)=>
 ((bif (decide (x3_10>(400:Int))) then
 some (true,())
 else
 Option.bind (R03_Big.F (p0_9,())) fun y15=>
 (bif y15.1 then
 some (true,())
 else
 (bif (decide ((p0_1.size:Int)>(100:Int))) then
 some (true,())
 else
 (bif (decide ((p0_4.size:Int)>(100:Int))) then
 some (true,())
 else
 (bif (decide ((p0_5.size:Int)>(100:Int))) then
 some (true,())
 else
 some ((decide ((p0_6.size:Int)>(100:Int))),())))))))
 | .inr r=>some r)
 | .inr r=>some r
noncomputable def R07_Big.F:=stk R07_Big.B
theorem R07_Big.ev (x:TS R07_Big.si):evF cR03_Big inl0 (Tryz.f14.body.getD .skip) Tryz.f14.results.toList R07_Big.h R07_Big.si R07_Big.so x=R07_Big.B x:=by kernel_rfl
theorem R07_Big.fn:FnOk PP 14 (Tryz.f14.body.getD .skip) Tryz.f14.results.toList Tryz.f14.ntmps:=fnOk_mk (by kernel_rfl) (by kernel_rfl) (by kernel_rfl) (by kernel_rfl)
theorem R07_Big.ok:SpecOk PP 14 ⟨1,R07_Big.si,R07_Big.so,R07_Big.F⟩:=fn_stk cxR03_Big (inl0_ok _ _) mixed R07_Big.fn R07_Big.h (by kernel_rfl) R07_Big.ev
noncomputable def spR07_Big:List (Nat×List (Nat×AK)×Lv.Spec):=(14,[],⟨1,R07_Big.si,R07_Big.so,R07_Big.F⟩)::spR03_Big
noncomputable abbrev cR07_Big:Cx:=⟨tabAt tab0,eqAt eqs0,specAt spR07_Big,159,specPAt sq0⟩
theorem cxR07_Big:CxOk PP cR07_Big:=cxR03_Big.consS [] R07_Big.fn.enters R07_Big.ok
def ddl_printer_add.si:Sh:=⟨[(0,.v false [.ptr 0 0]),(1,.v false [.sl 9 .str])],[(0,true,.box 127 [.ref 1]),(1,true,.arr 9 .str)],[],2,[]⟩
def ddl_printer_add.so:Sh:=⟨[(0,.tup [])],[(0,true,.box 127 [.ref 1001]),(1001,false,.arr 9 .str)],[],1002,[(0,0)]⟩
def ddl_printer_add.h:H:=.n
noncomputable def ddl_printer_add.B:(List ByteArray)×(List ByteArray)×Unit→Option ((List ByteArray)×Unit):=fun (p1,o0_0,_)=>
 bif (Nat.ble (o0_0.length+p1.length) 8796093022208) then
 some ((o0_0++p1),())
 else none
noncomputable def ddl_printer_add.F:=stk ddl_printer_add.B
theorem ddl_printer_add.eq:ddl_printer_add.F=ddl_printer_add.B:=stk_eq _
theorem ddl_printer_add.ev (x:TS ddl_printer_add.si):evF cR07_Big inl0 (Tryz.f95.body.getD .skip) Tryz.f95.results.toList ddl_printer_add.h ddl_printer_add.si ddl_printer_add.so x=ddl_printer_add.B x:=by kernel_rfl
theorem ddl_printer_add.fn:FnOk PP 95 (Tryz.f95.body.getD .skip) Tryz.f95.results.toList Tryz.f95.ntmps:=fnOk_mk (by kernel_rfl) (by kernel_rfl) (by kernel_rfl) (by kernel_rfl)
theorem ddl_printer_add.ok:SpecOk PP 95 ⟨2,ddl_printer_add.si,ddl_printer_add.so,ddl_printer_add.F⟩:=fn_stk cxR07_Big (inl0_ok _ _) mixed ddl_printer_add.fn ddl_printer_add.h (by kernel_rfl) ddl_printer_add.ev
noncomputable def spddl_printer_add:List (Nat×List (Nat×AK)×Lv.Spec):=(95,[],⟨2,ddl_printer_add.si,ddl_printer_add.so,ddl_printer_add.F⟩)::spR07_Big
noncomputable abbrev cddl_printer_add:Cx:=⟨tabAt tab0,eqAt eqs0,specAt spddl_printer_add,159,specPAt sq0⟩
theorem cxddl_printer_add:CxOk PP cddl_printer_add:=cxR07_Big.consS [] ddl_printer_add.fn.enters ddl_printer_add.ok
def ddl_word.si:Sh:=⟨[(0,.v false [.int .i64]),(1,.v false [.sl 9 .str])],[],[],0,[]⟩
def ddl_word.so:Sh:=⟨[(0,.v false [.str])],[],[],1000,[]⟩
def ddl_word.h:H:=.n
noncomputable def ddl_word.B:Int×(List ByteArray)×Unit→Option (ByteArray×Unit):=fun (p0,p1,_)=>
 (bif (decide (p0<(0:Int))) then
 some ((⟨#[33]⟩:ByteArray),())
 else
 (bif (decide (p0≥(p1.length:Int))) then
 some ((⟨#[33]⟩:ByteArray),())
 else
 bif (decide (0≤p0)&&decide (p0<(p1.length:Int))) then
 let e1:ByteArray:=(List.getD p1 (Int.toNat p0) (⟨#[]⟩:ByteArray))
 some (e1,())
 else none))
noncomputable def ddl_word.F:=stk ddl_word.B
theorem ddl_word.eq:ddl_word.F=ddl_word.B:=stk_eq _
theorem ddl_word.ev (x:TS ddl_word.si):evF cddl_printer_add inl0 (Tryz.f98.body.getD .skip) Tryz.f98.results.toList ddl_word.h ddl_word.si ddl_word.so x=ddl_word.B x:=by kernel_rfl
theorem ddl_word.fn:FnOk PP 98 (Tryz.f98.body.getD .skip) Tryz.f98.results.toList Tryz.f98.ntmps:=fnOk_mk (by kernel_rfl) (by kernel_rfl) (by kernel_rfl) (by kernel_rfl)
theorem ddl_word.ok:SpecOk PP 98 ⟨2,ddl_word.si,ddl_word.so,ddl_word.F⟩:=fn_stk cxddl_printer_add (inl0_ok _ _) mixed ddl_word.fn ddl_word.h (by kernel_rfl) ddl_word.ev
noncomputable def spddl_word:List (Nat×List (Nat×AK)×Lv.Spec):=(98,[],⟨2,ddl_word.si,ddl_word.so,ddl_word.F⟩)::spddl_printer_add
noncomputable abbrev cddl_word:Cx:=⟨tabAt tab0,eqAt eqs0,specAt spddl_word,159,specPAt sq0⟩
theorem cxddl_word:CxOk PP cddl_word:=cxddl_printer_add.consS [] ddl_word.fn.enters ddl_word.ok
def ddl_printer_addIf.si:Sh:=⟨[(0,.v false [.ptr 0 0]),(1,.v false [.bool]),(2,.v false [.sl 9 .str])],[(0,true,.box 127 [.ref 1]),(1,true,.arr 9 .str)],[],2,[]⟩
def ddl_printer_addIf.so:Sh:=⟨[(0,.tup [])],[(0,true,.box 127 [.ref 1001]),(1001,false,.arr 9 .str)],[],1002,[(0,0)]⟩
def ddl_printer_addIf.h:H:=.n
noncomputable def ddl_printer_addIf.B:Bool×(List ByteArray)×(List ByteArray)×Unit→Option ((List ByteArray)×Unit):=fun (p1,p2,o0_0,_)=>
 (bif p1 then
 Option.bind (ddl_printer_add.F (p2,o0_0,())) fun y1=>
 some (y1.1,())
 else
 some (o0_0,()))
noncomputable def ddl_printer_addIf.F:=stk ddl_printer_addIf.B
theorem ddl_printer_addIf.eq:ddl_printer_addIf.F=ddl_printer_addIf.B:=stk_eq _
theorem ddl_printer_addIf.ev (x:TS ddl_printer_addIf.si):evF cddl_word inl0 (Tryz.f99.body.getD .skip) Tryz.f99.results.toList ddl_printer_addIf.h ddl_printer_addIf.si ddl_printer_addIf.so x=ddl_printer_addIf.B x:=by kernel_rfl
theorem ddl_printer_addIf.fn:FnOk PP 99 (Tryz.f99.body.getD .skip) Tryz.f99.results.toList Tryz.f99.ntmps:=fnOk_mk (by kernel_rfl) (by kernel_rfl) (by kernel_rfl) (by kernel_rfl)
theorem ddl_printer_addIf.ok:SpecOk PP 99 ⟨3,ddl_printer_addIf.si,ddl_printer_addIf.so,ddl_printer_addIf.F⟩:=fn_stk cxddl_word (inl0_ok _ _) mixed ddl_printer_addIf.fn ddl_printer_addIf.h (by kernel_rfl) ddl_printer_addIf.ev
noncomputable def spddl_printer_addIf:List (Nat×List (Nat×AK)×Lv.Spec):=(99,[],⟨3,ddl_printer_addIf.si,ddl_printer_addIf.so,ddl_printer_addIf.F⟩)::spddl_word
noncomputable abbrev cddl_printer_addIf:Cx:=⟨tabAt tab0,eqAt eqs0,specAt spddl_printer_addIf,159,specPAt sq0⟩
theorem cxddl_printer_addIf:CxOk PP cddl_printer_addIf:=cxddl_word.consS [] ddl_printer_addIf.fn.enters ddl_printer_addIf.ok
def strconv_Itoa.si:Sh:=⟨[(0,.v false [.int .i64])],[],[],0,[]⟩
def strconv_Itoa.so:Sh:=⟨[(0,.v false [.str])],[],[],1000,[]⟩
noncomputable def strconv_Itoa.B:TS strconv_Itoa.si→Option (TS strconv_Itoa.so):=itoaF
noncomputable def strconv_Itoa.F:=stk strconv_Itoa.B
theorem strconv_Itoa.eq:strconv_Itoa.F=strconv_Itoa.B:=stk_eq _
theorem strconv_Itoa.ok:SpecOk PP 101 ⟨1,strconv_Itoa.si,strconv_Itoa.so,strconv_Itoa.F⟩:=by
 rw [strconv_Itoa.eq]
 exact itoa_ok
theorem strconv_Itoa.en:Lv.Enters PP 101:=⟨_,Tryz.func101,by kernel_rfl,by decide⟩
noncomputable def spstrconv_Itoa:List (Nat×List (Nat×AK)×Lv.Spec):=(101,[],⟨1,strconv_Itoa.si,strconv_Itoa.so,strconv_Itoa.F⟩)::spddl_printer_addIf
noncomputable abbrev cstrconv_Itoa:Cx:=⟨tabAt tab0,eqAt eqs0,specAt spstrconv_Itoa,159,specPAt sq0⟩
theorem cxstrconv_Itoa:CxOk PP cstrconv_Itoa:=cxddl_printer_addIf.consS [] strconv_Itoa.en strconv_Itoa.ok
def lex_of.si:Sh:=⟨[(0,.v false [.int .u8])],[],[],0,[]⟩
def lex_of.so:Sh:=⟨[(0,.v false [.int .i64])],[],[],1000,[]⟩
def lex_of.h:H:=(.s none .n (.s none (.b (.s (some ⟨[(3,.v false [.bool])],[],[0],0,[]⟩) .n (.c .n (.s (some ⟨[(10,.v false [.bool])],[],[0],0,[]⟩) .n .n)))) .n))
noncomputable def lex_of.B:Int×Unit→Option (Int×Unit):=fun (p0,_)=>
 Option.bind (
 (bif (decide (p0≥(97:Int))) then
 some (.inl ((decide (p0≤(122:Int))),()))
 else
 some (.inl (false,()))):Option ((Bool×Unit)⊕_)) fun r1=>match r1 with
 | .inl (x3_1,_)=>
 ((bif x3_1 then
 some ((1:Int),())
 else
 Option.bind (
 (bif (decide (p0≥(48:Int))) then
 some (.inl ((decide (p0≤(57:Int))),()))
 else
 some (.inl (false,()))):Option ((Bool×Unit)⊕_)) fun r2=>match r2 with
 | .inl (x10_2,_)=>
 ((bif x10_2 then
 some ((2:Int),())
 else
 (bif (p0==(95:Int)) then
 some ((3:Int),())
 else
 (bif (p0==(39:Int)) then
 some ((4:Int),())
 else
 (bif (p0==(32:Int)) then
 some ((5:Int),())
 else
 some ((0:Int),()))))))
 | .inr r=>some r))
 | .inr r=>some r
noncomputable def lex_of.F:=stk lex_of.B
theorem lex_of.eq:lex_of.F=lex_of.B:=stk_eq _
theorem lex_of.ev (x:TS lex_of.si):evF cstrconv_Itoa inl0 (Tryz.f155.body.getD .skip) Tryz.f155.results.toList lex_of.h lex_of.si lex_of.so x=lex_of.B x:=by kernel_rfl
theorem lex_of.fn:FnOk PP 155 (Tryz.f155.body.getD .skip) Tryz.f155.results.toList Tryz.f155.ntmps:=fnOk_mk (by kernel_rfl) (by kernel_rfl) (by kernel_rfl) (by kernel_rfl)
theorem lex_of.ok:SpecOk PP 155 ⟨1,lex_of.si,lex_of.so,lex_of.F⟩:=fn_stk cxstrconv_Itoa (inl0_ok _ _) mixed lex_of.fn lex_of.h (by kernel_rfl) lex_of.ev
noncomputable def splex_of:List (Nat×List (Nat×AK)×Lv.Spec):=(155,[],⟨1,lex_of.si,lex_of.so,lex_of.F⟩)::spstrconv_Itoa
noncomputable abbrev clex_of:Cx:=⟨tabAt tab0,eqAt eqs0,specAt splex_of,159,specPAt sq0⟩
theorem cxlex_of:CxOk PP clex_of:=cxstrconv_Itoa.consS [] lex_of.fn.enters lex_of.ok
def lex_scanner_run.si:Sh:=⟨[(0,.v false [.ptr 0 0]),(1,.v false [.sl 183 (.int .i64)])],[(0,true,.box 181 [.str,.int .i64])],[],1,[]⟩
def lex_scanner_run.so:Sh:=⟨[(0,.v false [.str])],[(0,true,.box 181 [.str,.int .i64])],[],1001,[(0,0)]⟩
def lex_scanner_run.h:H:=(.s none .n (.s none .n (.s (some ⟨[(0,.v false [.ptr 0 0])],[(0,true,.box 181 [.str,.int .i64])],[5],1,[]⟩) (.b (.l ⟨[(0,.v false [.ptr 0 0])],[(0,true,.box 181 [.str,.int .i64])],[1,5],1,[]⟩ (.s none .n (.b (.s none .n (.s none .n (.s (some ⟨[(7,.v false [.bool])],[],[0,1,5],0,[]⟩) (.s none .n (.b (.l ⟨[(7,.v false [.bool]),(36,.v false [.int .i64])],[],[0,1,5,6,34,35],0,[]⟩ .n))) .n))))))) .n)))
noncomputable def lex_scanner_run.B:(List Int)×ByteArray×Int×Unit→Option (ByteArray×ByteArray×Int×Unit):=fun (p1,o0_0,o0_1,_)=>
 Option.bind (
 loopM (S:=ByteArray×Int×Unit) (fun (o0_0_0,o0_0_1,_)=>
 (bif (decide (o0_0_1<(o0_0_0.size:Int))) then
 bif (decide (0≤o0_0_1)&&decide (o0_0_1<(o0_0_0.size:Int))) then
 let e1:Int:=(byteAt o0_0_0 (Int.toNat o0_0_1))
 Option.bind (lex_of.F (e1,())) fun y2=>
 Option.bind (
 loopM (S:=Bool×Int×Unit) (fun (x7',x36',_)=>
 (bif (decide (x36'<(p1.length:Int))) then
 bif (decide (0≤x36')&&decide (x36'<(p1.length:Int))) then
 let e3:Int:=(List.getD p1 (Int.toNat x36') (0:Int))
 (bif x7' then
 let e4:Int:=(IntKind.i64.wrap (x36'+(1:Int)))
 some (.inl (true,e4,()))
 else
 let e5:Int:=(IntKind.i64.wrap (x36'+(1:Int)))
 some (.inl ((e3==y2.1),e5,())))
 else none
 else
 some (.inr (.inl (x7',()))))) (false,(0:Int),()):Option ((Bool×Unit)⊕_)) fun r6=>match r6 with
 | .inl (x7_6,_)=>
 ((bif (!x7_6) then
 some (.inr (.inl (o0_0_0,o0_0_1,())))
 else
 let e7:Int:=(IntKind.i64.wrap (o0_0_1+(1:Int)))
 some (.inl (o0_0_0,e7,()))))
 | .inr r=>some r
 else none
 else
 some (.inr (.inl (o0_0_0,o0_0_1,()))))) (o0_0,o0_1,()):Option ((ByteArray×Int×Unit)⊕_)) fun r8=>match r8 with
 | .inl (o0_0_0_8,o0_0_1_8,_)=>
 (bif (decide (0≤o0_1)&&(decide (o0_1≤o0_0_1_8)&&decide (o0_0_1_8≤(o0_0_0_8.size:Int)))) then
 let e9:ByteArray:=(o0_0_0_8.extract (Int.toNat o0_1) (Int.toNat o0_0_1_8))
 some (e9,o0_0_0_8,o0_0_1_8,())
 else none)
 | .inr r=>some r
noncomputable def lex_scanner_run.F:=stk lex_scanner_run.B
theorem lex_scanner_run.eq:lex_scanner_run.F=lex_scanner_run.B:=stk_eq _
theorem lex_scanner_run.ev (x:TS lex_scanner_run.si):evF clex_of inl0 (Tryz.f132.body.getD .skip) Tryz.f132.results.toList lex_scanner_run.h lex_scanner_run.si lex_scanner_run.so x=lex_scanner_run.B x:=by kernel_rfl
theorem lex_scanner_run.fn:FnOk PP 132 (Tryz.f132.body.getD .skip) Tryz.f132.results.toList Tryz.f132.ntmps:=fnOk_mk (by kernel_rfl) (by kernel_rfl) (by kernel_rfl) (by kernel_rfl)
theorem lex_scanner_run.ok:SpecOk PP 132 ⟨2,lex_scanner_run.si,lex_scanner_run.so,lex_scanner_run.F⟩:=fn_stk cxlex_of (inl0_ok _ _) mixed lex_scanner_run.fn lex_scanner_run.h (by kernel_rfl) lex_scanner_run.ev
noncomputable def splex_scanner_run:List (Nat×List (Nat×AK)×Lv.Spec):=(132,[],⟨2,lex_scanner_run.si,lex_scanner_run.so,lex_scanner_run.F⟩)::splex_of
noncomputable abbrev clex_scanner_run:Cx:=⟨tabAt tab0,eqAt eqs0,specAt splex_scanner_run,159,specPAt sq0⟩
theorem cxlex_scanner_run:CxOk PP clex_scanner_run:=cxlex_of.consS [] lex_scanner_run.fn.enters lex_scanner_run.ok
def lex_Word.si:Sh:=⟨[(0,.v false [.str])],[],[],0,[]⟩
def lex_Word.so:Sh:=⟨[(0,.v false [.bool])],[],[],1000,[]⟩
def lex_Word.h:H:=(.s none .n (.s (some ⟨[],[],[0],0,[]⟩) .n .n))
noncomputable def lex_Word.B:ByteArray×Unit→Option (Bool×Unit):=fun (p0,_)=>
 Option.bind (
 (bif (p0.toList==(⟨#[]⟩:ByteArray).toList) then
 some (.inr (false,()))
 else
 (bif (decide ((p0.size:Int)>(30:Int))) then
 some (.inr (false,()))
 else
 bif (decide (0≤(0:Int))&&decide ((0:Int)<(p0.size:Int))) then
 let e1:Int:=(byteAt p0 0)
 Option.bind (lex_of.F (e1,())) fun y2=>
 (bif (y2.1 !=(1:Int)) then
 some (.inr (false,()))
 else
 some (.inl (())))
 else none)):Option ((Unit)⊕_)) fun r3=>match r3 with
 | .inl (_)=>
 (Option.bind (lex_scanner_run.F ([(1:Int),(2:Int),(3:Int)],p0,(0:Int),())) fun y4=>
 some ((y4.1.toList==p0.toList),()))
 | .inr r=>some r
noncomputable def lex_Word.F:=stk lex_Word.B
theorem lex_Word.eq:lex_Word.F=lex_Word.B:=stk_eq _
theorem lex_Word.ev (x:TS lex_Word.si):evF clex_scanner_run inl0 (Tryz.f165.body.getD .skip) Tryz.f165.results.toList lex_Word.h lex_Word.si lex_Word.so x=lex_Word.B x:=by kernel_rfl
theorem lex_Word.fn:FnOk PP 165 (Tryz.f165.body.getD .skip) Tryz.f165.results.toList Tryz.f165.ntmps:=fnOk_mk (by kernel_rfl) (by kernel_rfl) (by kernel_rfl) (by kernel_rfl)
theorem lex_Word.ok:SpecOk PP 165 ⟨1,lex_Word.si,lex_Word.so,lex_Word.F⟩:=fn_stk cxlex_scanner_run (inl0_ok _ _) mixed lex_Word.fn lex_Word.h (by kernel_rfl) lex_Word.ev
noncomputable def splex_Word:List (Nat×List (Nat×AK)×Lv.Spec):=(165,[],⟨1,lex_Word.si,lex_Word.so,lex_Word.F⟩)::splex_scanner_run
noncomputable abbrev clex_Word:Cx:=⟨tabAt tab0,eqAt eqs0,specAt splex_Word,159,specPAt sq0⟩
theorem cxlex_Word:CxOk PP clex_Word:=cxlex_scanner_run.consS [] lex_Word.fn.enters lex_Word.ok
def value_May.si:Sh:=⟨[(0,.v true [.int .i64,.int .i64,.str])],[],[],0,[]⟩
def value_May.so:Sh:=⟨[(0,.v false [.bool])],[],[],1000,[]⟩
def value_May.h:H:=.n
noncomputable def value_May.B:Int×Int×ByteArray×Unit→Option (Bool×Unit):=fun (p0_0,p0_1,p0_2,_)=>
 (bif (p0_0==(0:Int)) then
 some ((Ty.eq tValue (p0_0,(p0_1,p0_2)) ((0:Int),((0:Int),(⟨#[]⟩:ByteArray)))),())
 else
 (bif (p0_0==(1:Int)) then
 (bif (p0_1==(0:Int)) then
 some ((p0_2.toList==(⟨#[]⟩:ByteArray).toList),())
 else
 (bif (p0_1==(1:Int)) then
 some ((p0_2.toList==(⟨#[]⟩:ByteArray).toList),())
 else
 some (false,())))
 else
 (bif (p0_0==(2:Int)) then
 some ((p0_2.toList==(⟨#[]⟩:ByteArray).toList),())
 else
 (bif (p0_0==(3:Int)) then
 (bif (p0_1==(0:Int)) then
 some ((decide ((p0_2.size:Int)≤(1000:Int))),())
 else
 some (false,()))
 else
 some (false,())))))
noncomputable def value_May.F:=stk value_May.B
theorem value_May.eq:value_May.F=value_May.B:=stk_eq _
theorem value_May.ev (x:TS value_May.si):evF clex_Word inl0 (Tryz.f147.body.getD .skip) Tryz.f147.results.toList value_May.h value_May.si value_May.so x=value_May.B x:=by kernel_rfl
theorem value_May.fn:FnOk PP 147 (Tryz.f147.body.getD .skip) Tryz.f147.results.toList Tryz.f147.ntmps:=fnOk_mk (by kernel_rfl) (by kernel_rfl) (by kernel_rfl) (by kernel_rfl)
theorem value_May.ok:SpecOk PP 147 ⟨1,value_May.si,value_May.so,value_May.F⟩:=fn_stk cxlex_Word (inl0_ok _ _) mixed value_May.fn value_May.h (by kernel_rfl) value_May.ev
noncomputable def spvalue_May:List (Nat×List (Nat×AK)×Lv.Spec):=(147,[],⟨1,value_May.si,value_May.so,value_May.F⟩)::splex_Word
noncomputable abbrev cvalue_May:Cx:=⟨tabAt tab0,eqAt eqs0,specAt spvalue_May,159,specPAt sq0⟩
theorem cxvalue_May:CxOk PP cvalue_May:=cxlex_Word.consS [] value_May.fn.enters value_May.ok
def strings_Contains.si:Sh:=⟨[(0,.v false [.str]),(1,.v false [.str])],[],[],0,[]⟩
def strings_Contains.so:Sh:=⟨[(0,.v false [.bool])],[],[],1000,[]⟩
noncomputable def strings_Contains.B:TS strings_Contains.si→Option (TS strings_Contains.so):=containsF
noncomputable def strings_Contains.F:=stk strings_Contains.B
theorem strings_Contains.eq:strings_Contains.F=strings_Contains.B:=stk_eq _
theorem strings_Contains.ok:SpecOk PP 160 ⟨2,strings_Contains.si,strings_Contains.so,strings_Contains.F⟩:=by
 rw [strings_Contains.eq]
 exact contains_ok
theorem strings_Contains.en:Lv.Enters PP 160:=⟨_,Tryz.func160,by kernel_rfl,by decide⟩
noncomputable def spstrings_Contains:List (Nat×List (Nat×AK)×Lv.Spec):=(160,[],⟨2,strings_Contains.si,strings_Contains.so,strings_Contains.F⟩)::spvalue_May
noncomputable abbrev cstrings_Contains:Cx:=⟨tabAt tab0,eqAt eqs0,specAt spstrings_Contains,159,specPAt sq0⟩
theorem cxstrings_Contains:CxOk PP cstrings_Contains:=cxvalue_May.consS [] strings_Contains.en strings_Contains.ok
def lex_May.si:Sh:=⟨[(0,.v true [.int .i64,.str,.int .i64,.int .i64,.str])],[],[],0,[]⟩
def lex_May.so:Sh:=⟨[(0,.v false [.bool])],[],[],1000,[]⟩
def lex_May.h:H:=.n
noncomputable def lex_May.B:Int×ByteArray×Int×Int×ByteArray×Unit→Option (Bool×Unit):=fun (p0_0,p0_1,p0_2,p0_3,p0_4,_)=>
 (bif (p0_0==(0:Int)) then
 Option.bind (lex_Word.F (p0_1,())) fun y1=>
 (bif y1.1 then
 some ((Ty.eq tValue (p0_2,(p0_3,p0_4)) ((0:Int),((0:Int),(⟨#[]⟩:ByteArray)))),())
 else
 some (false,()))
 else
 (bif (p0_0==(1:Int)) then
 (bif (p0_1.toList==(⟨#[]⟩:ByteArray).toList) then
 Option.bind (value_May.F (p0_2,p0_3,p0_4,())) fun y2=>
 (bif y2.1 then
 some ((decide (p0_2≥(2:Int))),())
 else
 some (false,()))
 else
 some (false,()))
 else
 (bif (p0_0==(2:Int)) then
 (bif ((p0_1.size:Int)==(1:Int)) then
 Option.bind (strings_Contains.F ((⟨#[40,41,91,93,44,61,60,43,45,42,63]⟩:ByteArray),p0_1,())) fun y3=>
 (bif y3.1 then
 some ((Ty.eq tValue (p0_2,(p0_3,p0_4)) ((0:Int),((0:Int),(⟨#[]⟩:ByteArray)))),())
 else
 some (false,()))
 else
 some (false,()))
 else
 some (false,()))))
noncomputable def lex_May.F:=stk lex_May.B
theorem lex_May.eq:lex_May.F=lex_May.B:=stk_eq _
theorem lex_May.ev (x:TS lex_May.si):evF cstrings_Contains inl0 (Tryz.f150.body.getD .skip) Tryz.f150.results.toList lex_May.h lex_May.si lex_May.so x=lex_May.B x:=by kernel_rfl
theorem lex_May.fn:FnOk PP 150 (Tryz.f150.body.getD .skip) Tryz.f150.results.toList Tryz.f150.ntmps:=fnOk_mk (by kernel_rfl) (by kernel_rfl) (by kernel_rfl) (by kernel_rfl)
theorem lex_May.ok:SpecOk PP 150 ⟨1,lex_May.si,lex_May.so,lex_May.F⟩:=fn_stk cxstrings_Contains (inl0_ok _ _) mixed lex_May.fn lex_May.h (by kernel_rfl) lex_May.ev
noncomputable def splex_May:List (Nat×List (Nat×AK)×Lv.Spec):=(150,[],⟨1,lex_May.si,lex_May.so,lex_May.F⟩)::spstrings_Contains
noncomputable abbrev clex_May:Cx:=⟨tabAt tab0,eqAt eqs0,specAt splex_May,159,specPAt sq0⟩
theorem cxlex_May:CxOk PP clex_May:=cxstrings_Contains.consS [] lex_May.fn.enters lex_May.ok
def internal_strconv_FormatBool.si:Sh:=⟨[(0,.v false [.bool])],[],[],0,[]⟩
def internal_strconv_FormatBool.so:Sh:=⟨[(0,.v false [.str])],[],[],1000,[]⟩
def internal_strconv_FormatBool.h:H:=.n
noncomputable def internal_strconv_FormatBool.B:Bool×Unit→Option (ByteArray×Unit):=fun (p0,_)=>
 (bif p0 then
 some ((⟨#[116,114,117,101]⟩:ByteArray),())
 else
 some ((⟨#[102,97,108,115,101]⟩:ByteArray),()))
noncomputable def internal_strconv_FormatBool.F:=stk internal_strconv_FormatBool.B
theorem internal_strconv_FormatBool.ev (x:TS internal_strconv_FormatBool.si):evF clex_May inl0 (Tryz.f190.body.getD .skip) Tryz.f190.results.toList internal_strconv_FormatBool.h internal_strconv_FormatBool.si internal_strconv_FormatBool.so x=internal_strconv_FormatBool.B x:=by kernel_rfl
theorem internal_strconv_FormatBool.fn:FnOk PP 190 (Tryz.f190.body.getD .skip) Tryz.f190.results.toList Tryz.f190.ntmps:=fnOk_mk (by kernel_rfl) (by kernel_rfl) (by kernel_rfl) (by kernel_rfl)
theorem internal_strconv_FormatBool.ok:SpecOk PP 190 ⟨1,internal_strconv_FormatBool.si,internal_strconv_FormatBool.so,internal_strconv_FormatBool.F⟩:=fn_stk cxlex_May (inl0_ok _ _) mixed internal_strconv_FormatBool.fn internal_strconv_FormatBool.h (by kernel_rfl) internal_strconv_FormatBool.ev
noncomputable def spinternal_strconv_FormatBool:List (Nat×List (Nat×AK)×Lv.Spec):=(190,[],⟨1,internal_strconv_FormatBool.si,internal_strconv_FormatBool.so,internal_strconv_FormatBool.F⟩)::splex_May
noncomputable abbrev cinternal_strconv_FormatBool:Cx:=⟨tabAt tab0,eqAt eqs0,specAt spinternal_strconv_FormatBool,159,specPAt sq0⟩
theorem cxinternal_strconv_FormatBool:CxOk PP cinternal_strconv_FormatBool:=cxlex_May.consS [] internal_strconv_FormatBool.fn.enters internal_strconv_FormatBool.ok
def strconv_FormatBool.si:Sh:=⟨[(0,.v false [.bool])],[],[],0,[]⟩
def strconv_FormatBool.so:Sh:=⟨[(0,.v false [.str])],[],[],1000,[]⟩
def strconv_FormatBool.h:H:=.n
noncomputable def strconv_FormatBool.B:Bool×Unit→Option (ByteArray×Unit):=fun (p0,_)=>
 Option.bind (internal_strconv_FormatBool.F (p0,())) fun y1=>
 some (y1.1,())
noncomputable def strconv_FormatBool.F:=stk strconv_FormatBool.B
theorem strconv_FormatBool.ev (x:TS strconv_FormatBool.si):evF cinternal_strconv_FormatBool inl0 (Tryz.f178.body.getD .skip) Tryz.f178.results.toList strconv_FormatBool.h strconv_FormatBool.si strconv_FormatBool.so x=strconv_FormatBool.B x:=by kernel_rfl
theorem strconv_FormatBool.fn:FnOk PP 178 (Tryz.f178.body.getD .skip) Tryz.f178.results.toList Tryz.f178.ntmps:=fnOk_mk (by kernel_rfl) (by kernel_rfl) (by kernel_rfl) (by kernel_rfl)
theorem strconv_FormatBool.ok:SpecOk PP 178 ⟨1,strconv_FormatBool.si,strconv_FormatBool.so,strconv_FormatBool.F⟩:=fn_stk cxinternal_strconv_FormatBool (inl0_ok _ _) mixed strconv_FormatBool.fn strconv_FormatBool.h (by kernel_rfl) strconv_FormatBool.ev
noncomputable def spstrconv_FormatBool:List (Nat×List (Nat×AK)×Lv.Spec):=(178,[],⟨1,strconv_FormatBool.si,strconv_FormatBool.so,strconv_FormatBool.F⟩)::spinternal_strconv_FormatBool
noncomputable abbrev cstrconv_FormatBool:Cx:=⟨tabAt tab0,eqAt eqs0,specAt spstrconv_FormatBool,159,specPAt sq0⟩
theorem cxstrconv_FormatBool:CxOk PP cstrconv_FormatBool:=cxinternal_strconv_FormatBool.consS [] strconv_FormatBool.fn.enters strconv_FormatBool.ok
def strings_ReplaceAll.si:Sh:=⟨[(0,.v false [.str]),(1,.v false [.str]),(2,.v false [.str])],[],[],0,[]⟩
def strings_ReplaceAll.so:Sh:=⟨[(0,.v false [.str])],[],[],1000,[]⟩
noncomputable def strings_ReplaceAll.B:TS strings_ReplaceAll.si→Option (TS strings_ReplaceAll.so):=replaceF
noncomputable def strings_ReplaceAll.F:=stk strings_ReplaceAll.B
theorem strings_ReplaceAll.eq:strings_ReplaceAll.F=strings_ReplaceAll.B:=stk_eq _
theorem strings_ReplaceAll.ok:SpecOk PP 179 ⟨3,strings_ReplaceAll.si,strings_ReplaceAll.so,strings_ReplaceAll.F⟩:=by
 rw [strings_ReplaceAll.eq]
 exact replace_ok
theorem strings_ReplaceAll.en:Lv.Enters PP 179:=⟨_,Tryz.func179,by kernel_rfl,by decide⟩
noncomputable def spstrings_ReplaceAll:List (Nat×List (Nat×AK)×Lv.Spec):=(179,[],⟨3,strings_ReplaceAll.si,strings_ReplaceAll.so,strings_ReplaceAll.F⟩)::spstrconv_FormatBool
noncomputable abbrev cstrings_ReplaceAll:Cx:=⟨tabAt tab0,eqAt eqs0,specAt spstrings_ReplaceAll,159,specPAt sq0⟩
theorem cxstrings_ReplaceAll:CxOk PP cstrings_ReplaceAll:=cxstrconv_FormatBool.consS [] strings_ReplaceAll.en strings_ReplaceAll.ok
def value_Text.si:Sh:=⟨[(0,.v true [.int .i64,.int .i64,.str])],[],[],0,[]⟩
def value_Text.so:Sh:=⟨[(0,.v false [.str])],[],[],1000,[]⟩
def value_Text.h:H:=.n
noncomputable def value_Text.B:Int×Int×ByteArray×Unit→Option (ByteArray×Unit):=fun (p0_0,p0_1,p0_2,_)=>
 (bif (p0_0==(0:Int)) then
 some ((⟨#[110,117,108,108]⟩:ByteArray),())
 else
 (bif (p0_0==(1:Int)) then
 Option.bind (strconv_FormatBool.F ((p0_1 !=(0:Int)),())) fun y1=>
 some (y1.1,())
 else
 (bif (p0_0==(2:Int)) then
 Option.bind (strconv_Itoa.F (p0_1,())) fun y2=>
 some (y2.1,())
 else
 (bif (p0_0==(3:Int)) then
 Option.bind (strings_ReplaceAll.F (p0_2,(⟨#[39]⟩:ByteArray),(⟨#[39,39]⟩:ByteArray),())) fun y3=>
 bif (!decide ((((⟨#[39]⟩:ByteArray).size+y3.1.size:Nat):Int)>IntKind.i64.max)) then
 let e4:ByteArray:=((⟨#[39]⟩:ByteArray)++y3.1)
 bif (!decide (((e4.size+(⟨#[39]⟩:ByteArray).size:Nat):Int)>IntKind.i64.max)) then
 let e5:ByteArray:=(e4++(⟨#[39]⟩:ByteArray))
 some (e5,())
 else none
 else none
 else
 some ((⟨#[63]⟩:ByteArray),())))))
noncomputable def value_Text.F:=stk value_Text.B
theorem value_Text.eq:value_Text.F=value_Text.B:=stk_eq _
theorem value_Text.ev (x:TS value_Text.si):evF cstrings_ReplaceAll inl0 (Tryz.f166.body.getD .skip) Tryz.f166.results.toList value_Text.h value_Text.si value_Text.so x=value_Text.B x:=by kernel_rfl
theorem value_Text.fn:FnOk PP 166 (Tryz.f166.body.getD .skip) Tryz.f166.results.toList Tryz.f166.ntmps:=fnOk_mk (by kernel_rfl) (by kernel_rfl) (by kernel_rfl) (by kernel_rfl)
theorem value_Text.ok:SpecOk PP 166 ⟨1,value_Text.si,value_Text.so,value_Text.F⟩:=fn_stk cxstrings_ReplaceAll (inl0_ok _ _) mixed value_Text.fn value_Text.h (by kernel_rfl) value_Text.ev
noncomputable def spvalue_Text:List (Nat×List (Nat×AK)×Lv.Spec):=(166,[],⟨1,value_Text.si,value_Text.so,value_Text.F⟩)::spstrings_ReplaceAll
noncomputable abbrev cvalue_Text:Cx:=⟨tabAt tab0,eqAt eqs0,specAt spvalue_Text,159,specPAt sq0⟩
theorem cxvalue_Text:CxOk PP cvalue_Text:=cxstrings_ReplaceAll.consS [] value_Text.fn.enters value_Text.ok
def strings_Join.si:Sh:=⟨[(0,.v false [.sl 9 .str]),(1,.v false [.str])],[],[],0,[]⟩
def strings_Join.so:Sh:=⟨[(0,.v false [.str])],[],[],1000,[]⟩
noncomputable def strings_Join.B:TS strings_Join.si→Option (TS strings_Join.so):=fun (xs,sep,_)=>if xs.length≤140737488355328∧(joinB xs sep).size≤140737488355328 then some (joinB xs sep,()) else none
noncomputable def strings_Join.F:=stk strings_Join.B
theorem strings_Join.eq:strings_Join.F=strings_Join.B:=stk_eq _
theorem strings_Join.ok:SpecOk PP 80 ⟨2,strings_Join.si,strings_Join.so,strings_Join.F⟩:=by
 rw [strings_Join.eq]
 exact join_ok
theorem strings_Join.en:Lv.Enters PP 80:=⟨_,Tryz.func80,by kernel_rfl,by decide⟩
noncomputable def spstrings_Join:List (Nat×List (Nat×AK)×Lv.Spec):=(80,[],⟨2,strings_Join.si,strings_Join.so,strings_Join.F⟩)::spvalue_Text
noncomputable abbrev cstrings_Join:Cx:=⟨tabAt tab0,eqAt eqs0,specAt spstrings_Join,159,specPAt sq0⟩
theorem cxstrings_Join:CxOk PP cstrings_Join:=cxvalue_Text.consS [] strings_Join.en strings_Join.ok
def lex_Print.si:Sh:=⟨[(0,.v false [.sl 111 tTok])],[],[],0,[]⟩
def lex_Print.so:Sh:=⟨[(0,.v false [.str])],[],[],1000,[]⟩
def lex_Print.h:H:=(.s none .n (.s none .n (.s (some ⟨[(3,.v false [.ref 0])],[(0,false,.arr 9 .str)],[],1,[]⟩) (.s none .n (.b (.l ⟨[(3,.v false [.ref 0]),(8,.v false [.int .i64])],[(0,false,.arr 9 .str)],[6,7],1,[]⟩ .n))) .n)))
noncomputable def lex_Print.B:(List tTokT)×Unit→Option (ByteArray×Unit):=fun (p0,_)=>
 Option.bind (
 loopM (S:=Int×(List ByteArray)×Unit) (fun (x8,o3_0,_)=>
 (bif (decide (x8<(p0.length:Int))) then
 bif (decide (0≤x8)&&decide (x8<(p0.length:Int))) then
 let e1:tTokT:=(List.getD p0 (Int.toNat x8) tTok.z)
 Option.bind (lex_May.F (e1.1,e1.2.1,e1.2.2.1,e1.2.2.2.1,e1.2.2.2.2,())) fun y2=>
 (bif (!y2.1) then
 some (.inr (.inr ((⟨#[]⟩:ByteArray),())))
 else
 (bif (e1.1==(1:Int)) then
 Option.bind (value_Text.F (e1.2.2.1,e1.2.2.2.1,e1.2.2.2.2,())) fun y3=>
 bif (Nat.ble (o3_0.length+ [y3.1].length) 8796093022208) then
 let e4:Int:=(IntKind.i64.wrap (x8+(1:Int)))
 some (.inl (e4,(o3_0++ [y3.1]),()))
 else none
 else
 bif (Nat.ble (o3_0.length+ [e1.2.1].length) 8796093022208) then
 let e5:Int:=(IntKind.i64.wrap (x8+(1:Int)))
 some (.inl (e5,(o3_0++ [e1.2.1]),()))
 else none))
 else none
 else
 some (.inr (.inl (o3_0,()))))) ((0:Int),[],()):Option (((List ByteArray)×Unit)⊕_)) fun r6=>match r6 with
 | .inl (o3_0_6,_)=>
 (Option.bind (strings_Join.F (o3_0_6,(⟨#[32]⟩:ByteArray),())) fun y7=>
 some (y7.1,()))
 | .inr r=>some r
noncomputable def lex_Print.F:=stk lex_Print.B
theorem lex_Print.eq:lex_Print.F=lex_Print.B:=stk_eq _
theorem lex_Print.ev (x:TS lex_Print.si):evF cstrings_Join inl0 (Tryz.f151.body.getD .skip) Tryz.f151.results.toList lex_Print.h lex_Print.si lex_Print.so x=lex_Print.B x:=by kernel_rfl
theorem lex_Print.fn:FnOk PP 151 (Tryz.f151.body.getD .skip) Tryz.f151.results.toList Tryz.f151.ntmps:=fnOk_mk (by kernel_rfl) (by kernel_rfl) (by kernel_rfl) (by kernel_rfl)
theorem lex_Print.ok:SpecOk PP 151 ⟨1,lex_Print.si,lex_Print.so,lex_Print.F⟩:=fn_stk cxstrings_Join (inl0_ok _ _) mixed lex_Print.fn lex_Print.h (by kernel_rfl) lex_Print.ev
noncomputable def splex_Print:List (Nat×List (Nat×AK)×Lv.Spec):=(151,[],⟨1,lex_Print.si,lex_Print.so,lex_Print.F⟩)::spstrings_Join
noncomputable abbrev clex_Print:Cx:=⟨tabAt tab0,eqAt eqs0,specAt splex_Print,159,specPAt sq0⟩
theorem cxlex_Print:CxOk PP clex_Print:=cxstrings_Join.consS [] lex_Print.fn.enters lex_Print.ok
def ddl_constant.si:Sh:=⟨[(0,.v true [.int .i64,.int .i64,.str])],[],[],0,[]⟩
def ddl_constant.so:Sh:=⟨[(0,.v false [.str])],[],[],1000,[]⟩
noncomputable def ddl_constant.B:TS ddl_constant.si→Option (TS ddl_constant.so):=fun (a,b,s,_)=>
 let e:ByteArray:=(⟨#[]⟩:ByteArray)
 bif (a==(0:Int))&&(b==(0:Int))&&(s==e) then some ((⟨#[110,117,108,108]⟩:ByteArray),())
 else bif (a==(1:Int))&&(b==(0:Int))&&(s==e) then some ((⟨#[102,97,108,115,101]⟩:ByteArray),())
 else bif (a==(1:Int))&&(b==(1:Int))&&(s==e) then some ((⟨#[116,114,117,101]⟩:ByteArray),())
 else Option.bind (lex_May.F ((1:Int),e,a,b,s,())) fun y=>
 bif (!y.1) then some ((⟨#[33]⟩:ByteArray),()) else Option.bind (lex_Print.F ([((1:Int),e,a,b,s)],())) fun z=>some (z.1,())
noncomputable def ddl_constant.F:=stk ddl_constant.B
theorem ddl_constant.eq:ddl_constant.F=ddl_constant.B:=stk_eq _
theorem ddl_constant.ok:SpecOk PP 128 ⟨1,ddl_constant.si,ddl_constant.so,ddl_constant.F⟩:=by
 rw [ddl_constant.eq]
 exact const_ok2 cxlex_Print (drawnOk cxlex_Print mixed) .n (fun a b s=>Option.bind (lex_May.F ((1:Int),(⟨#[]⟩:ByteArray),a,b,s,())) fun y=>bif (!y.1) then some ((⟨#[33]⟩:ByteArray),()) else Option.bind (lex_Print.F ([((1:Int),(⟨#[]⟩:ByteArray),a,b,s)],())) fun z=>some (z.1,())) (fun a b s=>by kernel_rfl)
theorem ddl_constant.en:Lv.Enters PP 128:=⟨_,Tryz.func128,by kernel_rfl,by decide⟩
noncomputable def spddl_constant:List (Nat×List (Nat×AK)×Lv.Spec):=(128,[],⟨1,ddl_constant.si,ddl_constant.so,ddl_constant.F⟩)::splex_Print
noncomputable abbrev cddl_constant:Cx:=⟨tabAt tab0,eqAt eqs0,specAt spddl_constant,159,specPAt sq0⟩
theorem cxddl_constant:CxOk PP cddl_constant:=cxlex_Print.consS [] ddl_constant.en ddl_constant.ok
def ddl_printer_expr.si:Sh:=⟨[(0,.v false [.ptr 0 0]),(1,.v false [.sl 78 tNode])],[(0,true,.box 127 [.ref 1]),(1,true,.arr 9 .str)],[],2,[]⟩
def ddl_printer_expr.so:Sh:=⟨[(0,.tup [])],[(0,true,.box 127 [.ref 1001]),(1001,false,.arr 9 .str)],[],1002,[(0,0)]⟩
def ddl_printer_expr.h:H:=(.s none .n (.s (some ⟨[(0,.v false [.ptr 0 0])],[(0,true,.box 127 [.ref 1]),(1,false,.arr 9 .str)],[],2,[]⟩) (.s none .n (.b (.l ⟨[(0,.v false [.ptr 0 0]),(11,.v false [.int .i64])],[(0,true,.box 127 [.ref 1]),(1,false,.arr 9 .str)],[9,10],2,[]⟩ .n))) .n))
noncomputable def ddl_printer_expr.B:(List tNodeT)×(List ByteArray)×Unit→Option ((List ByteArray)×Unit):=fun (p1,o0_0,_)=>
 Option.bind (ddl_printer_add.F ([(⟨#[91]⟩:ByteArray)],o0_0,())) fun y1=>
 Option.bind (
 loopM (S:=Int×(List ByteArray)×Unit) (fun (x11,o0_0_0,_)=>
 (bif (decide (x11<(p1.length:Int))) then
 bif (decide (0≤x11)&&decide (x11<(p1.length:Int))) then
 let e2:tNodeT:=(List.getD p1 (Int.toNat x11) tNode.z)
 (bif (e2.1==(0:Int)) then
 Option.bind (strconv_Itoa.F (e2.2.1,())) fun y3=>
 bif (!decide ((((⟨#[99]⟩:ByteArray).size+y3.1.size:Nat):Int)>IntKind.i64.max)) then
 let e4:ByteArray:=((⟨#[99]⟩:ByteArray)++y3.1)
 Option.bind (ddl_printer_add.F ([e4],o0_0_0,())) fun y5=>
 let e6:Int:=(IntKind.i64.wrap (x11+(1:Int)))
 some (.inl (e6,y5.1,()))
 else none
 else
 (bif (e2.1==(1:Int)) then
 Option.bind (ddl_constant.F (e2.2.2.1,e2.2.2.2.1,e2.2.2.2.2,())) fun y7=>
 Option.bind (ddl_printer_add.F ([y7.1],o0_0_0,())) fun y8=>
 let e9:Int:=(IntKind.i64.wrap (x11+(1:Int)))
 some (.inl (e9,y8.1,()))
 else
 let e10:Int:=(IntKind.i64.wrap (e2.1-(2:Int)))
 Option.bind (ddl_word.F (e10,[(⟨#[43]⟩:ByteArray),(⟨#[45]⟩:ByteArray),(⟨#[42]⟩:ByteArray),(⟨#[61]⟩:ByteArray),(⟨#[60]⟩:ByteArray),(⟨#[97,110,100]⟩:ByteArray),(⟨#[111,114]⟩:ByteArray),(⟨#[110,111,116]⟩:ByteArray),(⟨#[110,117,108,108,32,63]⟩:ByteArray)],())) fun y11=>
 Option.bind (ddl_printer_add.F ([y11.1],o0_0_0,())) fun y12=>
 let e13:Int:=(IntKind.i64.wrap (x11+(1:Int)))
 some (.inl (e13,y12.1,()))))
 else none
 else
 some (.inr (.inl (o0_0_0,()))))) ((0:Int),y1.1,()):Option (((List ByteArray)×Unit)⊕_)) fun r14=>match r14 with
 | .inl (o0_0_0_14,_)=>
 (Option.bind (ddl_printer_add.F ([(⟨#[93]⟩:ByteArray)],o0_0_0_14,())) fun y15=>
 some (y15.1,()))
 | .inr r=>some r
noncomputable def ddl_printer_expr.F:=stk ddl_printer_expr.B
theorem ddl_printer_expr.eq:ddl_printer_expr.F=ddl_printer_expr.B:=stk_eq _
theorem ddl_printer_expr.ev (x:TS ddl_printer_expr.si):evF cddl_constant inl0 (Tryz.f100.body.getD .skip) Tryz.f100.results.toList ddl_printer_expr.h ddl_printer_expr.si ddl_printer_expr.so x=ddl_printer_expr.B x:=by kernel_rfl
theorem ddl_printer_expr.fn:FnOk PP 100 (Tryz.f100.body.getD .skip) Tryz.f100.results.toList Tryz.f100.ntmps:=fnOk_mk (by kernel_rfl) (by kernel_rfl) (by kernel_rfl) (by kernel_rfl)
theorem ddl_printer_expr.ok:SpecOk PP 100 ⟨2,ddl_printer_expr.si,ddl_printer_expr.so,ddl_printer_expr.F⟩:=fn_stk cxddl_constant (inl0_ok _ _) mixed ddl_printer_expr.fn ddl_printer_expr.h (by kernel_rfl) ddl_printer_expr.ev
noncomputable def spddl_printer_expr:List (Nat×List (Nat×AK)×Lv.Spec):=(100,[],⟨2,ddl_printer_expr.si,ddl_printer_expr.so,ddl_printer_expr.F⟩)::spddl_constant
noncomputable abbrev cddl_printer_expr:Cx:=⟨tabAt tab0,eqAt eqs0,specAt spddl_printer_expr,159,specPAt sq0⟩
theorem cxddl_printer_expr:CxOk PP cddl_printer_expr:=cxddl_constant.consS [] ddl_printer_expr.fn.enters ddl_printer_expr.ok
def ddl_printer_table.si:Sh:=⟨[(0,.v false [.ptr 0 0]),(1,.v true [.str,.sl 41 tColumn,.sl 32 (.sl 78 tNode)])],[(0,true,.box 127 [.ref 1]),(1,true,.arr 9 .str)],[],2,[]⟩
def ddl_printer_table.so:Sh:=⟨[(0,.tup [])],[(0,true,.box 127 [.ref 1001]),(1001,false,.arr 9 .str)],[],1002,[(0,0)]⟩
def ddl_printer_table.h:H:=(.s none .n (.s none .n (.s none .n (.s none .n (.s none .n (.b (.l ⟨[(2,.v false [.ptr 0 0]),(23,.v false [.int .i64])],[(0,true,.box 125 [.ptr 1 0]),(1,true,.box 127 [.ref 2]),(2,false,.arr 9 .str)],[21,22],3,[]⟩ .n)))))))
noncomputable def ddl_printer_table.B:ByteArray×(List tColumnT)×(List (List tNodeT))×(List ByteArray)×Unit→Option ((List ByteArray)×Unit):=fun (p1_0,p1_1,p1_2,o0_0,_)=>
 Option.bind (ddl_printer_add.F ([(⟨#[116,97,98,108,101]⟩:ByteArray),p1_0,(⟨#[40]⟩:ByteArray)],o0_0,())) fun y1=>
 loopM (S:=Int×(List ByteArray)×Unit) (fun (x8,o0_0_0,_)=>
 (bif (decide (x8<(p1_1.length:Int))) then
 Option.bind (
 Option.bind (ddl_printer_addIf.F ((decide (x8>(0:Int))),[(⟨#[44]⟩:ByteArray)],o0_0_0,())) fun y2=>
 bif (decide (0≤x8)&&decide (x8<(p1_1.length:Int))) then
 let e3:tColumnT:=(List.getD p1_1 (Int.toNat x8) tColumn.z)
 let e4:Int:=(IntKind.i64.wrap (e3.2.1-(1:Int)))
 Option.bind (ddl_word.F (e4,[(⟨#[98,111,111,108]⟩:ByteArray),(⟨#[105,110,116]⟩:ByteArray),(⟨#[116,101,120,116]⟩:ByteArray)],())) fun y5=>
 Option.bind (ddl_printer_add.F ([e3.1,y5.1],y2.1,())) fun y6=>
 Option.bind (ddl_printer_addIf.F (e3.2.2.1,[(⟨#[110,117,108,108]⟩:ByteArray)],y6.1,())) fun y7=>
 Option.bind (ddl_printer_addIf.F (e3.2.2.2.1,[(⟨#[117,110,105,113,117,101]⟩:ByteArray)],y7.1,())) fun y8=>
 Option.bind (ddl_word.F (e3.2.2.2.2.2,[(⟨#[114,101,115,116,114,105,99,116]⟩:ByteArray),(⟨#[99,97,115,99,97,100,101]⟩:ByteArray),(⟨#[115,101,116,110,117,108,108]⟩:ByteArray)],())) fun y9=>
 Option.bind (ddl_printer_addIf.F ((!(e3.2.2.2.2.1.toList==(⟨#[]⟩:ByteArray).toList)),[(⟨#[114,101,102]⟩:ByteArray),e3.2.2.2.2.1,y9.1],y8.1,())) fun y10=>
 some (.inl (y10.1,()))
 else none:Option (((List ByteArray)×Unit)⊕_)) fun r11=>match r11 with
 | .inl (o0_0_0_11,_)=>
 (let e12:Int:=(IntKind.i64.wrap (x8+(1:Int)))
 some (.inl (e12,o0_0_0_11,())))
 | .inr r=>some r
 else
 Option.map Sum.inr (Option.bind (ddl_printer_add.F ([(⟨#[41]⟩:ByteArray)],o0_0_0,())) fun y13=>
 loopM (S:=Int×(List ByteArray)×Unit) (fun (x23,o2_0_0_0,_)=>
 (bif (decide (x23<(p1_2.length:Int))) then
 bif (decide (0≤x23)&&decide (x23<(p1_2.length:Int))) then
 let e14:(List tNodeT):=(List.getD p1_2 (Int.toNat x23) [])
 Option.bind (ddl_printer_add.F ([(⟨#[99,104,101,99,107]⟩:ByteArray)],o2_0_0_0,())) fun y15=>
 Option.bind (ddl_printer_expr.F (e14,y15.1,())) fun y16=>
 let e17:Int:=(IntKind.i64.wrap (x23+(1:Int)))
 some (.inl (e17,y16.1,()))
 else none
 else
 some (.inr (o2_0_0_0,())))) ((0:Int),y13.1,())))) ((0:Int),y1.1,())
noncomputable def ddl_printer_table.F:=stk ddl_printer_table.B
theorem ddl_printer_table.eq:ddl_printer_table.F=ddl_printer_table.B:=stk_eq _
noncomputable def ddl_printer_table.ins:Nat→List (Option Slot)→Heap→Option (Code×List ResultVar×H):=fun g xs hp=>bif Nat.beq g 96&&cloK xs hp 2 97 then some (Tryz.f96.body.getD .skip,Tryz.f96.results.toList,(.s none .n (.b (.l ⟨[(0,.v false [.ptr 0 0]),(8,.v false [.int .i64])],[(0,true,.box 127 [.ref 1]),(1,false,.arr 9 .str)],[2,7],2,[]⟩ (.s none .n (.s none .n (.s (some ⟨[(0,.v false [.ptr 0 0])],[(0,true,.box 127 [.ref 1]),(1,false,.arr 9 .str)],[2,7,8],2,[]⟩) .n .n))))))) else bif Nat.beq g 97 then some (Tryz.f97.body.getD .skip,Tryz.f97.results.toList,.n) else none
theorem ddl_printer_table.ins_ok:∀n xs hp code res h,ddl_printer_table.ins n xs hp=some (code,res,h)→∃nt,FnOk PP n code res nt:=by
 intro n xs hp code res h e
 unfold ddl_printer_table.ins at e
 cases e0:(Nat.beq n 96&&cloK xs hp 2 97) with
 |true=>rw [e0] at e;cases e;rw [Nat.eq_of_beq_eq_true (Bool.and_eq_true_iff.1 e0).1];exact ⟨_,fnOk_mk (by kernel_rfl) (by kernel_rfl) (by kernel_rfl) (by kernel_rfl)⟩
 |false=>
 rw [e0] at e
 cases e1:(Nat.beq n 97) with
 |true=>rw [e1] at e;cases e;rw [Nat.eq_of_beq_eq_true e1];exact ⟨_,fnOk_mk (by kernel_rfl) (by kernel_rfl) (by kernel_rfl) (by kernel_rfl)⟩
 |false=>
 rw [e1] at e
 cases e
theorem ddl_printer_table.ev (x:TS ddl_printer_table.si):evF cddl_printer_expr (inlS cddl_printer_expr ddl_printer_table.ins (inlS cddl_printer_expr ddl_printer_table.ins (inlS cddl_printer_expr ddl_printer_table.ins inl0))) (Tryz.f78.body.getD .skip) Tryz.f78.results.toList ddl_printer_table.h ddl_printer_table.si ddl_printer_table.so x=ddl_printer_table.B x:=by kernel_rfl
theorem ddl_printer_table.fn:FnOk PP 78 (Tryz.f78.body.getD .skip) Tryz.f78.results.toList Tryz.f78.ntmps:=fnOk_mk (by kernel_rfl) (by kernel_rfl) (by kernel_rfl) (by kernel_rfl)
theorem ddl_printer_table.ok:SpecOk PP 78 ⟨2,ddl_printer_table.si,ddl_printer_table.so,ddl_printer_table.F⟩:=fn_stk cxddl_printer_expr (inlS_ok cxddl_printer_expr (inlS_ok cxddl_printer_expr (inlS_ok cxddl_printer_expr (inl0_ok _ _) (drawnOk cxddl_printer_expr mixed) ddl_printer_table.ins_ok) (drawnOk cxddl_printer_expr mixed) ddl_printer_table.ins_ok) (drawnOk cxddl_printer_expr mixed) ddl_printer_table.ins_ok) mixed ddl_printer_table.fn ddl_printer_table.h (by kernel_rfl) ddl_printer_table.ev
noncomputable def spddl_printer_table:List (Nat×List (Nat×AK)×Lv.Spec):=(78,[],⟨2,ddl_printer_table.si,ddl_printer_table.so,ddl_printer_table.F⟩)::spddl_printer_expr
noncomputable abbrev cddl_printer_table:Cx:=⟨tabAt tab0,eqAt eqs0,specAt spddl_printer_table,159,specPAt sq0⟩
theorem cxddl_printer_table:CxOk PP cddl_printer_table:=cxddl_printer_expr.consS [] ddl_printer_table.fn.enters ddl_printer_table.ok
def ddl_printer_view.si:Sh:=⟨[(0,.v false [.ptr 0 0]),(1,.v true [.str,.str,.str,.int .i64,.int .i64,.sl 78 tNode,.sl 3 (.int .i64),.bool,.sl 66 tAgg])],[(0,true,.box 127 [.ref 1]),(1,true,.arr 9 .str)],[],2,[]⟩
def ddl_printer_view.so:Sh:=⟨[(0,.tup [])],[(0,true,.box 127 [.ref 1001]),(1001,false,.arr 9 .str)],[],1002,[(0,0)]⟩
def ddl_printer_view.h:H:=(.s none .n (.s none .n (.s none .n (.s (some ⟨[(2,.v false [.ptr 0 0])],[(0,true,.box 125 [.ptr 1 0]),(1,true,.box 127 [.ref 2]),(2,false,.arr 9 .str)],[3,4],3,[]⟩) .n (.s (some ⟨[(2,.v false [.ptr 0 0])],[(0,true,.box 125 [.ptr 1 0]),(1,true,.box 127 [.ref 2]),(2,false,.arr 9 .str)],[3,4],3,[]⟩) .n .n)))))
noncomputable def ddl_printer_view.B:ByteArray×ByteArray×ByteArray×Int×Int×(List tNodeT)×(List Int)×Bool×(List tAggT)×(List ByteArray)×Unit→Option ((List ByteArray)×Unit):=fun (p1_0,p1_1,p1_2,p1_3,p1_4,p1_5,p1_6,p1_7,p1_8,o0_0,_)=>
 Option.bind (ddl_printer_add.F ([(⟨#[118,105,101,119]⟩:ByteArray),p1_0,(⟨#[102,114,111,109]⟩:ByteArray),p1_1],o0_0,())) fun y1=>
 Option.bind (
 bif (decide (0≤(0:Int))&&decide ((0:Int)<(2:Int))) then
 Option.bind (strconv_Itoa.F (p1_3,())) fun y2=>
 bif (decide (0≤(1:Int))&&decide ((1:Int)<(2:Int))) then
 Option.bind (strconv_Itoa.F (p1_4,())) fun y3=>
 Option.bind (ddl_printer_addIf.F ((!(p1_2.toList==(⟨#[]⟩:ByteArray).toList)),[(⟨#[106,111,105,110]⟩:ByteArray),p1_2,(⟨#[111,110]⟩:ByteArray),y2.1,(⟨#[61]⟩:ByteArray),y3.1],y1.1,())) fun y4=>
 some (.inl (y4.1,()))
 else none
 else none:Option (((List ByteArray)×Unit)⊕_)) fun r5=>match r5 with
 | .inl (o2_0_0_0_5,_)=>
 (Option.bind (
 (bif (decide ((p1_5.length:Int)>(0:Int))) then
 Option.bind (ddl_printer_add.F ([(⟨#[119,104,101,114,101]⟩:ByteArray)],o2_0_0_0_5,())) fun y6=>
 Option.bind (ddl_printer_expr.F (p1_5,y6.1,())) fun y7=>
 some (.inl (y7.1,()))
 else
 some (.inl (o2_0_0_0_5,()))):Option (((List ByteArray)×Unit)⊕_)) fun r8=>match r8 with
 | .inl (o2_0_0_0_8,_)=>
 (Option.bind (ddl_printer_add.F ([(⟨#[112,105,99,107]⟩:ByteArray)],o2_0_0_0_8,())) fun y9=>
 loopM (S:=Int×(List ByteArray)×Unit) (fun (x8,o0_0_0,_)=>
 (bif (decide (x8<(p1_6.length:Int))) then
 Option.bind (
 Option.bind (ddl_printer_addIf.F ((decide (x8>(0:Int))),[(⟨#[44]⟩:ByteArray)],o0_0_0,())) fun y10=>
 bif (decide (0≤x8)&&decide (x8<(p1_6.length:Int))) then
 let e11:Int:=(List.getD p1_6 (Int.toNat x8) (0:Int))
 Option.bind (strconv_Itoa.F (e11,())) fun y12=>
 Option.bind (ddl_printer_add.F ([y12.1],y10.1,())) fun y13=>
 some (.inl (y13.1,()))
 else none:Option (((List ByteArray)×Unit)⊕_)) fun r14=>match r14 with
 | .inl (o0_0_0_14,_)=>
 (let e15:Int:=(IntKind.i64.wrap (x8+(1:Int)))
 some (.inl (e15,o0_0_0_14,())))
 | .inr r=>some r
 else
 Option.map Sum.inr (Option.bind (ddl_printer_addIf.F (p1_7,[(⟨#[103,114,111,117,112]⟩:ByteArray)],o0_0_0,())) fun y16=>
 loopM (S:=Int×(List ByteArray)×Unit) (fun (x8,o0_0_0,_)=>
 (bif (decide (x8<(p1_8.length:Int))) then
 Option.bind (
 Option.bind (ddl_printer_addIf.F ((decide (x8>(0:Int))),[(⟨#[44]⟩:ByteArray)],o0_0_0,())) fun y17=>
 bif (decide (0≤x8)&&decide (x8<(p1_8.length:Int))) then
 let e18:tAggT:=(List.getD p1_8 (Int.toNat x8) tAgg.z)
 Option.bind (ddl_word.F (e18.1,[(⟨#[99,111,117,110,116]⟩:ByteArray),(⟨#[115,117,109]⟩:ByteArray),(⟨#[109,105,110]⟩:ByteArray),(⟨#[109,97,120]⟩:ByteArray)],())) fun y19=>
 Option.bind (ddl_printer_add.F ([y19.1],y17.1,())) fun y20=>
 Option.bind (strconv_Itoa.F (e18.2,())) fun y21=>
 Option.bind (ddl_printer_addIf.F ((e18.1 !=(0:Int)),[y21.1],y20.1,())) fun y22=>
 some (.inl (y22.1,()))
 else none:Option (((List ByteArray)×Unit)⊕_)) fun r23=>match r23 with
 | .inl (o0_0_0_23,_)=>
 (let e24:Int:=(IntKind.i64.wrap (x8+(1:Int)))
 some (.inl (e24,o0_0_0_23,())))
 | .inr r=>some r
 else
 some (.inr (o0_0_0,())))) ((0:Int),y16.1,())))) ((0:Int),y9.1,()))
 | .inr r=>some r)
 | .inr r=>some r
noncomputable def ddl_printer_view.F:=stk ddl_printer_view.B
theorem ddl_printer_view.eq:ddl_printer_view.F=ddl_printer_view.B:=stk_eq _
noncomputable def ddl_printer_view.ins:Nat→List (Option Slot)→Heap→Option (Code×List ResultVar×H):=fun g xs hp=>bif Nat.beq g 96&&cloK xs hp 2 102 then some (Tryz.f96.body.getD .skip,Tryz.f96.results.toList,(.s none .n (.b (.l ⟨[(0,.v false [.ptr 0 0]),(8,.v false [.int .i64])],[(0,true,.box 127 [.ref 1]),(1,false,.arr 9 .str)],[2,7],2,[]⟩ (.s none .n (.s none .n (.s (some ⟨[(0,.v false [.ptr 0 0])],[(0,true,.box 127 [.ref 1]),(1,false,.arr 9 .str)],[2,7,8],2,[]⟩) .n .n))))))) else bif Nat.beq g 96&&cloK xs hp 2 103 then some (Tryz.f96.body.getD .skip,Tryz.f96.results.toList,(.s none .n (.b (.l ⟨[(0,.v false [.ptr 0 0]),(8,.v false [.int .i64])],[(0,true,.box 127 [.ref 1]),(1,false,.arr 9 .str)],[2,7],2,[]⟩ (.s none .n (.s none .n (.s (some ⟨[(0,.v false [.ptr 0 0])],[(0,true,.box 127 [.ref 1]),(1,false,.arr 9 .str)],[2,7,8],2,[]⟩) .n .n))))))) else bif Nat.beq g 102 then some (Tryz.f102.body.getD .skip,Tryz.f102.results.toList,.n) else bif Nat.beq g 103 then some (Tryz.f103.body.getD .skip,Tryz.f103.results.toList,.n) else none
theorem ddl_printer_view.ins_ok:∀n xs hp code res h,ddl_printer_view.ins n xs hp=some (code,res,h)→∃nt,FnOk PP n code res nt:=by
 intro n xs hp code res h e
 unfold ddl_printer_view.ins at e
 cases e0:(Nat.beq n 96&&cloK xs hp 2 102) with
 |true=>rw [e0] at e;cases e;rw [Nat.eq_of_beq_eq_true (Bool.and_eq_true_iff.1 e0).1];exact ⟨_,fnOk_mk (by kernel_rfl) (by kernel_rfl) (by kernel_rfl) (by kernel_rfl)⟩
 |false=>
 rw [e0] at e
 cases e1:(Nat.beq n 96&&cloK xs hp 2 103) with
 |true=>rw [e1] at e;cases e;rw [Nat.eq_of_beq_eq_true (Bool.and_eq_true_iff.1 e1).1];exact ⟨_,fnOk_mk (by kernel_rfl) (by kernel_rfl) (by kernel_rfl) (by kernel_rfl)⟩
 |false=>
 rw [e1] at e
 cases e2:(Nat.beq n 102) with
 |true=>rw [e2] at e;cases e;rw [Nat.eq_of_beq_eq_true e2];exact ⟨_,fnOk_mk (by kernel_rfl) (by kernel_rfl) (by kernel_rfl) (by kernel_rfl)⟩
 |false=>
 rw [e2] at e
 cases e3:(Nat.beq n 103) with
 |true=>rw [e3] at e;cases e;rw [Nat.eq_of_beq_eq_true e3];exact ⟨_,fnOk_mk (by kernel_rfl) (by kernel_rfl) (by kernel_rfl) (by kernel_rfl)⟩
 |false=>
 rw [e3] at e
 cases e
theorem ddl_printer_view.ev (x:TS ddl_printer_view.si):evF cddl_printer_table (inlS cddl_printer_table ddl_printer_view.ins (inlS cddl_printer_table ddl_printer_view.ins (inlS cddl_printer_table ddl_printer_view.ins inl0))) (Tryz.f79.body.getD .skip) Tryz.f79.results.toList ddl_printer_view.h ddl_printer_view.si ddl_printer_view.so x=ddl_printer_view.B x:=by kernel_rfl
theorem ddl_printer_view.fn:FnOk PP 79 (Tryz.f79.body.getD .skip) Tryz.f79.results.toList Tryz.f79.ntmps:=fnOk_mk (by kernel_rfl) (by kernel_rfl) (by kernel_rfl) (by kernel_rfl)
theorem ddl_printer_view.ok:SpecOk PP 79 ⟨2,ddl_printer_view.si,ddl_printer_view.so,ddl_printer_view.F⟩:=fn_stk cxddl_printer_table (inlS_ok cxddl_printer_table (inlS_ok cxddl_printer_table (inlS_ok cxddl_printer_table (inl0_ok _ _) (drawnOk cxddl_printer_table mixed) ddl_printer_view.ins_ok) (drawnOk cxddl_printer_table mixed) ddl_printer_view.ins_ok) (drawnOk cxddl_printer_table mixed) ddl_printer_view.ins_ok) mixed ddl_printer_view.fn ddl_printer_view.h (by kernel_rfl) ddl_printer_view.ev
noncomputable def spddl_printer_view:List (Nat×List (Nat×AK)×Lv.Spec):=(79,[],⟨2,ddl_printer_view.si,ddl_printer_view.so,ddl_printer_view.F⟩)::spddl_printer_table
noncomputable abbrev cddl_printer_view:Cx:=⟨tabAt tab0,eqAt eqs0,specAt spddl_printer_view,159,specPAt sq0⟩
theorem cxddl_printer_view:CxOk PP cddl_printer_view:=cxddl_printer_table.consS [] ddl_printer_view.fn.enters ddl_printer_view.ok
def lex_scanner_peek.si:Sh:=⟨[(0,.v false [.ptr 0 0]),(1,.v false [.int .i64])],[(0,true,.box 181 [.str,.int .i64])],[],1,[]⟩
def lex_scanner_peek.so:Sh:=⟨[(0,.v false [.int .u8])],[(0,true,.box 181 [.str,.int .i64])],[],1001,[(0,0)]⟩
def lex_scanner_peek.h:H:=.n
noncomputable def lex_scanner_peek.B:Int×ByteArray×Int×Unit→Option (Int×ByteArray×Int×Unit):=fun (p1,o0_0,o0_1,_)=>
 let e1:Int:=(IntKind.i64.wrap (o0_1+p1))
 (bif (decide (e1≥(o0_0.size:Int))) then
 some ((0:Int),o0_0,o0_1,())
 else
 let e2:Int:=(IntKind.i64.wrap (o0_1+p1))
 bif (decide (0≤e2)&&decide (e2<(o0_0.size:Int))) then
 let e3:Int:=(byteAt o0_0 (Int.toNat e2))
 some (e3,o0_0,o0_1,())
 else none)
noncomputable def lex_scanner_peek.F:=stk lex_scanner_peek.B
theorem lex_scanner_peek.eq:lex_scanner_peek.F=lex_scanner_peek.B:=stk_eq _
theorem lex_scanner_peek.ev (x:TS lex_scanner_peek.si):evF cddl_printer_view inl0 (Tryz.f156.body.getD .skip) Tryz.f156.results.toList lex_scanner_peek.h lex_scanner_peek.si lex_scanner_peek.so x=lex_scanner_peek.B x:=by kernel_rfl
theorem lex_scanner_peek.fn:FnOk PP 156 (Tryz.f156.body.getD .skip) Tryz.f156.results.toList Tryz.f156.ntmps:=fnOk_mk (by kernel_rfl) (by kernel_rfl) (by kernel_rfl) (by kernel_rfl)
theorem lex_scanner_peek.ok:SpecOk PP 156 ⟨2,lex_scanner_peek.si,lex_scanner_peek.so,lex_scanner_peek.F⟩:=fn_stk cxddl_printer_view (inl0_ok _ _) mixed lex_scanner_peek.fn lex_scanner_peek.h (by kernel_rfl) lex_scanner_peek.ev
noncomputable def splex_scanner_peek:List (Nat×List (Nat×AK)×Lv.Spec):=(156,[],⟨2,lex_scanner_peek.si,lex_scanner_peek.so,lex_scanner_peek.F⟩)::spddl_printer_view
noncomputable abbrev clex_scanner_peek:Cx:=⟨tabAt tab0,eqAt eqs0,specAt splex_scanner_peek,159,specPAt sq0⟩
theorem cxlex_scanner_peek:CxOk PP clex_scanner_peek:=cxddl_printer_view.consS [] lex_scanner_peek.fn.enters lex_scanner_peek.ok
def lex_scanner_word.si:Sh:=⟨[(0,.v false [.ptr 0 0])],[(0,true,.box 181 [.str,.int .i64])],[],1,[]⟩
def lex_scanner_word.so:Sh:=⟨[(0,.tup [(true,[.int .i64,.str,.int .i64,.int .i64,.str]),(false,[.bool])])],[(0,true,.box 181 [.str,.int .i64])],[],1001,[(0,0)]⟩
def lex_scanner_word.h:H:=.n
noncomputable def lex_scanner_word.B:ByteArray×Int×Unit→Option (Int×ByteArray×Int×Int×ByteArray×Bool×ByteArray×Int×Unit):=fun (o0_0,o0_1,_)=>
 Option.bind (lex_scanner_run.F ([(1:Int),(2:Int),(3:Int)],o0_0,o0_1,())) fun y1=>
 some ((0:Int),y1.1,(0:Int),(0:Int),(⟨#[]⟩:ByteArray),(decide ((y1.1.size:Int)≤(30:Int))),y1.2.1,y1.2.2.1,())
noncomputable def lex_scanner_word.F:=stk lex_scanner_word.B
theorem lex_scanner_word.eq:lex_scanner_word.F=lex_scanner_word.B:=stk_eq _
theorem lex_scanner_word.ev (x:TS lex_scanner_word.si):evF clex_scanner_peek inl0 (Tryz.f157.body.getD .skip) Tryz.f157.results.toList lex_scanner_word.h lex_scanner_word.si lex_scanner_word.so x=lex_scanner_word.B x:=by kernel_rfl
theorem lex_scanner_word.fn:FnOk PP 157 (Tryz.f157.body.getD .skip) Tryz.f157.results.toList Tryz.f157.ntmps:=fnOk_mk (by kernel_rfl) (by kernel_rfl) (by kernel_rfl) (by kernel_rfl)
theorem lex_scanner_word.ok:SpecOk PP 157 ⟨1,lex_scanner_word.si,lex_scanner_word.so,lex_scanner_word.F⟩:=fn_stk cxlex_scanner_peek (inl0_ok _ _) mixed lex_scanner_word.fn lex_scanner_word.h (by kernel_rfl) lex_scanner_word.ev
noncomputable def splex_scanner_word:List (Nat×List (Nat×AK)×Lv.Spec):=(157,[],⟨1,lex_scanner_word.si,lex_scanner_word.so,lex_scanner_word.F⟩)::splex_scanner_peek
noncomputable abbrev clex_scanner_word:Cx:=⟨tabAt tab0,eqAt eqs0,specAt splex_scanner_word,159,specPAt sq0⟩
theorem cxlex_scanner_word:CxOk PP clex_scanner_word:=cxlex_scanner_peek.consS [] lex_scanner_word.fn.enters lex_scanner_word.ok
def strconv_Atoi.si:Sh:=⟨[(0,.v false [.str])],[],[],0,[]⟩
def strconv_Atoi.so:Sh:=⟨[(0,.tup [(false,[.int .i64]),(false,[.ifc])])],[],[],1000,[]⟩
noncomputable def strconv_Atoi.B:TS strconv_Atoi.si→Option (TS strconv_Atoi.so):=atoiF
noncomputable def strconv_Atoi.F:=stk strconv_Atoi.B
theorem strconv_Atoi.eq:strconv_Atoi.F=strconv_Atoi.B:=stk_eq _
theorem strconv_Atoi.ok:SpecOk PP 171 ⟨1,strconv_Atoi.si,strconv_Atoi.so,strconv_Atoi.F⟩:=by
 rw [strconv_Atoi.eq]
 exact atoi_ok
theorem strconv_Atoi.en:Lv.Enters PP 171:=⟨_,Tryz.func171,by kernel_rfl,by decide⟩
noncomputable def spstrconv_Atoi:List (Nat×List (Nat×AK)×Lv.Spec):=(171,[],⟨1,strconv_Atoi.si,strconv_Atoi.so,strconv_Atoi.F⟩)::splex_scanner_word
noncomputable abbrev cstrconv_Atoi:Cx:=⟨tabAt tab0,eqAt eqs0,specAt spstrconv_Atoi,159,specPAt sq0⟩
theorem cxstrconv_Atoi:CxOk PP cstrconv_Atoi:=cxlex_scanner_word.consS [] strconv_Atoi.en strconv_Atoi.ok
def lex_scanner_number.si:Sh:=⟨[(0,.v false [.ptr 0 0])],[(0,true,.box 181 [.str,.int .i64])],[],1,[]⟩
def lex_scanner_number.so:Sh:=⟨[(0,.tup [(true,[.int .i64,.str,.int .i64,.int .i64,.str]),(false,[.bool])])],[(0,true,.box 181 [.str,.int .i64])],[],1001,[(0,0)]⟩
def lex_scanner_number.h:H:=(.s none .n (.s none .n (.s (some ⟨[(0,.v false [.ptr 0 0]),(4,.v false [.str])],[(0,true,.box 181 [.str,.int .i64])],[2],1,[]⟩) .n .n)))
noncomputable def lex_scanner_number.B:ByteArray×Int×Unit→Option (Int×ByteArray×Int×Int×ByteArray×Bool×ByteArray×Int×Unit):=fun (o0_0,o0_1,_)=>
 Option.bind (
 Option.bind (lex_scanner_peek.F ((0:Int),o0_0,o0_1,())) fun y1=>
 (bif (y1.1==(45:Int)) then
 let e2:Int:=(IntKind.i64.wrap (y1.2.2.1+(1:Int)))
 some (.inl ((⟨#[45]⟩:ByteArray),y1.2.1,e2,()))
 else
 some (.inl ((⟨#[]⟩:ByteArray),y1.2.1,y1.2.2.1,()))):Option ((ByteArray×ByteArray×Int×Unit)⊕_)) fun r3=>match r3 with
 | .inl (x4_3,o0_0_0_3,o0_0_1_3,_)=>
 (Option.bind (lex_scanner_run.F ([(2:Int)],o0_0_0_3,o0_0_1_3,())) fun y4=>
 bif (!decide (((x4_3.size+y4.1.size:Nat):Int)>IntKind.i64.max)) then
 let e5:ByteArray:=(x4_3++y4.1)
 Option.bind (strconv_Atoi.F (e5,())) fun y6=>
 (bif y6.2.1 then
 Option.bind (strconv_Itoa.F (y6.1,())) fun y7=>
 some ((1:Int),(⟨#[]⟩:ByteArray),(2:Int),y6.1,(⟨#[]⟩:ByteArray),(y7.1.toList==e5.toList),y4.2.1,y4.2.2.1,())
 else
 some ((1:Int),(⟨#[]⟩:ByteArray),(2:Int),y6.1,(⟨#[]⟩:ByteArray),false,y4.2.1,y4.2.2.1,()))
 else none)
 | .inr r=>some r
noncomputable def lex_scanner_number.F:=stk lex_scanner_number.B
theorem lex_scanner_number.eq:lex_scanner_number.F=lex_scanner_number.B:=stk_eq _
theorem lex_scanner_number.ev (x:TS lex_scanner_number.si):evF cstrconv_Atoi inl0 (Tryz.f158.body.getD .skip) Tryz.f158.results.toList lex_scanner_number.h lex_scanner_number.si lex_scanner_number.so x=lex_scanner_number.B x:=by kernel_rfl
theorem lex_scanner_number.fn:FnOk PP 158 (Tryz.f158.body.getD .skip) Tryz.f158.results.toList Tryz.f158.ntmps:=fnOk_mk (by kernel_rfl) (by kernel_rfl) (by kernel_rfl) (by kernel_rfl)
theorem lex_scanner_number.ok:SpecOk PP 158 ⟨1,lex_scanner_number.si,lex_scanner_number.so,lex_scanner_number.F⟩:=fn_stk cxstrconv_Atoi (inl0_ok _ _) mixed lex_scanner_number.fn lex_scanner_number.h (by kernel_rfl) lex_scanner_number.ev
noncomputable def splex_scanner_number:List (Nat×List (Nat×AK)×Lv.Spec):=(158,[],⟨1,lex_scanner_number.si,lex_scanner_number.so,lex_scanner_number.F⟩)::spstrconv_Atoi
noncomputable abbrev clex_scanner_number:Cx:=⟨tabAt tab0,eqAt eqs0,specAt splex_scanner_number,159,specPAt sq0⟩
theorem cxlex_scanner_number:CxOk PP clex_scanner_number:=cxstrconv_Atoi.consS [] lex_scanner_number.fn.enters lex_scanner_number.ok
def strings_Builder_String.si:Sh:=⟨[(0,.v false [.ptr 0 0])],[(0,true,.box 153 [.np 0,.ref 1]),(1,true,.arr 5 (.int .u8))],[],2,[]⟩
def strings_Builder_String.so:Sh:=⟨[(0,.v false [.str])],[],[],1000,[]⟩
noncomputable def strings_Builder_String.B:TS strings_Builder_String.si→Option (TS strings_Builder_String.so):=fun (bs,_)=>if (∀x∈bs,0≤x∧x<256) then some (bytesOf bs,()) else none
noncomputable def strings_Builder_String.F:=stk strings_Builder_String.B
theorem strings_Builder_String.eq:strings_Builder_String.F=strings_Builder_String.B:=stk_eq _
theorem strings_Builder_String.ok:SpecOk PP 106 ⟨1,strings_Builder_String.si,strings_Builder_String.so,strings_Builder_String.F⟩:=by
 rw [strings_Builder_String.eq]
 exact string_ok
theorem strings_Builder_String.en:Lv.Enters PP 106:=⟨_,Tryz.func106,by kernel_rfl,by decide⟩
noncomputable def spstrings_Builder_String:List (Nat×List (Nat×AK)×Lv.Spec):=(106,[],⟨1,strings_Builder_String.si,strings_Builder_String.so,strings_Builder_String.F⟩)::splex_scanner_number
noncomputable abbrev cstrings_Builder_String:Cx:=⟨tabAt tab0,eqAt eqs0,specAt spstrings_Builder_String,159,specPAt sq0⟩
theorem cxstrings_Builder_String:CxOk PP cstrings_Builder_String:=cxlex_scanner_number.consS [] strings_Builder_String.en strings_Builder_String.ok
def strings_Builder_copyCheck.si:Sh:=⟨[(0,.v false [.ptr 0 0])],[(0,true,.box 153 [.np 0,.ref 1]),(1,true,.arr 5 (.int .u8))],[],2,[]⟩
def strings_Builder_copyCheck.so:Sh:=⟨[(0,.tup [])],[(0,true,.box 153 [.np 0,.ref 1000]),(1000,true,.arr 5 (.int .u8))],[],1001,[]⟩
noncomputable def strings_Builder_copyCheck.B:TS strings_Builder_copyCheck.si→Option (TS strings_Builder_copyCheck.so):=fun (bs,_)=>some (bs,())
noncomputable def strings_Builder_copyCheck.F:=stk strings_Builder_copyCheck.B
theorem strings_Builder_copyCheck.eq:strings_Builder_copyCheck.F=strings_Builder_copyCheck.B:=stk_eq _
theorem strings_Builder_copyCheck.ok:SpecOk PP 130 ⟨1,strings_Builder_copyCheck.si,strings_Builder_copyCheck.so,strings_Builder_copyCheck.F⟩:=by
 rw [strings_Builder_copyCheck.eq]
 exact check_ok
theorem strings_Builder_copyCheck.en:Lv.Enters PP 130:=⟨_,Tryz.func130,by kernel_rfl,by decide⟩
noncomputable def spstrings_Builder_copyCheck:List (Nat×List (Nat×AK)×Lv.Spec):=(130,[],⟨1,strings_Builder_copyCheck.si,strings_Builder_copyCheck.so,strings_Builder_copyCheck.F⟩)::spstrings_Builder_String
noncomputable abbrev cstrings_Builder_copyCheck:Cx:=⟨tabAt tab0,eqAt eqs0,specAt spstrings_Builder_copyCheck,159,specPAt sq0⟩
theorem cxstrings_Builder_copyCheck:CxOk PP cstrings_Builder_copyCheck:=cxstrings_Builder_String.consS [] strings_Builder_copyCheck.en strings_Builder_copyCheck.ok
def strings_Builder_WriteByte.si:Sh:=⟨[(0,.v false [.ptr 0 0]),(1,.v false [.int .u8])],[(0,true,.box 153 [.np 0,.ref 1]),(1,true,.arr 5 (.int .u8))],[],2,[]⟩
def strings_Builder_WriteByte.so:Sh:=⟨[(0,.v false [.ifc])],[(0,true,.box 153 [.np 0,.ref 1001]),(1001,false,.arr 5 (.int .u8))],[],1002,[(0,0)]⟩
def strings_Builder_WriteByte.h:H:=.n
noncomputable def strings_Builder_WriteByte.B:Int×(List Int)×Unit→Option (Bool×(List Int)×Unit):=fun (p1,o0_1,_)=>
 Option.bind (strings_Builder_copyCheck.F (o0_1,())) fun y1=>
 bif (Nat.ble (y1.1.length+ [p1].length) 140737488355328) then
 some (true,(y1.1++ [p1]),())
 else none
noncomputable def strings_Builder_WriteByte.F:=stk strings_Builder_WriteByte.B
theorem strings_Builder_WriteByte.eq:strings_Builder_WriteByte.F=strings_Builder_WriteByte.B:=stk_eq _
theorem strings_Builder_WriteByte.ev (x:TS strings_Builder_WriteByte.si):evF cstrings_Builder_copyCheck inl0 (Tryz.f172.body.getD .skip) Tryz.f172.results.toList strings_Builder_WriteByte.h strings_Builder_WriteByte.si strings_Builder_WriteByte.so x=strings_Builder_WriteByte.B x:=by kernel_rfl
theorem strings_Builder_WriteByte.fn:FnOk PP 172 (Tryz.f172.body.getD .skip) Tryz.f172.results.toList Tryz.f172.ntmps:=fnOk_mk (by kernel_rfl) (by kernel_rfl) (by kernel_rfl) (by kernel_rfl)
theorem strings_Builder_WriteByte.ok:SpecOk PP 172 ⟨2,strings_Builder_WriteByte.si,strings_Builder_WriteByte.so,strings_Builder_WriteByte.F⟩:=fn_stk cxstrings_Builder_copyCheck (inl0_ok _ _) mixed strings_Builder_WriteByte.fn strings_Builder_WriteByte.h (by kernel_rfl) strings_Builder_WriteByte.ev
noncomputable def spstrings_Builder_WriteByte:List (Nat×List (Nat×AK)×Lv.Spec):=(172,[],⟨2,strings_Builder_WriteByte.si,strings_Builder_WriteByte.so,strings_Builder_WriteByte.F⟩)::spstrings_Builder_copyCheck
noncomputable abbrev cstrings_Builder_WriteByte:Cx:=⟨tabAt tab0,eqAt eqs0,specAt spstrings_Builder_WriteByte,159,specPAt sq0⟩
theorem cxstrings_Builder_WriteByte:CxOk PP cstrings_Builder_WriteByte:=cxstrings_Builder_copyCheck.consS [] strings_Builder_WriteByte.fn.enters strings_Builder_WriteByte.ok
def lex_scanner_text.si:Sh:=⟨[(0,.v false [.ptr 0 0])],[(0,true,.box 181 [.str,.int .i64])],[],1,[]⟩
def lex_scanner_text.so:Sh:=⟨[(0,.tup [(true,[.int .i64,.str,.int .i64,.int .i64,.str]),(false,[.bool])])],[(0,true,.box 181 [.str,.int .i64])],[],1001,[(0,0)]⟩
def lex_scanner_text.h:H:=(.s none .n (.s none .n (.s (some ⟨[],[(0,true,.box 181 [.str,.int .i64]),(1,true,.box 153 [.np 1,.ref 2]),(2,false,.arr 5 (.int .u8))],[2],3,[(0,0),(1,1001)]⟩) (.s none .n (.b (.l ⟨[(0,.v false [.ptr 0 0]),(4,.v false [.ptr 1 0])],[(0,true,.box 181 [.str,.int .i64]),(1,true,.box 153 [.np 1,.ref 2]),(2,false,.arr 5 (.int .u8))],[2],3,[]⟩ (.s none .n (.s (some ⟨[(0,.v false [.ptr 0 0]),(4,.v false [.ptr 1 0])],[(0,true,.box 181 [.str,.int .i64]),(1,true,.box 153 [.np 1,.ref 2]),(2,false,.arr 5 (.int .u8))],[2],3,[]⟩) .n .n))))) .n)))
noncomputable def lex_scanner_text.B:ByteArray×Int×Unit→Option (Int×ByteArray×Int×Int×ByteArray×Bool×ByteArray×Int×Unit):=fun (o0_0,o0_1,_)=>
 Option.bind (
 let e1:Int:=(IntKind.i64.wrap (o0_1+(1:Int)))
 loopM (S:=ByteArray×Int×(List Int)×Unit) (fun (o0_0_0,o0_0_1,o4_0_1,_)=>
 (bif (decide (o0_0_1<(o0_0_0.size:Int))) then
 Option.bind (
 Option.bind (lex_scanner_peek.F ((0:Int),o0_0_0,o0_0_1,())) fun y2=>
 (bif (y2.1==(39:Int)) then
 let e3:Int:=(IntKind.i64.wrap (y2.2.2.1+(1:Int)))
 Option.bind (lex_scanner_peek.F ((0:Int),y2.2.1,e3,())) fun y4=>
 (bif (y4.1 !=(39:Int)) then
 Option.bind (strings_Builder_String.F (o4_0_1,())) fun y5=>
 Option.bind (value_May.F ((3:Int),(0:Int),y5.1,())) fun y6=>
 some (.inr (.inr (.inr ((1:Int),(⟨#[]⟩:ByteArray),(3:Int),(0:Int),y5.1,y6.1,y4.2.1,y4.2.2.1,()))))
 else
 (bif (decide (y4.2.2.1≥(y4.2.1.size:Int))) then
 Option.bind (strings_Builder_String.F (o4_0_1,())) fun y7=>
 Option.bind (value_May.F ((3:Int),(0:Int),y7.1,())) fun y8=>
 some (.inr (.inr (.inr ((1:Int),(⟨#[]⟩:ByteArray),(3:Int),(0:Int),y7.1,y8.1,y4.2.1,y4.2.2.1,()))))
 else
 Option.bind (strings_Builder_WriteByte.F (y2.1,o4_0_1,())) fun y9=>
 some (.inl (y4.2.1,y4.2.2.1,y9.2.1,()))))
 else
 Option.bind (strings_Builder_WriteByte.F (y2.1,o4_0_1,())) fun y10=>
 some (.inl (y2.2.1,y2.2.2.1,y10.2.1,()))):Option ((ByteArray×Int×(List Int)×Unit)⊕_)) fun r11=>match r11 with
 | .inl (o0_0_0_11,o0_0_1_11,o4_0_1_11,_)=>
 (let e12:Int:=(IntKind.i64.wrap (o0_0_1_11+(1:Int)))
 some (.inl (o0_0_0_11,e12,o4_0_1_11,())))
 | .inr r=>some r
 else
 some (.inr (.inl (o0_0_0,o0_0_1,o4_0_1,()))))) (o0_0,e1,[],()):Option ((ByteArray×Int×(List Int)×Unit)⊕_)) fun r13=>match r13 with
 | .inl (oin_0_0_13,oin_0_1_13,oin_1001_1_13,_)=>
 (some ((0:Int),(⟨#[]⟩:ByteArray),(0:Int),(0:Int),(⟨#[]⟩:ByteArray),false,oin_0_0_13,oin_0_1_13,()))
 | .inr r=>some r
noncomputable def lex_scanner_text.F:=stk lex_scanner_text.B
theorem lex_scanner_text.eq:lex_scanner_text.F=lex_scanner_text.B:=stk_eq _
theorem lex_scanner_text.ev (x:TS lex_scanner_text.si):evF cstrings_Builder_WriteByte inl0 (Tryz.f159.body.getD .skip) Tryz.f159.results.toList lex_scanner_text.h lex_scanner_text.si lex_scanner_text.so x=lex_scanner_text.B x:=by kernel_rfl
theorem lex_scanner_text.fn:FnOk PP 159 (Tryz.f159.body.getD .skip) Tryz.f159.results.toList Tryz.f159.ntmps:=fnOk_mk (by kernel_rfl) (by kernel_rfl) (by kernel_rfl) (by kernel_rfl)
theorem lex_scanner_text.ok:SpecOk PP 159 ⟨1,lex_scanner_text.si,lex_scanner_text.so,lex_scanner_text.F⟩:=fn_stk cxstrings_Builder_WriteByte (inl0_ok _ _) mixed lex_scanner_text.fn lex_scanner_text.h (by kernel_rfl) lex_scanner_text.ev
noncomputable def splex_scanner_text:List (Nat×List (Nat×AK)×Lv.Spec):=(159,[],⟨1,lex_scanner_text.si,lex_scanner_text.so,lex_scanner_text.F⟩)::spstrings_Builder_WriteByte
noncomputable abbrev clex_scanner_text:Cx:=⟨tabAt tab0,eqAt eqs0,specAt splex_scanner_text,159,specPAt sq0⟩
theorem cxlex_scanner_text:CxOk PP clex_scanner_text:=cxstrings_Builder_WriteByte.consS [] lex_scanner_text.fn.enters lex_scanner_text.ok
def lex_scanner_token.si:Sh:=⟨[(0,.v false [.ptr 0 0])],[(0,true,.box 181 [.str,.int .i64])],[],1,[]⟩
def lex_scanner_token.so:Sh:=⟨[(0,.tup [(true,[.int .i64,.str,.int .i64,.int .i64,.str]),(false,[.bool])])],[(0,true,.box 181 [.str,.int .i64])],[],1001,[(0,0)]⟩
def lex_scanner_token.h:H:=(.s none .n (.s none .n (.s none (.s none .n (.b (.s none .n (.c .n (.s (some ⟨[(0,.v false [.ptr 0 0]),(18,.v false [.bool])],[(0,true,.box 181 [.str,.int .i64])],[2,5],1,[]⟩) .n .n))))) .n)))
noncomputable def lex_scanner_token.B:ByteArray×Int×Unit→Option (Int×ByteArray×Int×Int×ByteArray×Bool×ByteArray×Int×Unit):=fun (o0_0,o0_1,_)=>
 Option.bind (lex_scanner_peek.F ((0:Int),o0_0,o0_1,())) fun y1=>
 Option.bind (lex_of.F (y1.1,())) fun y2=>
 (bif (y2.1==(1:Int)) then
 Option.bind (lex_scanner_word.F (y1.2.1,y1.2.2.1,())) fun y3=>
 some (y3.1,y3.2.1,y3.2.2.1,y3.2.2.2.1,y3.2.2.2.2.1,y3.2.2.2.2.2.1,y3.2.2.2.2.2.2.1,y3.2.2.2.2.2.2.2.1,())
 else
 Option.bind (
 (bif (y2.1==(2:Int)) then
 some (.inl ((y2.1==(2:Int)),y1.2.1,y1.2.2.1,()))
 else
 (bif (y1.1==(45:Int)) then
 Option.bind (lex_scanner_peek.F ((1:Int),y1.2.1,y1.2.2.1,())) fun y4=>
 Option.bind (lex_of.F (y4.1,())) fun y5=>
 some (.inl ((y5.1==(2:Int)),y4.2.1,y4.2.2.1,()))
 else
 some (.inl (false,y1.2.1,y1.2.2.1,())))):Option ((Bool×ByteArray×Int×Unit)⊕_)) fun r6=>match r6 with
 | .inl (x18_6,o0_0_0_6,o0_0_1_6,_)=>
 ((bif x18_6 then
 Option.bind (lex_scanner_number.F (o0_0_0_6,o0_0_1_6,())) fun y7=>
 some (y7.1,y7.2.1,y7.2.2.1,y7.2.2.2.1,y7.2.2.2.2.1,y7.2.2.2.2.2.1,y7.2.2.2.2.2.2.1,y7.2.2.2.2.2.2.2.1,())
 else
 (bif (y2.1==(4:Int)) then
 Option.bind (lex_scanner_text.F (o0_0_0_6,o0_0_1_6,())) fun y8=>
 some (y8.1,y8.2.1,y8.2.2.1,y8.2.2.2.1,y8.2.2.2.2.1,y8.2.2.2.2.2.1,y8.2.2.2.2.2.2.1,y8.2.2.2.2.2.2.2.1,())
 else
 let e9:Int:=(IntKind.i64.wrap (o0_0_1_6+(1:Int)))
 let e10:Int:=(IntKind.i64.wrap (e9-(1:Int)))
 bif (decide (0≤e10)&&(decide (e10≤e9)&&decide (e9≤(o0_0_0_6.size:Int)))) then
 let e11:ByteArray:=(o0_0_0_6.extract (Int.toNat e10) (Int.toNat e9))
 Option.bind (strings_Contains.F ((⟨#[40,41,91,93,44,61,60,43,45,42,63]⟩:ByteArray),e11,())) fun y12=>
 some ((2:Int),e11,(0:Int),(0:Int),(⟨#[]⟩:ByteArray),y12.1,o0_0_0_6,e9,())
 else none)))
 | .inr r=>some r)
noncomputable def lex_scanner_token.F:=stk lex_scanner_token.B
theorem lex_scanner_token.eq:lex_scanner_token.F=lex_scanner_token.B:=stk_eq _
theorem lex_scanner_token.ev (x:TS lex_scanner_token.si):evF clex_scanner_text inl0 (Tryz.f133.body.getD .skip) Tryz.f133.results.toList lex_scanner_token.h lex_scanner_token.si lex_scanner_token.so x=lex_scanner_token.B x:=by kernel_rfl
theorem lex_scanner_token.fn:FnOk PP 133 (Tryz.f133.body.getD .skip) Tryz.f133.results.toList Tryz.f133.ntmps:=fnOk_mk (by kernel_rfl) (by kernel_rfl) (by kernel_rfl) (by kernel_rfl)
theorem lex_scanner_token.ok:SpecOk PP 133 ⟨1,lex_scanner_token.si,lex_scanner_token.so,lex_scanner_token.F⟩:=fn_stk cxlex_scanner_text (inl0_ok _ _) mixed lex_scanner_token.fn lex_scanner_token.h (by kernel_rfl) lex_scanner_token.ev
noncomputable def splex_scanner_token:List (Nat×List (Nat×AK)×Lv.Spec):=(133,[],⟨1,lex_scanner_token.si,lex_scanner_token.so,lex_scanner_token.F⟩)::splex_scanner_text
noncomputable abbrev clex_scanner_token:Cx:=⟨tabAt tab0,eqAt eqs0,specAt splex_scanner_token,159,specPAt sq0⟩
theorem cxlex_scanner_token:CxOk PP clex_scanner_token:=cxlex_scanner_text.consS [] lex_scanner_token.fn.enters lex_scanner_token.ok
def lex_Lex.si:Sh:=⟨[(0,.v false [.str])],[],[],0,[]⟩
def lex_Lex.so:Sh:=⟨[(0,.tup [(false,[.ref 1000]),(false,[.int .i64])])],[(1000,false,.arr 111 tTok)],[],1001,[]⟩
def lex_Lex.h:H:=(.s none .n (.s none .n (.s none .n (.s none .n (.s none (.s none .n (.b (.l ⟨[(4,.v false [.ptr 1 0]),(5,.v false [.ref 0])],[(0,false,.arr 111 tTok),(1,true,.box 181 [.str,.int .i64])],[0],2,[]⟩ .n))) .n)))))
noncomputable def lex_Lex.B:ByteArray×Unit→Option (Int×(List tTokT)×Unit):=fun (p0,_)=>
 (bif (decide ((p0.size:Int)>(20000:Int))) then
 some ((60:Int),[],())
 else
 Option.bind (lex_scanner_run.F ([(5:Int)],p0,(0:Int),())) fun y1=>
 loopM (S:=(List tTokT)×ByteArray×Int×Unit) (fun (o5_0,o4_0_0,o4_0_1,_)=>
 (bif (decide (o4_0_1<(p0.size:Int))) then
 Option.bind (lex_scanner_token.F (o4_0_0,o4_0_1,())) fun y2=>
 (bif (!y2.2.2.2.2.2.1) then
 some (.inr ((60:Int),[],()))
 else
 bif (Nat.ble (o5_0.length+ [(y2.1,(y2.2.1,(y2.2.2.1,(y2.2.2.2.1,y2.2.2.2.2.1))))].length) 2513169434916) then
 Option.bind (lex_scanner_run.F ([(5:Int)],y2.2.2.2.2.2.2.1,y2.2.2.2.2.2.2.2.1,())) fun y3=>
 some (.inl ((o5_0++ [(y2.1,(y2.2.1,(y2.2.2.1,(y2.2.2.2.1,y2.2.2.2.2.1))))]),y3.2.1,y3.2.2.1,()))
 else none)
 else
 some (.inr ((0:Int),o5_0,())))) ([],y1.2.1,y1.2.2.1,()))
noncomputable def lex_Lex.F:=stk lex_Lex.B
theorem lex_Lex.eq:lex_Lex.F=lex_Lex.B:=stk_eq _
theorem lex_Lex.ev (x:TS lex_Lex.si):evF clex_scanner_token inl0 (Tryz.f107.body.getD .skip) Tryz.f107.results.toList lex_Lex.h lex_Lex.si lex_Lex.so x=lex_Lex.B x:=by kernel_rfl
theorem lex_Lex.fn:FnOk PP 107 (Tryz.f107.body.getD .skip) Tryz.f107.results.toList Tryz.f107.ntmps:=fnOk_mk (by kernel_rfl) (by kernel_rfl) (by kernel_rfl) (by kernel_rfl)
theorem lex_Lex.ok:SpecOk PP 107 ⟨1,lex_Lex.si,lex_Lex.so,lex_Lex.F⟩:=fn_stk cxlex_scanner_token (inl0_ok _ _) mixed lex_Lex.fn lex_Lex.h (by kernel_rfl) lex_Lex.ev
noncomputable def splex_Lex:List (Nat×List (Nat×AK)×Lv.Spec):=(107,[],⟨1,lex_Lex.si,lex_Lex.so,lex_Lex.F⟩)::splex_scanner_token
noncomputable abbrev clex_Lex:Cx:=⟨tabAt tab0,eqAt eqs0,specAt splex_Lex,159,specPAt sq0⟩
theorem cxlex_Lex:CxOk PP clex_Lex:=cxlex_scanner_token.consS [] lex_Lex.fn.enters lex_Lex.ok
def ddl_parser_is.si:Sh:=⟨[(0,.v false [.ptr 0 0]),(1,.v false [.sl 9 .str])],[(0,true,.box 162 [.sl 111 tTok])],[],1,[]⟩
def ddl_parser_is.so:Sh:=⟨[(0,.v false [.bool])],[(0,true,.box 162 [.sl 111 tTok])],[],1001,[(0,0)]⟩
def ddl_parser_is.h:H:=(.s none .n (.s none (.s none .n (.b (.l ⟨[(9,.v false [.int .i64])],[],[0,7,8],0,[]⟩ .n))) .n))
noncomputable def ddl_parser_is.B:(List ByteArray)×(List tTokT)×Unit→Option (Bool×(List tTokT)×Unit):=fun (p1,o0,_)=>
 loopM (S:=Int×Unit) (fun (x9,_)=>
 (bif (decide (x9<(p1.length:Int))) then
 bif (decide (0≤x9)&&decide (x9<(p1.length:Int))) then
 let e1:ByteArray:=(List.getD p1 (Int.toNat x9) (⟨#[]⟩:ByteArray))
 (bif (decide (x9≥(o0.length:Int))) then
 some (.inr (false,o0,()))
 else
 bif (decide (0≤x9)&&decide (x9<(o0.length:Int))) then
 let e2:tTokT:=(List.getD o0 (Int.toNat x9) tTok.z)
 (bif (e2.1==(1:Int)) then
 some (.inr (false,o0,()))
 else
 bif (decide (0≤x9)&&decide (x9<(o0.length:Int))) then
 let e3:tTokT:=(List.getD o0 (Int.toNat x9) tTok.z)
 (bif (!(e3.2.1.toList==e1.toList)) then
 some (.inr (false,o0,()))
 else
 let e4:Int:=(IntKind.i64.wrap (x9+(1:Int)))
 some (.inl (e4,())))
 else none)
 else none)
 else none
 else
 some (.inr (true,o0,())))) ((0:Int),())
noncomputable def ddl_parser_is.F:=stk ddl_parser_is.B
theorem ddl_parser_is.eq:ddl_parser_is.F=ddl_parser_is.B:=stk_eq _
theorem ddl_parser_is.ev (x:TS ddl_parser_is.si):evF clex_Lex inl0 (Tryz.f141.body.getD .skip) Tryz.f141.results.toList ddl_parser_is.h ddl_parser_is.si ddl_parser_is.so x=ddl_parser_is.B x:=by kernel_rfl
theorem ddl_parser_is.fn:FnOk PP 141 (Tryz.f141.body.getD .skip) Tryz.f141.results.toList Tryz.f141.ntmps:=fnOk_mk (by kernel_rfl) (by kernel_rfl) (by kernel_rfl) (by kernel_rfl)
theorem ddl_parser_is.ok:SpecOk PP 141 ⟨2,ddl_parser_is.si,ddl_parser_is.so,ddl_parser_is.F⟩:=fn_stk cxlex_Lex (inl0_ok _ _) mixed ddl_parser_is.fn ddl_parser_is.h (by kernel_rfl) ddl_parser_is.ev
noncomputable def spddl_parser_is:List (Nat×List (Nat×AK)×Lv.Spec):=(141,[],⟨2,ddl_parser_is.si,ddl_parser_is.so,ddl_parser_is.F⟩)::splex_Lex
noncomputable abbrev cddl_parser_is:Cx:=⟨tabAt tab0,eqAt eqs0,specAt spddl_parser_is,159,specPAt sq0⟩
theorem cxddl_parser_is:CxOk PP cddl_parser_is:=cxlex_Lex.consS [] ddl_parser_is.fn.enters ddl_parser_is.ok
def ddl_parser_take.si:Sh:=⟨[(0,.v false [.ptr 0 0]),(1,.v false [.sl 9 .str])],[(0,true,.box 162 [.sl 111 tTok])],[],1,[]⟩
def ddl_parser_take.so:Sh:=⟨[(0,.v false [.bool])],[(0,true,.box 162 [.sl 111 tTok])],[],1001,[(0,0)]⟩
def ddl_parser_take.h:H:=.n
noncomputable def ddl_parser_take.B:(List ByteArray)×(List tTokT)×Unit→Option (Bool×(List tTokT)×Unit):=fun (p1,o0,_)=>
 Option.bind (ddl_parser_is.F (p1,o0,())) fun y1=>
 (bif (!y1.1) then
 some (false,y1.2.1,())
 else
 bif (decide (0≤(p1.length:Int))&&(decide ((p1.length:Int)≤(y1.2.1.length:Int))&&decide ((y1.2.1.length:Int)≤(y1.2.1.length:Int)))) then
 let e2:List tTokT:=(List.drop (Int.toNat (p1.length:Int)) (List.take (Int.toNat (y1.2.1.length:Int)) y1.2.1))
 some (true,e2,())
 else none)
noncomputable def ddl_parser_take.F:=stk ddl_parser_take.B
theorem ddl_parser_take.eq:ddl_parser_take.F=ddl_parser_take.B:=stk_eq _
theorem ddl_parser_take.ev (x:TS ddl_parser_take.si):evF cddl_parser_is inl0 (Tryz.f134.body.getD .skip) Tryz.f134.results.toList ddl_parser_take.h ddl_parser_take.si ddl_parser_take.so x=ddl_parser_take.B x:=by kernel_rfl
theorem ddl_parser_take.fn:FnOk PP 134 (Tryz.f134.body.getD .skip) Tryz.f134.results.toList Tryz.f134.ntmps:=fnOk_mk (by kernel_rfl) (by kernel_rfl) (by kernel_rfl) (by kernel_rfl)
theorem ddl_parser_take.ok:SpecOk PP 134 ⟨2,ddl_parser_take.si,ddl_parser_take.so,ddl_parser_take.F⟩:=fn_stk cxddl_parser_is (inl0_ok _ _) mixed ddl_parser_take.fn ddl_parser_take.h (by kernel_rfl) ddl_parser_take.ev
noncomputable def spddl_parser_take:List (Nat×List (Nat×AK)×Lv.Spec):=(134,[],⟨2,ddl_parser_take.si,ddl_parser_take.so,ddl_parser_take.F⟩)::spddl_parser_is
noncomputable abbrev cddl_parser_take:Cx:=⟨tabAt tab0,eqAt eqs0,specAt spddl_parser_take,159,specPAt sq0⟩
theorem cxddl_parser_take:CxOk PP cddl_parser_take:=cxddl_parser_is.consS [] ddl_parser_take.fn.enters ddl_parser_take.ok
def ddl_need.si:Sh:=⟨[(0,.v false [.bool])],[],[],0,[]⟩
def ddl_need.so:Sh:=⟨[(0,.tup [])],[],[],1000,[]⟩
def ddl_need.h:H:=.n
noncomputable def ddl_need.B:Bool×Unit→Option ((Unit)⊕Int):=fun (p0,_)=>
 (bif (!p0) then
 some (.inr (70:Int))
 else
 some (.inl (())))
noncomputable def ddl_need.F:=stk ddl_need.B
theorem ddl_need.eq:ddl_need.F=ddl_need.B:=stk_eq _
theorem ddl_need.ev (x:TS ddl_need.si):evFP cddl_parser_take inl0 (Tryz.f112.body.getD .skip) Tryz.f112.results.toList ddl_need.h ddl_need.si ddl_need.so x=ddl_need.B x:=by kernel_rfl
theorem ddl_need.fn:FnOk PP 112 (Tryz.f112.body.getD .skip) Tryz.f112.results.toList Tryz.f112.ntmps:=fnOk_mk (by kernel_rfl) (by kernel_rfl) (by kernel_rfl) (by kernel_rfl)
theorem ddl_need.ok:SpecPOk PP 112 159 ⟨1,ddl_need.si,ddl_need.so,ddl_need.F⟩:=fnP_stk cxddl_parser_take (inl0_ok _ _) mixed ddl_need.fn ddl_need.h (by kernel_rfl) ddl_need.ev
noncomputable def sqddl_need:List (Nat×List (Nat×AK)×Lv.SpecP):=(112,[],⟨1,ddl_need.si,ddl_need.so,ddl_need.F⟩)::sq0
noncomputable abbrev cddl_need:Cx:=⟨tabAt tab0,eqAt eqs0,specAt spddl_parser_take,159,specPAt sqddl_need⟩
theorem cxddl_need:CxOk PP cddl_need:=cxddl_parser_take.consP [] ddl_need.fn.enters ddl_need.ok
def ddl_parser_one.si:Sh:=⟨[(0,.v false [.ptr 0 0]),(1,.v false [.sl 9 .str])],[(0,true,.box 162 [.sl 111 tTok])],[],1,[]⟩
def ddl_parser_one.so:Sh:=⟨[(0,.v false [.int .i64])],[(0,true,.box 162 [.sl 111 tTok])],[],1001,[(0,0)]⟩
def ddl_parser_one.h:H:=(.s none .n (.s (some ⟨[],[(0,true,.box 162 [.sl 111 tTok])],[],1,[(0,0)]⟩) (.s none .n (.b (.l ⟨[(0,.v false [.ptr 0 0]),(9,.v false [.int .i64])],[(0,true,.box 162 [.sl 111 tTok])],[7,8],1,[]⟩ .n))) .n))
noncomputable def ddl_parser_one.B:(List ByteArray)×(List tTokT)×Unit→Option ((Int×(List tTokT)×Unit)⊕Int):=fun (p1,o0,_)=>
 Option.bind (
 loopM (S:=Int×(List tTokT)×Unit) (fun (x9,o0_0,_)=>
 (bif (decide (x9<(p1.length:Int))) then
 bif (decide (0≤x9)&&decide (x9<(p1.length:Int))) then
 let e1:ByteArray:=(List.getD p1 (Int.toNat x9) (⟨#[]⟩:ByteArray))
 Option.bind (ddl_parser_take.F ([e1],o0_0,())) fun y2=>
 (bif y2.1 then
 some (.inr (.inr (.inl (x9,y2.2.1,()))))
 else
 let e3:Int:=(IntKind.i64.wrap (x9+(1:Int)))
 some (.inl (e3,y2.2.1,())))
 else none
 else
 some (.inr (.inl (o0_0,()))))) ((0:Int),o0,()):Option (((List tTokT)×Unit)⊕_)) fun r4=>match r4 with
 | .inl (oin_0_4,_)=>
 (Option.bind (ddl_need.F (false,())) fun zy5=>match zy5 with
 | .inl y5=>
 (some (.inl ((0:Int),oin_0_4,())))
 | .inr n6=>some (.inr n6))
 | .inr r=>some r
noncomputable def ddl_parser_one.F:=stk ddl_parser_one.B
theorem ddl_parser_one.eq:ddl_parser_one.F=ddl_parser_one.B:=stk_eq _
theorem ddl_parser_one.ev (x:TS ddl_parser_one.si):evFP cddl_need inl0 (Tryz.f109.body.getD .skip) Tryz.f109.results.toList ddl_parser_one.h ddl_parser_one.si ddl_parser_one.so x=ddl_parser_one.B x:=by kernel_rfl
theorem ddl_parser_one.fn:FnOk PP 109 (Tryz.f109.body.getD .skip) Tryz.f109.results.toList Tryz.f109.ntmps:=fnOk_mk (by kernel_rfl) (by kernel_rfl) (by kernel_rfl) (by kernel_rfl)
theorem ddl_parser_one.ok:SpecPOk PP 109 159 ⟨2,ddl_parser_one.si,ddl_parser_one.so,ddl_parser_one.F⟩:=fnP_stk cxddl_need (inl0_ok _ _) mixed ddl_parser_one.fn ddl_parser_one.h (by kernel_rfl) ddl_parser_one.ev
noncomputable def sqddl_parser_one:List (Nat×List (Nat×AK)×Lv.SpecP):=(109,[],⟨2,ddl_parser_one.si,ddl_parser_one.so,ddl_parser_one.F⟩)::sqddl_need
noncomputable abbrev cddl_parser_one:Cx:=⟨tabAt tab0,eqAt eqs0,specAt spddl_parser_take,159,specPAt sqddl_parser_one⟩
theorem cxddl_parser_one:CxOk PP cddl_parser_one:=cxddl_need.consP [] ddl_parser_one.fn.enters ddl_parser_one.ok
def ddl_parser_next.si:Sh:=⟨[(0,.v false [.ptr 0 0])],[(0,true,.box 162 [.sl 111 tTok])],[],1,[]⟩
def ddl_parser_next.so:Sh:=⟨[(0,.v true [.int .i64,.str,.int .i64,.int .i64,.str])],[(0,true,.box 162 [.sl 111 tTok])],[],1001,[(0,0)]⟩
def ddl_parser_next.h:H:=.n
noncomputable def ddl_parser_next.B:(List tTokT)×Unit→Option ((Int×ByteArray×Int×Int×ByteArray×(List tTokT)×Unit)⊕Int):=fun (o0,_)=>
 Option.bind (ddl_need.F ((decide ((o0.length:Int)>(0:Int))),())) fun zy1=>match zy1 with
 | .inl y1=>
 (bif (decide (0≤(0:Int))&&decide ((0:Int)<(o0.length:Int))) then
 let e2:tTokT:=(List.getD o0 0 tTok.z)
 bif (decide (0≤(1:Int))&&(decide ((1:Int)≤(o0.length:Int))&&decide ((o0.length:Int)≤(o0.length:Int)))) then
 let e3:List tTokT:=(List.drop (Int.toNat (1:Int)) (List.take (Int.toNat (o0.length:Int)) o0))
 some (.inl (e2.1,e2.2.1,e2.2.2.1,e2.2.2.2.1,e2.2.2.2.2,e3,()))
 else none
 else none)
 | .inr n4=>some (.inr n4)
noncomputable def ddl_parser_next.F:=stk ddl_parser_next.B
theorem ddl_parser_next.eq:ddl_parser_next.F=ddl_parser_next.B:=stk_eq _
theorem ddl_parser_next.ev (x:TS ddl_parser_next.si):evFP cddl_parser_one inl0 (Tryz.f161.body.getD .skip) Tryz.f161.results.toList ddl_parser_next.h ddl_parser_next.si ddl_parser_next.so x=ddl_parser_next.B x:=by kernel_rfl
theorem ddl_parser_next.fn:FnOk PP 161 (Tryz.f161.body.getD .skip) Tryz.f161.results.toList Tryz.f161.ntmps:=fnOk_mk (by kernel_rfl) (by kernel_rfl) (by kernel_rfl) (by kernel_rfl)
theorem ddl_parser_next.ok:SpecPOk PP 161 159 ⟨1,ddl_parser_next.si,ddl_parser_next.so,ddl_parser_next.F⟩:=fnP_stk cxddl_parser_one (inl0_ok _ _) mixed ddl_parser_next.fn ddl_parser_next.h (by kernel_rfl) ddl_parser_next.ev
noncomputable def sqddl_parser_next:List (Nat×List (Nat×AK)×Lv.SpecP):=(161,[],⟨1,ddl_parser_next.si,ddl_parser_next.so,ddl_parser_next.F⟩)::sqddl_parser_one
noncomputable abbrev cddl_parser_next:Cx:=⟨tabAt tab0,eqAt eqs0,specAt spddl_parser_take,159,specPAt sqddl_parser_next⟩
theorem cxddl_parser_next:CxOk PP cddl_parser_next:=cxddl_parser_one.consP [] ddl_parser_next.fn.enters ddl_parser_next.ok
def ddl_keywords.si:Sh:=⟨[],[],[],0,[]⟩
def ddl_keywords.so:Sh:=⟨[(0,.v false [.ref 1000])],[(1000,false,.arr 9 .str)],[],1001,[]⟩
def ddl_keywords.h:H:=.n
noncomputable def ddl_keywords.B:Unit→Option ((List ByteArray)×Unit):=fun (_)=>
 some ([(⟨#[116,97,98,108,101]⟩:ByteArray),(⟨#[99,104,101,99,107]⟩:ByteArray),(⟨#[118,105,101,119]⟩:ByteArray),(⟨#[102,114,111,109]⟩:ByteArray),(⟨#[106,111,105,110]⟩:ByteArray),(⟨#[111,110]⟩:ByteArray),(⟨#[119,104,101,114,101]⟩:ByteArray),(⟨#[112,105,99,107]⟩:ByteArray),(⟨#[103,114,111,117,112]⟩:ByteArray),(⟨#[98,111,111,108]⟩:ByteArray),(⟨#[105,110,116]⟩:ByteArray),(⟨#[116,101,120,116]⟩:ByteArray),(⟨#[110,117,108,108]⟩:ByteArray),(⟨#[117,110,105,113,117,101]⟩:ByteArray),(⟨#[114,101,102]⟩:ByteArray),(⟨#[114,101,115,116,114,105,99,116]⟩:ByteArray),(⟨#[99,97,115,99,97,100,101]⟩:ByteArray),(⟨#[115,101,116,110,117,108,108]⟩:ByteArray),(⟨#[99,111,117,110,116]⟩:ByteArray),(⟨#[115,117,109]⟩:ByteArray),(⟨#[109,105,110]⟩:ByteArray),(⟨#[109,97,120]⟩:ByteArray),(⟨#[116,114,117,101]⟩:ByteArray),(⟨#[102,97,108,115,101]⟩:ByteArray),(⟨#[97,110,100]⟩:ByteArray),(⟨#[111,114]⟩:ByteArray),(⟨#[110,111,116]⟩:ByteArray)],())
noncomputable def ddl_keywords.F:=stk ddl_keywords.B
theorem ddl_keywords.eq:ddl_keywords.F=ddl_keywords.B:=stk_eq _
theorem ddl_keywords.ev (x:TS ddl_keywords.si):evF cddl_parser_next inl0 (Tryz.f175.body.getD .skip) Tryz.f175.results.toList ddl_keywords.h ddl_keywords.si ddl_keywords.so x=ddl_keywords.B x:=by kernel_rfl
theorem ddl_keywords.fn:FnOk PP 175 (Tryz.f175.body.getD .skip) Tryz.f175.results.toList Tryz.f175.ntmps:=fnOk_mk (by kernel_rfl) (by kernel_rfl) (by kernel_rfl) (by kernel_rfl)
theorem ddl_keywords.ok:SpecOk PP 175 ⟨0,ddl_keywords.si,ddl_keywords.so,ddl_keywords.F⟩:=fn_stk cxddl_parser_next (inl0_ok _ _) mixed ddl_keywords.fn ddl_keywords.h (by kernel_rfl) ddl_keywords.ev
noncomputable def spddl_keywords:List (Nat×List (Nat×AK)×Lv.Spec):=(175,[],⟨0,ddl_keywords.si,ddl_keywords.so,ddl_keywords.F⟩)::spddl_parser_take
noncomputable abbrev cddl_keywords:Cx:=⟨tabAt tab0,eqAt eqs0,specAt spddl_keywords,159,specPAt sqddl_parser_next⟩
theorem cxddl_keywords:CxOk PP cddl_keywords:=cxddl_parser_next.consS [] ddl_keywords.fn.enters ddl_keywords.ok
def slices_Index_sl_string_string.si:Sh:=⟨[(0,.v false [.sl 9 .str]),(1,.v false [.str])],[],[],0,[]⟩
def slices_Index_sl_string_string.so:Sh:=⟨[(0,.v false [.int .i64])],[],[],1000,[]⟩
def slices_Index_sl_string_string.h:H:=(.s none .n (.s none (.s none .n (.b (.l ⟨[(8,.v false [.int .i64])],[],[0,1,7],0,[]⟩ .n))) .n))
noncomputable def slices_Index_sl_string_string.B:(List ByteArray)×ByteArray×Unit→Option (Int×Unit):=fun (p0,p1,_)=>
 loopM (S:=Int×Unit) (fun (x8,_)=>
 (bif (decide (x8<(p0.length:Int))) then
 bif (decide (0≤x8)&&decide (x8<(p0.length:Int))) then
 let e1:ByteArray:=(List.getD p0 (Int.toNat x8) (⟨#[]⟩:ByteArray))
 (bif (p1.toList==e1.toList) then
 some (.inr (x8,()))
 else
 let e2:Int:=(IntKind.i64.wrap (x8+(1:Int)))
 some (.inl (e2,())))
 else none
 else
 some (.inr ((-1:Int),())))) ((0:Int),())
noncomputable def slices_Index_sl_string_string.F:=stk slices_Index_sl_string_string.B
theorem slices_Index_sl_string_string.eq:slices_Index_sl_string_string.F=slices_Index_sl_string_string.B:=stk_eq _
theorem slices_Index_sl_string_string.ev (x:TS slices_Index_sl_string_string.si):evF cddl_keywords inl0 (Tryz.f188.body.getD .skip) Tryz.f188.results.toList slices_Index_sl_string_string.h slices_Index_sl_string_string.si slices_Index_sl_string_string.so x=slices_Index_sl_string_string.B x:=by kernel_rfl
theorem slices_Index_sl_string_string.fn:FnOk PP 188 (Tryz.f188.body.getD .skip) Tryz.f188.results.toList Tryz.f188.ntmps:=fnOk_mk (by kernel_rfl) (by kernel_rfl) (by kernel_rfl) (by kernel_rfl)
theorem slices_Index_sl_string_string.ok:SpecOk PP 188 ⟨2,slices_Index_sl_string_string.si,slices_Index_sl_string_string.so,slices_Index_sl_string_string.F⟩:=fn_stk cxddl_keywords (inl0_ok _ _) mixed slices_Index_sl_string_string.fn slices_Index_sl_string_string.h (by kernel_rfl) slices_Index_sl_string_string.ev
noncomputable def spslices_Index_sl_string_string:List (Nat×List (Nat×AK)×Lv.Spec):=(188,[],⟨2,slices_Index_sl_string_string.si,slices_Index_sl_string_string.so,slices_Index_sl_string_string.F⟩)::spddl_keywords
noncomputable abbrev cslices_Index_sl_string_string:Cx:=⟨tabAt tab0,eqAt eqs0,specAt spslices_Index_sl_string_string,159,specPAt sqddl_parser_next⟩
theorem cxslices_Index_sl_string_string:CxOk PP cslices_Index_sl_string_string:=cxddl_keywords.consS [] slices_Index_sl_string_string.fn.enters slices_Index_sl_string_string.ok
end Go.Proofs.Ytleadolkcmagfaa
