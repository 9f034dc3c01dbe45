import Derived.Test.YtnhiifengimfgaaGreatDoorM4
set_option linter.all false
set_option linter.unusedVariables false
set_option linter.unusedSimpArgs false
set_option linter.unusedSectionVars false
set_option maxRecDepth 100000
namespace Go.Proofs.Ytnhiifengimfgaa
open Go Lv Go.Proofs Go.RowKit Go.Shelf
variable [Lk]
abbrev tValueT:=Int×(Int×ByteArray)
abbrev tValue:Ty:=(.pair (.int .i64) (.pair (.int .i64) .str))
abbrev tNodeT:=Int×(Int×tValueT)
abbrev tNode:Ty:=(.pair (.int .i64) (.pair (.int .i64) tValue))
abbrev tColumnT:=ByteArray×(Int×(Bool×(Bool×(ByteArray×Int))))
abbrev tColumn:Ty:=(.pair .str (.pair (.int .i64) (.pair .bool (.pair .bool (.pair .str (.int .i64))))))
abbrev tTableT:=ByteArray×((List tColumnT)×(List (List tNodeT)))
abbrev tTable:Ty:=(.pair .str (.pair (.sl 43 tColumn) (.sl 63 (.sl 77 tNode))))
abbrev tAggT:=Int×Int
abbrev tAgg:Ty:=(.pair (.int .i64) (.int .i64))
abbrev tViewT:=ByteArray×(ByteArray×(ByteArray×(tAggT×((List tNodeT)×((List Int)×(Bool×(List tAggT)))))))
abbrev tView:Ty:=(.pair .str (.pair .str (.pair .str (.pair tAgg (.pair (.sl 77 tNode) (.pair (.sl 3 (.int .i64)) (.pair .bool (.sl 103 tAgg))))))))
abbrev tDefT:=Int×(tTableT×tViewT)
abbrev tDef:Ty:=(.pair (.int .i64) (.pair tTable tView))
abbrev tTokT:=Int×(ByteArray×tValueT)
abbrev tTok:Ty:=(.pair (.int .i64) (.pair .str tValue))
abbrev tParserT:=(List tTokT)×(Int×Bool)
abbrev tParser:Ty:=(.pair (.sl 136 tTok) (.pair (.int .i64) .bool))
abbrev tCountT:=(List tValueT)×Int
abbrev tCount:Ty:=(.pair (.sl 45 tValue) (.int .i64))
abbrev tSourceT:=ByteArray×(List tCountT)
abbrev tSource:Ty:=(.pair .str (.sl 49 tCount))
abbrev tScannerT:=ByteArray×Int
abbrev tScanner:Ty:=(.pair .str (.int .i64))
abbrev tBuilderT:=Value×(List Int)
abbrev tBuilder:Ty:=(.pair .val (.sl 5 (.int .u8)))
abbrev tTyperT:=((List Int)×Bool)×(List Int)
abbrev tTyper:Ty:=(.pair (.pair (.sl 3 (.int .i64)) .bool) (.sl 3 (.int .i64)))
abbrev tCheckerT:=tTableT×((List tCountT)×(List tSourceT))
abbrev tChecker:Ty:=(.pair tTable (.pair (.sl 49 tCount) (.sl 72 tSource)))
abbrev tEvaluatorT:=((List tValueT)×Bool)×(List tValueT)
abbrev tEvaluator:Ty:=(.pair (.pair (.sl 45 tValue) .bool) (.sl 45 tValue))
abbrev tViolationT:=Int×tScannerT
abbrev tViolation:Ty:=(.pair (.int .i64) tScanner)
noncomputable abbrev PP:=Tryz.prog
def tab0:List (Nat×TI):=[
 (3,⟨.int .i64,1,8,17592186044416,[.int .i64 0],some (.int .i64)⟩),
 (4,⟨.bool,1,1,140737488355328,[.bool false],some .bool⟩),
 (5,⟨.int .u8,1,1,140737488355328,[.int .u8 0],some (.int .u8)⟩),
 (9,⟨.str,1,16,8796093022208,[.string ⟨#[]⟩],some .str⟩),
 (20,⟨.ifc,1,16,8796093022208,[.nilIface],some .val⟩),
 (23,⟨.sl 69,1,24,5864062014805,[.slice none 0 0],some (.sl 69 tDef)⟩),
 (24,⟨.sl 72,1,24,5864062014805,[.slice none 0 0],some (.sl 72 tSource)⟩),
 (29,⟨.int .i64,1,8,17592186044416,[.int .i64 0],some (.int .i64)⟩),
 (31,⟨.st [(29,0),(9,1),(3,2)],3,32,4398046511104,[.int .i64 0,.string ⟨#[]⟩,.int .i64 0],some tViolation⟩),
 (33,⟨.sl 41,1,24,5864062014805,[.slice none 0 0],some (.sl 41 tTable)⟩),
 (36,⟨.sl 49,1,24,5864062014805,[.slice none 0 0],some (.sl 49 tCount)⟩),
 (38,⟨.sl 43,1,24,5864062014805,[.slice none 0 0],some (.sl 43 tColumn)⟩),
 (39,⟨.sl 63,1,24,5864062014805,[.slice none 0 0],some (.sl 63 (.sl 77 tNode))⟩),
 (41,⟨.st [(9,0),(38,1),(39,2)],3,64,2199023255552,[.string ⟨#[]⟩,.slice none 0 0,.slice none 0 0],some tTable⟩),
 (43,⟨.st [(9,0),(3,1),(4,2),(4,3),(9,4),(3,5)],6,56,2513169434916,[.string ⟨#[]⟩,.int .i64 0,.bool false,.bool false,.string ⟨#[]⟩,.int .i64 0],some tColumn⟩),
 (45,⟨.st [(3,0),(3,1),(9,2)],3,32,4398046511104,[.int .i64 0,.int .i64 0,.string ⟨#[]⟩],some tValue⟩),
 (46,⟨.sl 45,1,24,5864062014805,[.slice none 0 0],some (.sl 45 tValue)⟩),
 (47,⟨.sl 45,1,24,5864062014805,[.slice none 0 0],some (.sl 45 tValue)⟩),
 (49,⟨.st [(47,0),(3,1)],2,32,4398046511104,[.slice none 0 0,.int .i64 0],some tCount⟩),
 (52,⟨.st [(9,0),(3,1)],2,24,5864062014805,[.string ⟨#[]⟩,.int .i64 0],some tScanner⟩),
 (58,⟨.sl 47,1,24,5864062014805,[.slice none 0 0],some (.sl 47 (.sl 45 tValue))⟩),
 (61,⟨.arr 2 3,2,16,8796093022208,[.int .i64 0,.int .i64 0],some tAgg⟩),
 (63,⟨.sl 77,1,24,5864062014805,[.slice none 0 0],some (.sl 77 tNode)⟩),
 (64,⟨.sl 3,1,24,5864062014805,[.slice none 0 0],some (.sl 3 (.int .i64))⟩),
 (65,⟨.sl 103,1,24,5864062014805,[.slice none 0 0],some (.sl 103 tAgg)⟩),
 (67,⟨.st [(9,0),(9,1),(9,2),(61,3),(63,5),(64,6),(4,7),(65,8)],9,144,977343669134,[.string ⟨#[]⟩,.string ⟨#[]⟩,.string ⟨#[]⟩,.int .i64 0,.int .i64 0,.slice none 0 0,.slice none 0 0,.bool false,.slice none 0 0],some tView⟩),
 (69,⟨.st [(3,0),(41,1),(67,4)],13,216,651562446089,[.int .i64 0,.string ⟨#[]⟩,.slice none 0 0,.slice none 0 0,.string ⟨#[]⟩,.string ⟨#[]⟩,.string ⟨#[]⟩,.int .i64 0,.int .i64 0,.slice none 0 0,.slice none 0 0,.bool false,.slice none 0 0],some tDef⟩),
 (72,⟨.st [(9,0),(36,1)],2,40,3518437208883,[.string ⟨#[]⟩,.slice none 0 0],some tSource⟩),
 (77,⟨.st [(3,0),(3,1),(45,2)],5,48,2932031007402,[.int .i64 0,.int .i64 0,.int .i64 0,.int .i64 0,.string ⟨#[]⟩],some tNode⟩),
 (91,⟨.st [(41,0),(36,3),(24,4)],5,112,1256584717458,[.string ⟨#[]⟩,.slice none 0 0,.slice none 0 0,.slice none 0 0,.slice none 0 0],some tChecker⟩),
 (92,⟨.other,1,8,17592186044416,[.nilFunc],some .val⟩),
 (93,⟨.st [(92,0),(29,1)],2,16,8796093022208,[.nilFunc,.int .i64 0],some (.pair .val (.int .i64))⟩),
 (94,⟨.sl 93,1,24,5864062014805,[.slice none 0 0],some (.sl 93 (.pair .val (.int .i64)))⟩),
 (99,⟨.other,1,8,17592186044416,[.nilFunc],some .val⟩),
 (103,⟨.st [(3,0),(3,1)],2,16,8796093022208,[.int .i64 0,.int .i64 0],some tAgg⟩),
 (104,⟨.sl 9,1,24,5864062014805,[.slice none 0 0],some (.sl 9 .str)⟩),
 (105,⟨.sl 136,1,24,5864062014805,[.slice none 0 0],some (.sl 136 tTok)⟩),
 (110,⟨.st [(105,0),(3,1),(4,2)],3,40,3518437208883,[.slice none 0 0,.int .i64 0,.bool false],some tParser⟩),
 (120,⟨.sl 4,1,24,5864062014805,[.slice none 0 0],some (.sl 4 .bool)⟩),
 (128,⟨.map 45 4,1,8,17592186044416,[.map none],some .val⟩),
 (133,⟨.int .u64,1,8,17592186044416,[.int .u64 0],some (.int .u64)⟩),
 (136,⟨.st [(3,0),(9,1),(45,2)],5,56,2513169434916,[.int .i64 0,.string ⟨#[]⟩,.int .i64 0,.int .i64 0,.string ⟨#[]⟩],some tTok⟩),
 (158,⟨.st [(46,0),(4,1)],2,32,4398046511104,[.slice none 0 0,.bool false],some (.pair (.sl 45 tValue) .bool)⟩),
 (160,⟨.st [(158,0),(47,2)],3,56,2513169434916,[.slice none 0 0,.bool false,.slice none 0 0],some tEvaluator⟩),
 (181,⟨.ptr,1,8,17592186044416,[.pointer none],some .val⟩),
 (183,⟨.st [(104,0)],1,24,5864062014805,[.slice none 0 0],some (.sl 9 .str)⟩),
 (203,⟨.sl 5,1,24,5864062014805,[.slice none 0 0],some (.sl 5 (.int .u8))⟩),
 (205,⟨.st [(202,0),(203,1)],2,32,4398046511104,[.pointer none,.slice none 0 0],some tBuilder⟩),
 (207,⟨.ifc,1,16,8796093022208,[.nilIface],some .val⟩),
 (211,⟨.st [(29,0)],1,8,17592186044416,[.int .i64 0],some (.int .i64)⟩),
 (212,⟨.ptr,1,8,17592186044416,[.pointer none],some .val⟩),
 (214,⟨.st [(105,0)],1,24,5864062014805,[.slice none 0 0],some (.sl 136 tTok)⟩),
 (220,⟨.int .u64,1,8,17592186044416,[.int .u64 0],some (.int .u64)⟩),
 (225,⟨.st [(64,0),(4,1)],2,32,4398046511104,[.slice none 0 0,.bool false],some (.pair (.sl 3 (.int .i64)) .bool)⟩),
 (227,⟨.st [(225,0),(64,2)],3,56,2513169434916,[.slice none 0 0,.bool false,.slice none 0 0],some tTyper⟩),
 (239,⟨.st [(9,0),(3,1)],2,24,5864062014805,[.string ⟨#[]⟩,.int .i64 0],some tScanner⟩),
 (241,⟨.int .i64,1,8,17592186044416,[.int .i64 0],some (.int .i64)⟩),
 (246,⟨.int .u32,1,4,35184372088832,[.int .u32 0],some (.int .u32)⟩),
 (252,⟨.map 9 45,1,8,17592186044416,[.map none],some .val⟩),
 (260,⟨.sl 241,1,24,5864062014805,[.slice none 0 0],some (.sl 241 (.int .i64))⟩),
 (274,⟨.map 9 3,1,8,17592186044416,[.map none],some .val⟩)]
def eqs0:List (Nat×Ty):=[(31,tViolation),(43,tColumn),(45,tValue),(61,tAgg),(77,tNode),(103,tAgg)]
theorem tab_ok:TabOk PP (tabAt tab0):=tabOk_of (by kernel_rfl)
theorem eqs_ok:EqOk PP (eqAt eqs0):=eqOk_of tab_ok (by kernel_rfl)
theorem mixed:PP.follows .mixedOrders=true:=by kernel_rfl
noncomputable abbrev cx (s:SpL) (q:SqL):Cx:=⟨tabAt tab0,eqAt eqs0,specAt s,211,specPAt q⟩
abbrev Ck (s:SpL) (q:SqL):Prop:=CxOk PP (cx s q)
abbrev Kk (s:SpL) (q:SqL) (l:InT) (f:Func) (d:Fe) (B:TS d.si→Option (TS d.so)):=Fk PP (cx s q) l f d B
abbrev Kp (s:SpL) (q:SqL) (l:InT) (f:Func) (d:Fe) (B:TS d.si→Option (TS d.so⊕Int)):=FkP PP (cx s q) l f d B
theorem zero:Ck [] []:=CxOk.nilP tab_ok eqs_ok
theorem cS {s:SpL} {q:SqL} (c:Ck s q) {l:InT} {f:Func} {d:Fe} {B:TS d.si→Option (TS d.so)} {key:List (Nat×AK)} (k:Kk s q l f d B):Ck (d.e key (stk B)::s) q:=CxOk.consS c key (fnB_ok k.fn k.fb).enters (k.ok c mixed)
theorem cSa {s:SpL} {q:SqL} (c:Ck s q) {l:InT} {f:Func} {d:Fe} {b:AgF→TS d.si→Option (TS d.so)} {key:List (Nat×AK)} (k:Kk s q l f d (b agT)) (h:b agT=b agI):Ck (d.e key (stk (b agI))::s) q:=by
  rw [h] at k
  exact cS c k
theorem cP {s:SpL} {q:SqL} (c:Ck s q) {l:InT} {f:Func} {d:Fe} {B:TS d.si→Option (TS d.so⊕Int)} {key:List (Nat×AK)} (k:Kp s q l f d B):Ck s (d.p key (stk B)::q):=CxOk.consP c key (fnB_ok k.fn k.fb).enters (k.ok c mixed)
theorem cPa {s:SpL} {q:SqL} (c:Ck s q) {l:InT} {f:Func} {d:Fe} {b:AgF→TS d.si→Option (TS d.so⊕Int)} {key:List (Nat×AK)} (k:Kp s q l f d (b agT)) (h:b agT=b agI):Ck s (d.p key (stk (b agI))::q):=by
  rw [h] at k
  exact cP c k
/-! levee/leveeref03.Big -/
def R03_Big.d:Fe:=⟨28,1,⟨[(0,.v false [.sl 77 tNode])],[],[],0,[]⟩,⟨[(0,.v false [.bool])],[],[],1000,[]⟩,(.s none .n (.s (some ⟨[],[],[0],0,[]⟩) (.s none .n (.b (.l ⟨[(3,.v false [.int .i64])],[],[0],0,[]⟩ .n))) .n))⟩
noncomputable def R03_Big.B:(List tNodeT)×Unit→Option (Bool×Unit):=fun (p0,_)=>
  jn (S:=Unit) (
  loopM (S:=Int×Unit) (fun (x3,_)=>
  (bif (decide (x3<(p0.length:Int))) then
  ck (ib x3 p0.length)<|
  let e1:tNodeT:=(gt p0 x3 tNode.z)
  (bif (decide ((e1.2.2.2.2.size:Int)>(1000:Int))) then
  ir (.inr (true,()))
  else
  let e2:Int:=(wr (x3+(1:Int)))
  il (e2,()))
  else
  ir (.inl (())))) ((0:Int),())) fun (_)=>
  some ((decide ((p0.length:Int)>(120:Int))),())
noncomputable def R03_Big.F:=stk R03_Big.B
theorem R03_Big.eq:R03_Big.F=R03_Big.B:=stk_eq _
theorem R03_Big.k:Kk [] [] [] Tryz.f28 R03_Big.d R03_Big.B:={}
noncomputable def R03_Big.s:SpL:=R03_Big.d.e [] R03_Big.F::[]
theorem R03_Big.c:Ck R03_Big.s []:=cS zero R03_Big.k
/-! levee/leveeref07.Big -/
def R07_Big.d:Fe:=⟨18,1,⟨[(0,.v true [.int .i64,.str,.sl 43 tColumn,.sl 63 (.sl 77 tNode),.str,.str,.str,.int .i64,.int .i64,.sl 77 tNode,.sl 3 (.int .i64),.bool,.sl 103 tAgg])],[],[],0,[]⟩,⟨[(0,.v false [.bool])],[],[],1000,[]⟩,(.s none .n (.s none .n (.s (some ⟨[(3,.v false [.int .i64])],[],[1],0,[]⟩) (.s none .n (.b (.l ⟨[(3,.v false [.int .i64]),(4,.v false [.int .i64])],[],[1],0,[]⟩ .n))) (.s (some ⟨[],[],[1,3],0,[]⟩) (.s none .n (.b (.l ⟨[(5,.v false [.int .i64])],[],[1,3],0,[]⟩ .n))) .n))))⟩
noncomputable def R07_Big.B:Int×ByteArray×(List tColumnT)×(List (List tNodeT))×ByteArray×ByteArray×ByteArray×Int×Int×(List tNodeT)×(List Int)×Bool×(List tAggT)×Unit→Option (Bool×Unit):=fun (p0_0,p0_1,p0_2,p0_3,p0_4,p0_5,p0_6,p0_7,p0_8,p0_9,p0_10,p0_11,p0_12,_)=>
  let e1:Int:=(wr ((p0_2.length:Int)+(p0_3.length:Int)))
  let e2:Int:=(wr (e1+(p0_10.length:Int)))
  let e3:Int:=(wr (e2+(p0_12.length:Int)))
  let e4:Int:=(wr (e3+(p0_9.length:Int)))
  jn (S:=Int×Unit) (
  loopM (S:=Int×Int×Unit) (fun (x3,x4,_)=>
  (bif (decide (x4<(p0_3.length:Int))) then
  ck (ib x4 p0_3.length)<|
  let e5:(List tNodeT):=(gt p0_3 x4 [])
  let e6:Int:=(wr (x3+(e5.length:Int)))
  ck (ib x4 p0_3.length)<|
  let e7:(List tNodeT):=(gt p0_3 x4 [])
  (R03_Big.F (e7,())).bind fun y8=>
  (bif y8.1 then
  ir (.inr (true,()))
  else
  let e9:Int:=(wr (x4+(1:Int)))
  il (e6,e9,()))
  else
  ir (.inl (x3,())))) (e4,(0:Int),())) fun (x3_10,_)=>
  jn (S:=Unit) (
  loopM (S:=Int×Unit) (fun (x5,_)=>
  (bif (decide (x5<(p0_2.length:Int))) then
  ck (ib x5 p0_2.length)<|
  let e11:tColumnT:=(gt p0_2 x5 tColumn.z)
  (bif (decide ((e11.1.size:Int)>(100:Int))) then
  ir (.inr (true,()))
  else
  ck (ib x5 p0_2.length)<|
  let e12:tColumnT:=(gt p0_2 x5 tColumn.z)
  (bif (decide ((e12.2.2.2.2.1.size:Int)>(100:Int))) then
  ir (.inr (true,()))
  else
  let e13:Int:=(wr (x5+(1:Int)))
  il (e13,())))
  else
  ir (.inl (())))) ((0:Int),())) fun (_)=>
  (bif (decide (x3_10>(400:Int))) then
  some (true,())
  else
  (R03_Big.F (p0_9,())).bind fun y15=>
  (bif y15.1 then
  some (true,())
  else
  (bif (decide ((p0_1.size:Int)>(100:Int))) then
  some (true,())
  else
  (bif (decide ((p0_4.size:Int)>(100:Int))) then
  some (true,())
  else
  (bif (decide ((p0_5.size:Int)>(100:Int))) then
  some (true,())
  else
  some ((decide ((p0_6.size:Int)>(100:Int))),()))))))
noncomputable def R07_Big.F:=stk R07_Big.B
theorem R07_Big.eq:R07_Big.F=R07_Big.B:=stk_eq _
theorem R07_Big.k:Kk R03_Big.s [] [] Tryz.f18 R07_Big.d R07_Big.B:={}
noncomputable def R07_Big.s:SpL:=R07_Big.d.e [] R07_Big.F::R03_Big.s
theorem R07_Big.c:Ck R07_Big.s []:=cS R03_Big.c R07_Big.k
/-! levee/leveeref01.Digits -/
def R01_Digits.d:Fe:=⟨77,1,⟨[(0,.v false [.int .u64])],[],[],0,[]⟩,⟨[(0,.v false [.str])],[],[],1000,[]⟩,(.s none .n (.s none .n (.s (some ⟨[(0,.v false [.int .u64]),(3,.v false [.str])],[],[],0,[]⟩) (.b (.l ⟨[(0,.v false [.int .u64]),(3,.v false [.str])],[],[],0,[]⟩ .n)) .n)))⟩
noncomputable def R01_Digits.B:Int×Unit→Option (ByteArray×Unit):=fun (p0,_)=>
  jn (S:=Int×ByteArray×Unit) (
  loopM (S:=Int×ByteArray×Unit) (fun (x0,x3,_)=>
  (bif (decide (x0>(9:Int))) then
  ck (!decide ((10:Int)=0))<|
  let e1:Int:=(Int.tmod x0 (10:Int))
  ck (!decide ((10:Int)=0))<|
  let e2:Int:=(Int.tmod x0 (10:Int))
  let e3:Int:=(IntKind.u64.wrap (e2+(1:Int)))
  ck (sb e1 e3 (⟨#[48,49,50,51,52,53,54,55,56,57]⟩:ByteArray).size)<|
  let e4:ByteArray:=((⟨#[48,49,50,51,52,53,54,55,56,57]⟩:ByteArray).extract (Int.toNat e1) (Int.toNat e3))
  ck (ca e4 x3)<|
  let e5:ByteArray:=(e4++x3)
  ck (!decide ((10:Int)=0))<|
  let e6:Int:=(IntKind.u64.wrap (Int.tdiv x0 (10:Int)))
  il (e6,e5,())
  else
  ir (.inl (x0,x3,())))) (p0,(⟨#[]⟩:ByteArray),())) fun (x0_7,x3_7,_)=>
  let e8:Int:=(IntKind.u64.wrap (x0_7+(1:Int)))
  ck (sb x0_7 e8 (⟨#[48,49,50,51,52,53,54,55,56,57]⟩:ByteArray).size)<|
  let e9:ByteArray:=((⟨#[48,49,50,51,52,53,54,55,56,57]⟩:ByteArray).extract (Int.toNat x0_7) (Int.toNat e8))
  ck (ca e9 x3_7)<|
  let e10:ByteArray:=(e9++x3_7)
  some (e10,())
noncomputable def R01_Digits.F:=stk R01_Digits.B
theorem R01_Digits.eq:R01_Digits.F=R01_Digits.B:=stk_eq _
theorem R01_Digits.k:Kk R07_Big.s [] [] Tryz.f77 R01_Digits.d R01_Digits.B:={}
noncomputable def R01_Digits.s:SpL:=R01_Digits.d.e [] R01_Digits.F::R07_Big.s
theorem R01_Digits.c:Ck R01_Digits.s []:=cS R07_Big.c R01_Digits.k
/-! levee/leveeref01.Signed -/
def R01_Signed.d:Fe:=⟨50,1,⟨[(0,.v false [.int .i64])],[],[],0,[]⟩,⟨[(0,.v false [.str])],[],[],1000,[]⟩,.n⟩
noncomputable def R01_Signed.B:Int×Unit→Option (ByteArray×Unit):=fun (p0,_)=>
  (bif (decide (p0<(0:Int))) then
  let e1:Int:=(wr (p0+(1:Int)))
  let e2:Int:=(IntKind.u64.wrap ((IntKind.u64.wrap ((wr (0-e1))))+(1:Int)))
  (R01_Digits.F (e2,())).bind fun y3=>
  ck (ca (⟨#[45]⟩:ByteArray) y3.1)<|
  let e4:ByteArray:=((⟨#[45]⟩:ByteArray)++y3.1)
  some (e4,())
  else
  (R01_Digits.F ((IntKind.u64.wrap (p0)),())).bind fun y5=>
  some (y5.1,()))
noncomputable def R01_Signed.F:=stk R01_Signed.B
theorem R01_Signed.eq:R01_Signed.F=R01_Signed.B:=stk_eq _
theorem R01_Signed.k:Kk R01_Digits.s [] [] Tryz.f50 R01_Signed.d R01_Signed.B:={}
noncomputable def R01_Signed.s:SpL:=R01_Signed.d.e [] R01_Signed.F::R01_Digits.s
theorem R01_Signed.c:Ck R01_Signed.s []:=cS R01_Digits.c R01_Signed.k
/-! levee/leveeref01.May -/
def R01_May.d:Fe:=⟨99,1,⟨[(0,.v true [.int .i64,.int .i64,.str])],[],[],0,[]⟩,⟨[(0,.v false [.bool])],[],[],1000,[]⟩,(.s none .n (.s none (.s (some ⟨[(10,.v false [.bool])],[],[1],0,[]⟩) .n .n) .n))⟩
noncomputable def R01_May.B:Int×Int×ByteArray×Unit→Option (Bool×Unit):=fun (p0_0,p0_1,p0_2,_)=>
  jn (S:=Bool×Unit) (
  (bif (p0_0==(0:Int)) then
  il (true,())
  else
  il ((p0_0==(1:Int)),()))) fun (x10_1,_)=>
  (bif x10_1 then
  (bif (sq p0_2 (⟨#[]⟩:ByteArray)) then
  (bif (decide (p0_1≥(0:Int))) then
  some ((decide (p0_1≤p0_0)),())
  else
  some (false,()))
  else
  some (false,()))
  else
  (bif (p0_0==(2:Int)) then
  some ((sq p0_2 (⟨#[]⟩:ByteArray)),())
  else
  (bif (p0_0==(3:Int)) then
  (bif (p0_1==(0:Int)) then
  some ((decide ((p0_2.size:Int)≤(1000:Int))),())
  else
  some (false,()))
  else
  some (false,()))))
noncomputable def R01_May.F:=stk R01_May.B
theorem R01_May.eq:R01_May.F=R01_May.B:=stk_eq _
theorem R01_May.k:Kk R01_Signed.s [] [] Tryz.f99 R01_May.d R01_May.B:={}
noncomputable def R01_May.s:SpL:=R01_May.d.e [] R01_May.F::R01_Signed.s
theorem R01_May.c:Ck R01_May.s []:=cS R01_Signed.c R01_May.k
/-! levee/leveeref01.Text -/
def R01_Text.d:Fe:=⟨134,1,⟨[(0,.v true [.int .i64,.int .i64,.str])],[],[],0,[]⟩,⟨[(0,.v false [.str])],[],[],1000,[]⟩,(.s none .n (.s none (.s none .n (.b (.s none .n (.c .n (.s none .n (.c .n (.s none .n (.c .n (.s none .n (.c (.s none .n (.s (some ⟨[(3,.v false [.str])],[],[],0,[]⟩) (.s none .n (.b (.l ⟨[(3,.v false [.str]),(4,.v false [.int .i64])],[],[1],0,[]⟩ .n))) .n)) .n)))))))))) .n))⟩
noncomputable def R01_Text.B:Int×Int×ByteArray×Unit→Option (ByteArray×Unit):=fun (p0_0,p0_1,p0_2,_)=>
  (bif (p0_0==(0:Int)) then
  some ((⟨#[110,117,108,108]⟩:ByteArray),())
  else
  (bif (p0_0==(1:Int)) then
  (bif (p0_1==(0:Int)) then
  some ((⟨#[102,97,108,115,101]⟩:ByteArray),())
  else
  some ((⟨#[116,114,117,101]⟩:ByteArray),()))
  else
  (bif (p0_0==(2:Int)) then
  (R01_Signed.F (p0_1,())).bind fun y1=>
  some (y1.1,())
  else
  (bif (p0_0==(3:Int)) then
  jn (S:=ByteArray×Unit) (
  loopM (S:=ByteArray×Int×Unit) (fun (x3,x4,_)=>
  (bif (decide (x4<(p0_2.size:Int))) then
  ck (ib x4 p0_2.size)<|
  let e2:Int:=(byteAt p0_2 (Int.toNat x4))
  (bif (e2==(39:Int)) then
  ck (ca x3 (⟨#[39]⟩:ByteArray))<|
  let e3:ByteArray:=(x3++(⟨#[39]⟩:ByteArray))
  let e4:Int:=(wr (x4+(1:Int)))
  ck (sb x4 e4 p0_2.size)<|
  let e5:ByteArray:=(p0_2.extract (Int.toNat x4) (Int.toNat e4))
  ck (ca e3 e5)<|
  let e6:ByteArray:=(e3++e5)
  let e7:Int:=(wr (x4+(1:Int)))
  il (e6,e7,())
  else
  let e8:Int:=(wr (x4+(1:Int)))
  ck (sb x4 e8 p0_2.size)<|
  let e9:ByteArray:=(p0_2.extract (Int.toNat x4) (Int.toNat e8))
  ck (ca x3 e9)<|
  let e10:ByteArray:=(x3++e9)
  let e11:Int:=(wr (x4+(1:Int)))
  il (e10,e11,()))
  else
  ir (.inl (x3,())))) ((⟨#[39]⟩:ByteArray),(0:Int),())) fun (x3_12,_)=>
  ck (ca x3_12 (⟨#[39]⟩:ByteArray))<|
  let e13:ByteArray:=(x3_12++(⟨#[39]⟩:ByteArray))
  some (e13,())
  else
  some ((⟨#[63]⟩:ByteArray),())))))
noncomputable def R01_Text.F:=stk R01_Text.B
theorem R01_Text.eq:R01_Text.F=R01_Text.B:=stk_eq _
theorem R01_Text.k:Kk R01_May.s [] [] Tryz.f134 R01_Text.d R01_Text.B:={}
noncomputable def R01_Text.s:SpL:=R01_Text.d.e [] R01_Text.F::R01_May.s
theorem R01_Text.c:Ck R01_Text.s []:=cS R01_May.c R01_Text.k
/-! levee/leveeref03.Text -/
def R03_Text.d:Fe:=⟨109,1,⟨[(0,.v false [.sl 77 tNode])],[],[],0,[]⟩,⟨[(0,.v false [.str])],[],[],1000,[]⟩,(.s none .n (.s none .n (.s none .n (.s none (.s none .n (.b (.l ⟨[(4,.v false [.str]),(5,.v false [.int .i64])],[],[0,3],0,[]⟩ (.s none .n (.s none (.b (.s (some ⟨[(4,.v false [.str])],[],[0,3,5],0,[]⟩) .n .n)) .n))))) .n))))⟩
noncomputable def R03_Text.B:(List tNodeT)×Unit→Option (ByteArray×Unit):=fun (p0,_)=>
  loopM (S:=ByteArray×Int×Unit) (fun (x4,x5,_)=>
  (bif (decide (x5<(p0.length:Int))) then
  jn (S:=ByteArray×Unit) (
  (bif (decide (x5>(0:Int))) then
  ck (ca x4 (⟨#[32]⟩:ByteArray))<|
  let e1:ByteArray:=(x4++(⟨#[32]⟩:ByteArray))
  il (e1,())
  else
  il (x4,()))) fun (x4_2,_)=>
  ck (ib x5 p0.length)<|
  let e3:tNodeT:=(gt p0 x5 tNode.z)
  (bif (e3.1==(0:Int)) then
  (R01_Signed.F (e3.2.1,())).bind fun y4=>
  ck (ca (⟨#[99]⟩:ByteArray) y4.1)<|
  let e5:ByteArray:=((⟨#[99]⟩:ByteArray)++y4.1)
  ck (ca x4_2 e5)<|
  let e6:ByteArray:=(x4_2++e5)
  let e7:Int:=(wr (x5+(1:Int)))
  il (e6,e7,())
  else
  (bif (e3.1==(1:Int)) then
  (R01_Text.F (e3.2.2.1,e3.2.2.2.1,e3.2.2.2.2,())).bind fun y8=>
  ck (ca x4_2 y8.1)<|
  let e9:ByteArray:=(x4_2++y8.1)
  let e10:Int:=(wr (x5+(1:Int)))
  il (e9,e10,())
  else
  (bif (decide (e3.1<(0:Int))) then
  ck (ca x4_2 (⟨#[63]⟩:ByteArray))<|
  let e11:ByteArray:=(x4_2++(⟨#[63]⟩:ByteArray))
  let e12:Int:=(wr (x5+(1:Int)))
  il (e11,e12,())
  else
  (bif (decide (e3.1>(10:Int))) then
  ck (ca x4_2 (⟨#[63]⟩:ByteArray))<|
  let e13:ByteArray:=(x4_2++(⟨#[63]⟩:ByteArray))
  let e14:Int:=(wr (x5+(1:Int)))
  il (e13,e14,())
  else
  ck (ib e3.1 [(⟨#[]⟩:ByteArray),(⟨#[]⟩:ByteArray),(⟨#[43]⟩:ByteArray),(⟨#[45]⟩:ByteArray),(⟨#[42]⟩:ByteArray),(⟨#[61]⟩:ByteArray),(⟨#[60]⟩:ByteArray),(⟨#[97,110,100]⟩:ByteArray),(⟨#[111,114]⟩:ByteArray),(⟨#[110,111,116]⟩:ByteArray),(⟨#[110,117,108,108,63]⟩:ByteArray)].length)<|
  let e15:ByteArray:=(List.getD [(⟨#[]⟩:ByteArray),(⟨#[]⟩:ByteArray),(⟨#[43]⟩:ByteArray),(⟨#[45]⟩:ByteArray),(⟨#[42]⟩:ByteArray),(⟨#[61]⟩:ByteArray),(⟨#[60]⟩:ByteArray),(⟨#[97,110,100]⟩:ByteArray),(⟨#[111,114]⟩:ByteArray),(⟨#[110,111,116]⟩:ByteArray),(⟨#[110,117,108,108,63]⟩:ByteArray)] (Int.toNat e3.1) (⟨#[]⟩:ByteArray))
  ck (ca x4_2 e15)<|
  let e16:ByteArray:=(x4_2++e15)
  let e17:Int:=(wr (x5+(1:Int)))
  il (e16,e17,())))))
  else
  ir (x4,()))) ((⟨#[]⟩:ByteArray),(0:Int),())
noncomputable def R03_Text.F:=stk R03_Text.B
theorem R03_Text.eq:R03_Text.F=R03_Text.B:=stk_eq _
theorem R03_Text.k:Kk R01_Text.s [] [] Tryz.f109 R03_Text.d R03_Text.B:={}
noncomputable def R03_Text.s:SpL:=R03_Text.d.e [] R03_Text.F::R01_Text.s
theorem R03_Text.c:Ck R03_Text.s []:=cS R01_Text.c R03_Text.k
/-! levee/leveeref07.stepText -/
def R07_stepText.d:Fe:=⟨78,1,⟨[(0,.v true [.int .i64,.int .i64,.int .i64,.int .i64,.str])],[],[],0,[]⟩,⟨[(0,.v false [.str])],[],[],1000,[]⟩,.n⟩
noncomputable def R07_stepText.B:Int×Int×Int×Int×ByteArray×Unit→Option (ByteArray×Unit):=fun (p0_0,p0_1,p0_2,p0_3,p0_4,_)=>
  (bif (p0_0==(10:Int)) then
  some ((⟨#[110,117,108,108,32,63]⟩:ByteArray),())
  else
  (bif (p0_0==(1:Int)) then
  (bif (decide (p0_2<(2:Int))) then
  (R01_May.F (p0_2,p0_3,p0_4,())).bind fun y1=>
  (bif (!y1.1) then
  some ((⟨#[33]⟩:ByteArray),())
  else
  (R03_Text.F ([(p0_0,(p0_1,(p0_2,(p0_3,p0_4))))],())).bind fun y2=>
  some (y2.1,()))
  else
  (R03_Text.F ([(p0_0,(p0_1,(p0_2,(p0_3,p0_4))))],())).bind fun y3=>
  some (y3.1,()))
  else
  (R03_Text.F ([(p0_0,(p0_1,(p0_2,(p0_3,p0_4))))],())).bind fun y4=>
  some (y4.1,())))
noncomputable def R07_stepText.F:=stk R07_stepText.B
theorem R07_stepText.eq:R07_stepText.F=R07_stepText.B:=stk_eq _
theorem R07_stepText.k:Kk R03_Text.s [] [] Tryz.f78 R07_stepText.d R07_stepText.B:={}
noncomputable def R07_stepText.s:SpL:=R07_stepText.d.e [] R07_stepText.F::R03_Text.s
theorem R07_stepText.c:Ck R07_stepText.s []:=cS R03_Text.c R07_stepText.k
/-! levee/leveeref07.exprText -/
def R07_exprText.d:Fe:=⟨51,1,⟨[(0,.v false [.sl 77 tNode])],[],[],0,[]⟩,⟨[(0,.v false [.str])],[],[],1000,[]⟩,(.s none .n (.s none .n (.s (some ⟨[(3,.v false [.str])],[],[],0,[]⟩) (.s none .n (.b (.l ⟨[(3,.v false [.str]),(4,.v false [.int .i64])],[],[0],0,[]⟩ .n))) .n)))⟩
noncomputable def R07_exprText.B:(List tNodeT)×Unit→Option (ByteArray×Unit):=fun (p0,_)=>
  jn (S:=ByteArray×Unit) (
  loopM (S:=ByteArray×Int×Unit) (fun (x3,x4,_)=>
  (bif (decide (x4<(p0.length:Int))) then
  ck (ib x4 p0.length)<|
  let e1:tNodeT:=(gt p0 x4 tNode.z)
  (R07_stepText.F (e1.1,e1.2.1,e1.2.2.1,e1.2.2.2.1,e1.2.2.2.2,())).bind fun y2=>
  ck (ca (⟨#[32]⟩:ByteArray) y2.1)<|
  let e3:ByteArray:=((⟨#[32]⟩:ByteArray)++y2.1)
  ck (ca x3 e3)<|
  let e4:ByteArray:=(x3++e3)
  let e5:Int:=(wr (x4+(1:Int)))
  il (e4,e5,())
  else
  ir (.inl (x3,())))) ((⟨#[32,91]⟩:ByteArray),(0:Int),())) fun (x3_6,_)=>
  ck (ca x3_6 (⟨#[32,93]⟩:ByteArray))<|
  let e7:ByteArray:=(x3_6++(⟨#[32,93]⟩:ByteArray))
  some (e7,())
noncomputable def R07_exprText.F:=stk R07_exprText.B
theorem R07_exprText.eq:R07_exprText.F=R07_exprText.B:=stk_eq _
theorem R07_exprText.k:Kk R07_stepText.s [] [] Tryz.f51 R07_exprText.d R07_exprText.B:={}
noncomputable def R07_exprText.s:SpL:=R07_exprText.d.e [] R07_exprText.F::R07_stepText.s
theorem R07_exprText.c:Ck R07_exprText.s []:=cS R07_stepText.c R07_exprText.k
/-! levee/leveeref07.pick -/
def R07_pick.d:Fe:=⟨52,2,⟨[(0,.v false [.int .i64]),(1,.v false [.sl 9 .str])],[],[],0,[]⟩,⟨[(0,.v false [.str])],[],[],1000,[]⟩,.n⟩
noncomputable def R07_pick.B:Int×(List ByteArray)×Unit→Option (ByteArray×Unit):=fun (p0,p1,_)=>
  (bif (decide (p0<(0:Int))) then
  some ((⟨#[33]⟩:ByteArray),())
  else
  (bif (decide (p0≥(p1.length:Int))) then
  some ((⟨#[33]⟩:ByteArray),())
  else
  ck (ib p0 p1.length)<|
  let e1:ByteArray:=(gt p1 p0 (⟨#[]⟩:ByteArray))
  some (e1,())))
noncomputable def R07_pick.F:=stk R07_pick.B
theorem R07_pick.eq:R07_pick.F=R07_pick.B:=stk_eq _
theorem R07_pick.k:Kk R07_exprText.s [] [] Tryz.f52 R07_pick.d R07_pick.B:={}
noncomputable def R07_pick.s:SpL:=R07_pick.d.e [] R07_pick.F::R07_exprText.s
theorem R07_pick.c:Ck R07_pick.s []:=cS R07_exprText.c R07_pick.k
/-! levee/leveeref07.viewText -/
def R07_viewText.d:Fe:=⟨29,1,⟨[(0,.v true [.str,.str,.str,.int .i64,.int .i64,.sl 77 tNode,.sl 3 (.int .i64),.bool,.sl 103 tAgg])],[],[],0,[]⟩,⟨[(0,.v false [.str])],[],[],1000,[]⟩,(.s none .n (.s none .n (.s (some ⟨[(3,.v false [.str])],[],[1],0,[]⟩) .n (.s (some ⟨[(3,.v false [.str])],[],[1],0,[]⟩) .n (.s none .n (.s (some ⟨[(3,.v false [.str])],[],[1],0,[]⟩) (.s none .n (.b (.l ⟨[(3,.v false [.str]),(4,.v false [.int .i64])],[],[1],0,[]⟩ .n))) (.s (some ⟨[(3,.v false [.str])],[],[1],0,[]⟩) .n (.s none (.s none .n (.b (.l ⟨[(3,.v false [.str]),(5,.v false [.int .i64])],[],[1],0,[]⟩ (.s none .n (.s none (.b (.s (some ⟨[(3,.v false [.str])],[],[1,5],0,[]⟩) .n .n)) .n))))) .n))))))))⟩
noncomputable def R07_viewText.B:ByteArray×ByteArray×ByteArray×Int×Int×(List tNodeT)×(List Int)×Bool×(List tAggT)×Unit→Option (ByteArray×Unit):=fun (p0_0,p0_1,p0_2,p0_3,p0_4,p0_5,p0_6,p0_7,p0_8,_)=>
  ck (ca (⟨#[118,105,101,119,32]⟩:ByteArray) p0_0)<|
  let e1:ByteArray:=((⟨#[118,105,101,119,32]⟩:ByteArray)++p0_0)
  ck (ca e1 (⟨#[32,102,114,111,109,32]⟩:ByteArray))<|
  let e2:ByteArray:=(e1++(⟨#[32,102,114,111,109,32]⟩:ByteArray))
  ck (ca e2 p0_1)<|
  let e3:ByteArray:=(e2++p0_1)
  jn (S:=ByteArray×Unit) (
  (bif (!sq p0_2 (⟨#[]⟩:ByteArray)) then
  ck (ca (⟨#[32,106,111,105,110,32]⟩:ByteArray) p0_2)<|
  let e4:ByteArray:=((⟨#[32,106,111,105,110,32]⟩:ByteArray)++p0_2)
  ck (ca e4 (⟨#[32,111,110,32]⟩:ByteArray))<|
  let e5:ByteArray:=(e4++(⟨#[32,111,110,32]⟩:ByteArray))
  ck (ib (0:Int) 2)<|
  (R01_Signed.F (p0_3,())).bind fun y6=>
  ck (ca e5 y6.1)<|
  let e7:ByteArray:=(e5++y6.1)
  ck (ca e7 (⟨#[32,61,32]⟩:ByteArray))<|
  let e8:ByteArray:=(e7++(⟨#[32,61,32]⟩:ByteArray))
  ck (ib (1:Int) 2)<|
  (R01_Signed.F (p0_4,())).bind fun y9=>
  ck (ca e8 y9.1)<|
  let e10:ByteArray:=(e8++y9.1)
  ck (ca e3 e10)<|
  let e11:ByteArray:=(e3++e10)
  il (e11,())
  else
  il (e3,()))) fun (x3_12,_)=>
  jn (S:=ByteArray×Unit) (
  (bif (decide ((p0_5.length:Int)>(0:Int))) then
  (R07_exprText.F (p0_5,())).bind fun y13=>
  ck (ca (⟨#[32,119,104,101,114,101]⟩:ByteArray) y13.1)<|
  let e14:ByteArray:=((⟨#[32,119,104,101,114,101]⟩:ByteArray)++y13.1)
  ck (ca x3_12 e14)<|
  let e15:ByteArray:=(x3_12++e14)
  il (e15,())
  else
  il (x3_12,()))) fun (x3_16,_)=>
  ck (ca x3_16 (⟨#[32,112,105,99,107]⟩:ByteArray))<|
  let e17:ByteArray:=(x3_16++(⟨#[32,112,105,99,107]⟩:ByteArray))
  jn (S:=ByteArray×Unit) (
  loopM (S:=ByteArray×Int×Unit) (fun (x3,x4,_)=>
  (bif (decide (x4<(p0_6.length:Int))) then
  (bif (decide (x4>(0:Int))) then
  ck (ca x3 (⟨#[32,44]⟩:ByteArray))<|
  let e18:ByteArray:=(x3++(⟨#[32,44]⟩:ByteArray))
  ck (ib x4 p0_6.length)<|
  let e19:Int:=(gt p0_6 x4 (0:Int))
  (R01_Signed.F (e19,())).bind fun y20=>
  ck (ca (⟨#[32]⟩:ByteArray) y20.1)<|
  let e21:ByteArray:=((⟨#[32]⟩:ByteArray)++y20.1)
  ck (ca e18 e21)<|
  let e22:ByteArray:=(e18++e21)
  let e23:Int:=(wr (x4+(1:Int)))
  il (e22,e23,())
  else
  ck (ib x4 p0_6.length)<|
  let e24:Int:=(gt p0_6 x4 (0:Int))
  (R01_Signed.F (e24,())).bind fun y25=>
  ck (ca (⟨#[32]⟩:ByteArray) y25.1)<|
  let e26:ByteArray:=((⟨#[32]⟩:ByteArray)++y25.1)
  ck (ca x3 e26)<|
  let e27:ByteArray:=(x3++e26)
  let e28:Int:=(wr (x4+(1:Int)))
  il (e27,e28,()))
  else
  ir (.inl (x3,())))) (e17,(0:Int),())) fun (x3_29,_)=>
  jn (S:=ByteArray×Unit) (
  (bif p0_7 then
  ck (ca x3_29 (⟨#[32,103,114,111,117,112]⟩:ByteArray))<|
  let e30:ByteArray:=(x3_29++(⟨#[32,103,114,111,117,112]⟩:ByteArray))
  il (e30,())
  else
  il (x3_29,()))) fun (x3_31,_)=>
  loopM (S:=ByteArray×Int×Unit) (fun (x3,x5,_)=>
  (bif (decide (x5<(p0_8.length:Int))) then
  jn (S:=ByteArray×Unit) (
  (bif (decide (x5>(0:Int))) then
  ck (ca x3 (⟨#[32,44]⟩:ByteArray))<|
  let e32:ByteArray:=(x3++(⟨#[32,44]⟩:ByteArray))
  il (e32,())
  else
  il (x3,()))) fun (x3_33,_)=>
  ck (ib x5 p0_8.length)<|
  let e34:tAggT:=(gt p0_8 x5 tAgg.z)
  (R07_pick.F (e34.1,[(⟨#[99,111,117,110,116]⟩:ByteArray),(⟨#[115,117,109]⟩:ByteArray),(⟨#[109,105,110]⟩:ByteArray),(⟨#[109,97,120]⟩:ByteArray)],())).bind fun y35=>
  ck (ca (⟨#[32]⟩:ByteArray) y35.1)<|
  let e36:ByteArray:=((⟨#[32]⟩:ByteArray)++y35.1)
  ck (ca x3_33 e36)<|
  let e37:ByteArray:=(x3_33++e36)
  ck (ib x5 p0_8.length)<|
  let e38:tAggT:=(gt p0_8 x5 tAgg.z)
  (bif (e38.1 !=(0:Int)) then
  ck (ib x5 p0_8.length)<|
  let e39:tAggT:=(gt p0_8 x5 tAgg.z)
  (R01_Signed.F (e39.2,())).bind fun y40=>
  ck (ca (⟨#[32]⟩:ByteArray) y40.1)<|
  let e41:ByteArray:=((⟨#[32]⟩:ByteArray)++y40.1)
  ck (ca e37 e41)<|
  let e42:ByteArray:=(e37++e41)
  let e43:Int:=(wr (x5+(1:Int)))
  il (e42,e43,())
  else
  let e44:Int:=(wr (x5+(1:Int)))
  il (e37,e44,()))
  else
  ir (x3,()))) (x3_31,(0:Int),())
noncomputable def R07_viewText.F:=stk R07_viewText.B
theorem R07_viewText.eq:R07_viewText.F=R07_viewText.B:=stk_eq _
theorem R07_viewText.k:Kk R07_pick.s [] [] Tryz.f29 R07_viewText.d R07_viewText.B:={}
noncomputable def R07_viewText.s:SpL:=R07_viewText.d.e [] R07_viewText.F::R07_pick.s
theorem R07_viewText.c:Ck R07_viewText.s []:=cS R07_pick.c R07_viewText.k
/-! levee/leveeref07.tableText -/
def R07_tableText.d:Fe:=⟨30,1,⟨[(0,.v true [.str,.sl 43 tColumn,.sl 63 (.sl 77 tNode)])],[],[],0,[]⟩,⟨[(0,.v false [.str])],[],[],1000,[]⟩,(.s none .n (.s none .n (.s (some ⟨[(3,.v false [.str])],[],[1],0,[]⟩) (.s none .n (.b (.l ⟨[(3,.v false [.str]),(4,.v false [.int .i64])],[],[1],0,[]⟩ (.s none .n (.s none (.b (.s none .n (.s (some ⟨[(3,.v false [.str])],[],[1,4,5],0,[]⟩) .n (.s none .n (.s (some ⟨[(3,.v false [.str])],[],[1,4,5],0,[]⟩) .n (.s (some ⟨[(3,.v false [.str])],[],[1,4,5],0,[]⟩) .n .n)))))) .n))))) (.s none .n (.s none (.s none .n (.b (.l ⟨[(3,.v false [.str]),(6,.v false [.int .i64])],[],[1],0,[]⟩ .n))) .n)))))⟩
noncomputable def R07_tableText.B:ByteArray×(List tColumnT)×(List (List tNodeT))×Unit→Option (ByteArray×Unit):=fun (p0_0,p0_1,p0_2,_)=>
  ck (ca (⟨#[116,97,98,108,101,32]⟩:ByteArray) p0_0)<|
  let e1:ByteArray:=((⟨#[116,97,98,108,101,32]⟩:ByteArray)++p0_0)
  ck (ca e1 (⟨#[32,40]⟩:ByteArray))<|
  let e2:ByteArray:=(e1++(⟨#[32,40]⟩:ByteArray))
  jn (S:=ByteArray×Unit) (
  loopM (S:=ByteArray×Int×Unit) (fun (x3,x4,_)=>
  (bif (decide (x4<(p0_1.length:Int))) then
  ck (ib x4 p0_1.length)<|
  let e3:tColumnT:=(gt p0_1 x4 tColumn.z)
  jn (S:=ByteArray×Unit) (
  (bif (decide (x4>(0:Int))) then
  ck (ca x3 (⟨#[32,44]⟩:ByteArray))<|
  let e4:ByteArray:=(x3++(⟨#[32,44]⟩:ByteArray))
  il (e4,())
  else
  il (x3,()))) fun (x3_5,_)=>
  ck (ca (⟨#[32]⟩:ByteArray) e3.1)<|
  let e6:ByteArray:=((⟨#[32]⟩:ByteArray)++e3.1)
  ck (ca e6 (⟨#[32]⟩:ByteArray))<|
  let e7:ByteArray:=(e6++(⟨#[32]⟩:ByteArray))
  let e8:Int:=(wr (e3.2.1-(1:Int)))
  (R07_pick.F (e8,[(⟨#[98,111,111,108]⟩:ByteArray),(⟨#[105,110,116]⟩:ByteArray),(⟨#[116,101,120,116]⟩:ByteArray)],())).bind fun y9=>
  ck (ca e7 y9.1)<|
  let e10:ByteArray:=(e7++y9.1)
  ck (ca x3_5 e10)<|
  let e11:ByteArray:=(x3_5++e10)
  jn (S:=ByteArray×Unit) (
  (bif e3.2.2.1 then
  ck (ca e11 (⟨#[32,110,117,108,108]⟩:ByteArray))<|
  let e12:ByteArray:=(e11++(⟨#[32,110,117,108,108]⟩:ByteArray))
  il (e12,())
  else
  il (e11,()))) fun (x3_13,_)=>
  jn (S:=ByteArray×Unit) (
  (bif e3.2.2.2.1 then
  ck (ca x3_13 (⟨#[32,117,110,105,113,117,101]⟩:ByteArray))<|
  let e14:ByteArray:=(x3_13++(⟨#[32,117,110,105,113,117,101]⟩:ByteArray))
  il (e14,())
  else
  il (x3_13,()))) fun (x3_15,_)=>
  (bif (!sq e3.2.2.2.2.1 (⟨#[]⟩:ByteArray)) then
  ck (ca (⟨#[32,114,101,102,32]⟩:ByteArray) e3.2.2.2.2.1)<|
  let e16:ByteArray:=((⟨#[32,114,101,102,32]⟩:ByteArray)++e3.2.2.2.2.1)
  ck (ca e16 (⟨#[32]⟩:ByteArray))<|
  let e17:ByteArray:=(e16++(⟨#[32]⟩:ByteArray))
  (R07_pick.F (e3.2.2.2.2.2,[(⟨#[114,101,115,116,114,105,99,116]⟩:ByteArray),(⟨#[99,97,115,99,97,100,101]⟩:ByteArray),(⟨#[115,101,116,110,117,108,108]⟩:ByteArray)],())).bind fun y18=>
  ck (ca e17 y18.1)<|
  let e19:ByteArray:=(e17++y18.1)
  ck (ca x3_15 e19)<|
  let e20:ByteArray:=(x3_15++e19)
  let e21:Int:=(wr (x4+(1:Int)))
  il (e20,e21,())
  else
  let e22:Int:=(wr (x4+(1:Int)))
  il (x3_15,e22,()))
  else
  ir (.inl (x3,())))) (e2,(0:Int),())) fun (x3_23,_)=>
  ck (ca x3_23 (⟨#[32,41]⟩:ByteArray))<|
  let e24:ByteArray:=(x3_23++(⟨#[32,41]⟩:ByteArray))
  loopM (S:=ByteArray×Int×Unit) (fun (x3,x6,_)=>
  (bif (decide (x6<(p0_2.length:Int))) then
  ck (ib x6 p0_2.length)<|
  let e25:(List tNodeT):=(gt p0_2 x6 [])
  (R07_exprText.F (e25,())).bind fun y26=>
  ck (ca (⟨#[32,99,104,101,99,107]⟩:ByteArray) y26.1)<|
  let e27:ByteArray:=((⟨#[32,99,104,101,99,107]⟩:ByteArray)++y26.1)
  ck (ca x3 e27)<|
  let e28:ByteArray:=(x3++e27)
  let e29:Int:=(wr (x6+(1:Int)))
  il (e28,e29,())
  else
  ir (x3,()))) (e24,(0:Int),())
noncomputable def R07_tableText.F:=stk R07_tableText.B
theorem R07_tableText.eq:R07_tableText.F=R07_tableText.B:=stk_eq _
theorem R07_tableText.k:Kk R07_viewText.s [] [] Tryz.f30 R07_tableText.d R07_tableText.B:={}
noncomputable def R07_tableText.s:SpL:=R07_tableText.d.e [] R07_tableText.F::R07_viewText.s
theorem R07_tableText.c:Ck R07_tableText.s []:=cS R07_viewText.c R07_tableText.k
/-! levee/leveeref06.Sign -/
def R06_Sign.d:Fe:=⟨79,1,⟨[(0,.v false [.int .u8])],[],[],0,[]⟩,⟨[(0,.v false [.bool])],[],[],1000,[]⟩,(.s none .n (.s none .n (.s none (.s none .n (.b (.l ⟨[(4,.v false [.int .i64])],[],[0,3],0,[]⟩ .n))) .n)))⟩
noncomputable def R06_Sign.B:Int×Unit→Option (Bool×Unit):=fun (p0,_)=>
  loopM (S:=Int×Unit) (fun (x4,_)=>
  (bif (decide (x4<((⟨#[40,41,91,93,44,61,60,43,45,42,63]⟩:ByteArray).size:Int))) then
  ck (ib x4 (⟨#[40,41,91,93,44,61,60,43,45,42,63]⟩:ByteArray).size)<|
  let e1:Int:=(byteAt (⟨#[40,41,91,93,44,61,60,43,45,42,63]⟩:ByteArray) (Int.toNat x4))
  (bif (e1==p0) then
  ir (true,())
  else
  let e2:Int:=(wr (x4+(1:Int)))
  il (e2,()))
  else
  ir (false,()))) ((0:Int),())
noncomputable def R06_Sign.F:=stk R06_Sign.B
theorem R06_Sign.eq:R06_Sign.F=R06_Sign.B:=stk_eq _
theorem R06_Sign.k:Kk R07_tableText.s [] [] Tryz.f79 R06_Sign.d R06_Sign.B:={}
noncomputable def R06_Sign.s:SpL:=R06_Sign.d.e [] R06_Sign.F::R07_tableText.s
theorem R06_Sign.c:Ck R06_Sign.s []:=cS R07_tableText.c R06_Sign.k
/-! levee/leveeref06.Letter -/
def R06_Letter.d:Fe:=⟨80,1,⟨[(0,.v false [.int .u8])],[],[],0,[]⟩,⟨[(0,.v false [.bool])],[],[],1000,[]⟩,.n⟩
noncomputable def R06_Letter.B:Int×Unit→Option (Bool×Unit):=fun (p0,_)=>
  (bif (decide (p0≥(97:Int))) then
  some ((decide (p0≤(122:Int))),())
  else
  some (false,()))
noncomputable def R06_Letter.F:=stk R06_Letter.B
theorem R06_Letter.eq:R06_Letter.F=R06_Letter.B:=stk_eq _
theorem R06_Letter.k:Kk R06_Sign.s [] [] Tryz.f80 R06_Letter.d R06_Letter.B:={}
noncomputable def R06_Letter.s:SpL:=R06_Letter.d.e [] R06_Letter.F::R06_Sign.s
theorem R06_Letter.c:Ck R06_Letter.s []:=cS R06_Sign.c R06_Letter.k
/-! levee/leveeref06.Digit -/
def R06_Digit.d:Fe:=⟨83,1,⟨[(0,.v false [.int .u8])],[],[],0,[]⟩,⟨[(0,.v false [.bool])],[],[],1000,[]⟩,.n⟩
noncomputable def R06_Digit.B:Int×Unit→Option (Bool×Unit):=fun (p0,_)=>
  (bif (decide (p0≥(48:Int))) then
  some ((decide (p0≤(57:Int))),())
  else
  some (false,()))
noncomputable def R06_Digit.F:=stk R06_Digit.B
theorem R06_Digit.eq:R06_Digit.F=R06_Digit.B:=stk_eq _
theorem R06_Digit.k:Kk R06_Letter.s [] [] Tryz.f83 R06_Digit.d R06_Digit.B:={}
noncomputable def R06_Digit.s:SpL:=R06_Digit.d.e [] R06_Digit.F::R06_Letter.s
theorem R06_Digit.c:Ck R06_Digit.s []:=cS R06_Letter.c R06_Digit.k
/-! levee/leveeref06.Inner -/
def R06_Inner.d:Fe:=⟨81,1,⟨[(0,.v false [.int .u8])],[],[],0,[]⟩,⟨[(0,.v false [.bool])],[],[],1000,[]⟩,.n⟩
noncomputable def R06_Inner.B:Int×Unit→Option (Bool×Unit):=fun (p0,_)=>
  (R06_Letter.F (p0,())).bind fun y1=>
  (bif y1.1 then
  some (true,())
  else
  (R06_Digit.F (p0,())).bind fun y2=>
  (bif y2.1 then
  some (true,())
  else
  some ((p0==(95:Int)),())))
noncomputable def R06_Inner.F:=stk R06_Inner.B
theorem R06_Inner.eq:R06_Inner.F=R06_Inner.B:=stk_eq _
theorem R06_Inner.k:Kk R06_Digit.s [] [] Tryz.f81 R06_Inner.d R06_Inner.B:={}
noncomputable def R06_Inner.s:SpL:=R06_Inner.d.e [] R06_Inner.F::R06_Digit.s
theorem R06_Inner.c:Ck R06_Inner.s []:=cS R06_Digit.c R06_Inner.k
/-! levee/leveeref06.Word -/
def R06_Word.d:Fe:=⟨82,1,⟨[(0,.v false [.str])],[],[],0,[]⟩,⟨[(0,.v false [.bool])],[],[],1000,[]⟩,(.s none .n (.s (some ⟨[],[],[0],0,[]⟩) (.s none .n (.b (.l ⟨[(3,.v false [.int .i64])],[],[0],0,[]⟩ .n))) .n))⟩
noncomputable def R06_Word.B:ByteArray×Unit→Option (Bool×Unit):=fun (p0,_)=>
  jn (S:=Unit) (
  loopM (S:=Int×Unit) (fun (x3,_)=>
  (bif (decide (x3<(p0.size:Int))) then
  ck (ib x3 p0.size)<|
  let e1:Int:=(byteAt p0 (Int.toNat x3))
  (R06_Inner.F (e1,())).bind fun y2=>
  (bif (!y2.1) then
  ir (.inr (false,()))
  else
  let e3:Int:=(wr (x3+(1:Int)))
  il (e3,()))
  else
  ir (.inl (())))) ((0:Int),())) fun (_)=>
  (bif (decide ((p0.size:Int)≥(1:Int))) then
  (bif (decide ((p0.size:Int)≤(30:Int))) then
  ck (ib (0:Int) p0.size)<|
  let e5:Int:=(byteAt p0 0)
  (R06_Letter.F (e5,())).bind fun y6=>
  some (y6.1,())
  else
  some (false,()))
  else
  some (false,()))
noncomputable def R06_Word.F:=stk R06_Word.B
theorem R06_Word.eq:R06_Word.F=R06_Word.B:=stk_eq _
theorem R06_Word.k:Kk R06_Inner.s [] [] Tryz.f82 R06_Word.d R06_Word.B:={}
noncomputable def R06_Word.s:SpL:=R06_Word.d.e [] R06_Word.F::R06_Inner.s
theorem R06_Word.c:Ck R06_Word.s []:=cS R06_Inner.c R06_Word.k
/-! levee/leveeref01.Int -/
def R01_Int.d:Fe:=⟨16,1,⟨[(0,.v false [.int .i64])],[],[],0,[]⟩,⟨[(0,.v true [.int .i64,.int .i64,.str])],[],[],1000,[]⟩,.n⟩
noncomputable def R01_Int.B:Int×Unit→Option (Int×Int×ByteArray×Unit):=fun (p0,_)=>
  some ((2:Int),p0,(⟨#[]⟩:ByteArray),())
noncomputable def R01_Int.F:=stk R01_Int.B
theorem R01_Int.eq:R01_Int.F=R01_Int.B:=stk_eq _
theorem R01_Int.k:Kk R06_Word.s [] [] Tryz.f16 R01_Int.d R01_Int.B:={}
noncomputable def R01_Int.s:SpL:=R01_Int.d.e [] R01_Int.F::R06_Word.s
theorem R01_Int.c:Ck R01_Int.s []:=cS R06_Word.c R01_Int.k
/-! levee/leveeref01.Nulls -/
def R01_Nulls.d:Fe:=⟨135,2,⟨[(0,.v true [.int .i64,.int .i64,.str]),(1,.v true [.int .i64,.int .i64,.str])],[],[],0,[]⟩,⟨[(0,.v false [.bool])],[],[],1000,[]⟩,.n⟩
noncomputable def R01_Nulls.B:Int×Int×ByteArray×Int×Int×ByteArray×Unit→Option (Bool×Unit):=fun (p0_0,p0_1,p0_2,p1_0,p1_1,p1_2,_)=>
  (bif (p0_0==(0:Int)) then
  some (true,())
  else
  some ((p1_0==(0:Int)),()))
noncomputable def R01_Nulls.F:=stk R01_Nulls.B
theorem R01_Nulls.eq:R01_Nulls.F=R01_Nulls.B:=stk_eq _
theorem R01_Nulls.k:Kk R01_Int.s [] [] Tryz.f135 R01_Nulls.d R01_Nulls.B:={}
noncomputable def R01_Nulls.s:SpL:=R01_Nulls.d.e [] R01_Nulls.F::R01_Int.s
theorem R01_Nulls.c:Ck R01_Nulls.s []:=cS R01_Int.c R01_Nulls.k
/-! levee/leveeref01.Ints -/
def R01_Ints.d:Fe:=⟨136,2,⟨[(0,.v true [.int .i64,.int .i64,.str]),(1,.v true [.int .i64,.int .i64,.str])],[],[],0,[]⟩,⟨[(0,.v false [.bool])],[],[],1000,[]⟩,.n⟩
noncomputable def R01_Ints.B:Int×Int×ByteArray×Int×Int×ByteArray×Unit→Option (Bool×Unit):=fun (p0_0,p0_1,p0_2,p1_0,p1_1,p1_2,_)=>
  (bif (p0_0==(2:Int)) then
  some ((p1_0==(2:Int)),())
  else
  some (false,()))
noncomputable def R01_Ints.F:=stk R01_Ints.B
theorem R01_Ints.eq:R01_Ints.F=R01_Ints.B:=stk_eq _
theorem R01_Ints.k:Kk R01_Nulls.s [] [] Tryz.f136 R01_Ints.d R01_Ints.B:={}
noncomputable def R01_Ints.s:SpL:=R01_Ints.d.e [] R01_Ints.F::R01_Nulls.s
theorem R01_Ints.c:Ck R01_Ints.s []:=cS R01_Nulls.c R01_Ints.k
/-! levee/leveeref01.Least -/
def R01_Least.d:Fe:=⟨137,0,⟨[],[],[],0,[]⟩,⟨[(0,.v false [.int .i64])],[],[],1000,[]⟩,.n⟩
noncomputable def R01_Least.B:Unit→Option (Int×Unit):=fun (_)=>
  some ((-9223372036854775808:Int),())
noncomputable def R01_Least.F:=stk R01_Least.B
theorem R01_Least.eq:R01_Least.F=R01_Least.B:=stk_eq _
theorem R01_Least.k:Kk R01_Ints.s [] [] Tryz.f137 R01_Least.d R01_Least.B:={}
noncomputable def R01_Least.s:SpL:=R01_Least.d.e [] R01_Least.F::R01_Ints.s
theorem R01_Least.c:Ck R01_Least.s []:=cS R01_Ints.c R01_Least.k
/-! levee/leveeref01.Mul -/
def R01_Mul.d:Fe:=⟨110,2,⟨[(0,.v true [.int .i64,.int .i64,.str]),(1,.v true [.int .i64,.int .i64,.str])],[],[],0,[]⟩,⟨[(0,.tup [(true,[.int .i64,.int .i64,.str]),(false,[.bool])])],[],[],1000,[]⟩,(.s none .n (.s none .n (.s none .n (.s (some ⟨[],[],[2,3,4],0,[]⟩) .n (.s none (.s (some ⟨[(44,.v false [.bool])],[],[2,3,4],0,[]⟩) .n .n) .n)))))⟩
noncomputable def R01_Mul.B:Int×Int×ByteArray×Int×Int×ByteArray×Unit→Option (Int×Int×ByteArray×Bool×Unit):=fun (p0_0,p0_1,p0_2,p1_0,p1_1,p1_2,_)=>
  (R01_Nulls.F (p0_0,p0_1,p0_2,p1_0,p1_1,p1_2,())).bind fun y1=>
  (bif y1.1 then
  some ((0:Int),(0:Int),(⟨#[]⟩:ByteArray),true,())
  else
  (R01_Ints.F (p0_0,p0_1,p0_2,p1_0,p1_1,p1_2,())).bind fun y2=>
  (bif (!y2.1) then
  some ((0:Int),(0:Int),(⟨#[]⟩:ByteArray),false,())
  else
  jn (S:=Unit) (
  (bif (p0_1==(0:Int)) then
  (R01_Int.F ((0:Int),())).bind fun y3=>
  ir (y3.1,y3.2.1,y3.2.2.1,true,())
  else
  (bif (p1_1==(0:Int)) then
  (R01_Int.F ((0:Int),())).bind fun y4=>
  ir (y4.1,y4.2.1,y4.2.2.1,true,())
  else
  il (())))) fun (_)=>
  jn (S:=Bool×Unit) (
  (bif (p0_1==(-1:Int)) then
  (R01_Least.F (())).bind fun y6=>
  (bif (p1_1==y6.1) then
  il (true,())
  else
  (bif (p1_1==(-1:Int)) then
  (R01_Least.F (())).bind fun y7=>
  il ((p0_1==y7.1),())
  else
  il (false,())))
  else
  (bif (p1_1==(-1:Int)) then
  (R01_Least.F (())).bind fun y8=>
  il ((p0_1==y8.1),())
  else
  il (false,())))) fun (x44_9,_)=>
  (bif x44_9 then
  some ((0:Int),(0:Int),(⟨#[]⟩:ByteArray),false,())
  else
  let e10:Int:=(wr (p0_1*p1_1))
  ck (!decide (p1_1=0))<|
  let e11:Int:=(wr (Int.tdiv e10 p1_1))
  (bif (e11 !=p0_1) then
  some ((0:Int),(0:Int),(⟨#[]⟩:ByteArray),false,())
  else
  ck (!decide (p1_1=0))<|
  let e12:Int:=(Int.tmod e10 p1_1)
  (bif (e12 !=(0:Int)) then
  some ((0:Int),(0:Int),(⟨#[]⟩:ByteArray),false,())
  else
  (R01_Int.F (e10,())).bind fun y13=>
  some (y13.1,y13.2.1,y13.2.2.1,true,()))))))
noncomputable def R01_Mul.F:=stk R01_Mul.B
theorem R01_Mul.eq:R01_Mul.F=R01_Mul.B:=stk_eq _
theorem R01_Mul.k:Kk R01_Least.s [] [] Tryz.f110 R01_Mul.d R01_Mul.B:={}
noncomputable def R01_Mul.s:SpL:=R01_Mul.d.e [] R01_Mul.F::R01_Least.s
theorem R01_Mul.c:Ck R01_Mul.s []:=cS R01_Least.c R01_Mul.k
/-! levee/leveeref01.Most -/
def R01_Most.d:Fe:=⟨138,0,⟨[],[],[],0,[]⟩,⟨[(0,.v false [.int .i64])],[],[],1000,[]⟩,.n⟩
noncomputable def R01_Most.B:Unit→Option (Int×Unit):=fun (_)=>
  some ((9223372036854775807:Int),())
noncomputable def R01_Most.F:=stk R01_Most.B
theorem R01_Most.eq:R01_Most.F=R01_Most.B:=stk_eq _
theorem R01_Most.k:Kk R01_Mul.s [] [] Tryz.f138 R01_Most.d R01_Most.B:={}
noncomputable def R01_Most.s:SpL:=R01_Most.d.e [] R01_Most.F::R01_Mul.s
theorem R01_Most.c:Ck R01_Most.s []:=cS R01_Mul.c R01_Most.k
/-! levee/leveeref01.Add -/
def R01_Add.d:Fe:=⟨111,2,⟨[(0,.v true [.int .i64,.int .i64,.str]),(1,.v true [.int .i64,.int .i64,.str])],[],[],0,[]⟩,⟨[(0,.tup [(true,[.int .i64,.int .i64,.str]),(false,[.bool])])],[],[],1000,[]⟩,(.s none .n (.s none .n (.s none (.s (some ⟨[(41,.v false [.bool])],[],[2,3,4],0,[]⟩) .n .n) .n)))⟩
noncomputable def R01_Add.B:Int×Int×ByteArray×Int×Int×ByteArray×Unit→Option (Int×Int×ByteArray×Bool×Unit):=fun (p0_0,p0_1,p0_2,p1_0,p1_1,p1_2,_)=>
  (R01_Nulls.F (p0_0,p0_1,p0_2,p1_0,p1_1,p1_2,())).bind fun y1=>
  (bif y1.1 then
  some ((0:Int),(0:Int),(⟨#[]⟩:ByteArray),true,())
  else
  jn (S:=Bool×Unit) (
  (R01_Ints.F (p0_0,p0_1,p0_2,p1_0,p1_1,p1_2,())).bind fun y2=>
  (bif (!y2.1) then
  il (true,())
  else
  (bif (decide (p1_1>(0:Int))) then
  (R01_Most.F (())).bind fun y3=>
  let e4:Int:=(wr (y3.1-p1_1))
  (bif (decide (p0_1>e4)) then
  il (true,())
  else
  (bif (decide (p1_1<(0:Int))) then
  (R01_Least.F (())).bind fun y5=>
  let e6:Int:=(wr (y5.1-p1_1))
  il ((decide (p0_1<e6)),())
  else
  il (false,())))
  else
  (bif (decide (p1_1<(0:Int))) then
  (R01_Least.F (())).bind fun y7=>
  let e8:Int:=(wr (y7.1-p1_1))
  il ((decide (p0_1<e8)),())
  else
  il (false,()))))) fun (x41_9,_)=>
  (bif x41_9 then
  some ((0:Int),(0:Int),(⟨#[]⟩:ByteArray),false,())
  else
  let e10:Int:=(wr (p0_1+p1_1))
  (R01_Int.F (e10,())).bind fun y11=>
  some (y11.1,y11.2.1,y11.2.2.1,true,())))
noncomputable def R01_Add.F:=stk R01_Add.B
theorem R01_Add.eq:R01_Add.F=R01_Add.B:=stk_eq _
theorem R01_Add.k:Kk R01_Most.s [] [] Tryz.f111 R01_Add.d R01_Add.B:={}
noncomputable def R01_Add.s:SpL:=R01_Add.d.e [] R01_Add.F::R01_Most.s
theorem R01_Add.c:Ck R01_Add.s []:=cS R01_Most.c R01_Add.k
/-! levee/leveeref01.Sub -/
def R01_Sub.d:Fe:=⟨112,2,⟨[(0,.v true [.int .i64,.int .i64,.str]),(1,.v true [.int .i64,.int .i64,.str])],[],[],0,[]⟩,⟨[(0,.tup [(true,[.int .i64,.int .i64,.str]),(false,[.bool])])],[],[],1000,[]⟩,(.s none .n (.s none .n (.s none (.s (some ⟨[(41,.v false [.bool])],[],[2,3,4],0,[]⟩) .n .n) .n)))⟩
noncomputable def R01_Sub.B:Int×Int×ByteArray×Int×Int×ByteArray×Unit→Option (Int×Int×ByteArray×Bool×Unit):=fun (p0_0,p0_1,p0_2,p1_0,p1_1,p1_2,_)=>
  (R01_Nulls.F (p0_0,p0_1,p0_2,p1_0,p1_1,p1_2,())).bind fun y1=>
  (bif y1.1 then
  some ((0:Int),(0:Int),(⟨#[]⟩:ByteArray),true,())
  else
  jn (S:=Bool×Unit) (
  (R01_Ints.F (p0_0,p0_1,p0_2,p1_0,p1_1,p1_2,())).bind fun y2=>
  (bif (!y2.1) then
  il (true,())
  else
  (bif (decide (p1_1<(0:Int))) then
  (R01_Most.F (())).bind fun y3=>
  let e4:Int:=(wr (y3.1+p1_1))
  (bif (decide (p0_1>e4)) then
  il (true,())
  else
  (bif (decide (p1_1>(0:Int))) then
  (R01_Least.F (())).bind fun y5=>
  let e6:Int:=(wr (y5.1+p1_1))
  il ((decide (p0_1<e6)),())
  else
  il (false,())))
  else
  (bif (decide (p1_1>(0:Int))) then
  (R01_Least.F (())).bind fun y7=>
  let e8:Int:=(wr (y7.1+p1_1))
  il ((decide (p0_1<e8)),())
  else
  il (false,()))))) fun (x41_9,_)=>
  (bif x41_9 then
  some ((0:Int),(0:Int),(⟨#[]⟩:ByteArray),false,())
  else
  let e10:Int:=(wr (p0_1-p1_1))
  (R01_Int.F (e10,())).bind fun y11=>
  some (y11.1,y11.2.1,y11.2.2.1,true,())))
noncomputable def R01_Sub.F:=stk R01_Sub.B
theorem R01_Sub.eq:R01_Sub.F=R01_Sub.B:=stk_eq _
theorem R01_Sub.k:Kk R01_Add.s [] [] Tryz.f112 R01_Sub.d R01_Sub.B:={}
noncomputable def R01_Sub.s:SpL:=R01_Sub.d.e [] R01_Sub.F::R01_Add.s
theorem R01_Sub.c:Ck R01_Sub.s []:=cS R01_Add.c R01_Sub.k
/-! levee/leveeref06.Number -/
def R06_Number.d:Fe:=⟨84,1,⟨[(0,.v false [.str])],[],[],0,[]⟩,⟨[(0,.tup [(false,[.int .i64]),(false,[.bool])])],[],[],1000,[]⟩,(.s none .n (.s none .n (.s none .n (.s none .n (.s (some ⟨[(5,.v false [.ptr 0 0]),(6,.v false [.bool])],[(0,true,.box 45 [.int .i64,.int .i64,.str])],[0],1,[]⟩) (.s none .n (.b (.l ⟨[(5,.v false [.ptr 0 0]),(6,.v false [.bool]),(7,.v false [.int .i64])],[(0,true,.box 45 [.int .i64,.int .i64,.str])],[0,4],1,[]⟩ (.s none .n (.s (some ⟨[(5,.v false [.ptr 0 0]),(6,.v false [.bool])],[(0,true,.box 45 [.int .i64,.int .i64,.str])],[0,4,7],1,[]⟩) .n .n))))) .n)))))⟩
noncomputable def R06_Number.B:ByteArray×Unit→Option (Int×Bool×Unit):=fun (p0,_)=>
  ck (ib (0:Int) p0.size)<|
  let e1:Int:=(byteAt p0 0)
  jn (S:=Bool×Int×Int×ByteArray×Unit) (
  loopM (S:=Bool×Int×Int×Int×ByteArray×Unit) (fun (x6,x7,o5_0_0,o5_0_1,o5_0_2,_)=>
  (bif (decide (x7<(p0.size:Int))) then
  jn (S:=Bool×Int×Int×ByteArray×Unit) (
  ck (ib x7 p0.size)<|
  let e2:Int:=(byteAt p0 (Int.toNat x7))
  (bif (e2==(45:Int)) then
  il (x6,o5_0_0,o5_0_1,o5_0_2,())
  else
  ck (ib x7 p0.size)<|
  let e3:Int:=(byteAt p0 (Int.toNat x7))
  let e4:Int:=(IntKind.u8.wrap (e3-(48:Int)))
  (R01_Int.F ((wr (e4)),())).bind fun y5=>
  (R01_Int.F ((10:Int),())).bind fun y6=>
  (R01_Mul.F (o5_0_0,o5_0_1,o5_0_2,y6.1,y6.2.1,y6.2.2.1,())).bind fun y7=>
  (R01_Add.F (y7.1,y7.2.1,y7.2.2.1,y5.1,y5.2.1,y5.2.2.1,())).bind fun y8=>
  (bif (e1==(45:Int)) then
  (R01_Sub.F (y7.1,y7.2.1,y7.2.2.1,y5.1,y5.2.1,y5.2.2.1,())).bind fun y9=>
  (bif x6 then
  (bif y7.2.2.2.1 then
  il (y9.2.2.2.1,y9.1,y9.2.1,y9.2.2.1,())
  else
  il (false,y9.1,y9.2.1,y9.2.2.1,()))
  else
  il (false,y9.1,y9.2.1,y9.2.2.1,()))
  else
  (bif x6 then
  (bif y7.2.2.2.1 then
  il (y8.2.2.2.1,y8.1,y8.2.1,y8.2.2.1,())
  else
  il (false,y8.1,y8.2.1,y8.2.2.1,()))
  else
  il (false,y8.1,y8.2.1,y8.2.2.1,()))))) fun (x6_10,o5_0_0_10,o5_0_1_10,o5_0_2_10,_)=>
  let e11:Int:=(wr (x7+(1:Int)))
  il (x6_10,e11,o5_0_0_10,o5_0_1_10,o5_0_2_10,())
  else
  ir (.inl (x6,o5_0_0,o5_0_1,o5_0_2,())))) (true,(0:Int),(2:Int),(0:Int),(⟨#[]⟩:ByteArray),())) fun (x6_12,o5_0_0_12,o5_0_1_12,o5_0_2_12,_)=>
  (bif x6_12 then
  (R01_Signed.F (o5_0_1_12,())).bind fun y13=>
  some (o5_0_1_12,(sq y13.1 p0),())
  else
  some (o5_0_1_12,false,()))
noncomputable def R06_Number.F:=stk R06_Number.B
theorem R06_Number.eq:R06_Number.F=R06_Number.B:=stk_eq _
theorem R06_Number.k:Kk R01_Sub.s [] [] Tryz.f84 R06_Number.d R06_Number.B:={}
noncomputable def R06_Number.s:SpL:=R06_Number.d.e [] R06_Number.F::R01_Sub.s
theorem R06_Number.c:Ck R06_Number.s []:=cS R01_Sub.c R06_Number.k
/-! levee/leveeref06.text -/
def R06_text.d:Fe:=⟨85,2,⟨[(0,.v false [.str]),(1,.v false [.int .i64])],[],[],0,[]⟩,⟨[(0,.tup [(false,[.str]),(false,[.int .i64]),(false,[.bool])])],[],[],1000,[]⟩,(.s none .n (.s none .n (.s none .n (.s none (.b (.l ⟨[(7,.v false [.str]),(8,.v false [.int .i64])],[],[0],0,[]⟩ .n)) .n))))⟩
noncomputable def R06_text.B:ByteArray×Int×Unit→Option (ByteArray×Int×Bool×Unit):=fun (p0,p1,_)=>
  let e1:Int:=(wr (p1+(1:Int)))
  loopM (S:=ByteArray×Int×Unit) (fun (x7,x8,_)=>
  (bif (decide (x8<(p0.size:Int))) then
  ck (ib x8 p0.size)<|
  let e2:Int:=(byteAt p0 (Int.toNat x8))
  (bif (e2 !=(39:Int)) then
  let e3:Int:=(wr (x8+(1:Int)))
  ck (sb x8 e3 p0.size)<|
  let e4:ByteArray:=(p0.extract (Int.toNat x8) (Int.toNat e3))
  ck (ca x7 e4)<|
  let e5:ByteArray:=(x7++e4)
  let e6:Int:=(wr (x8+(1:Int)))
  il (e5,e6,())
  else
  let e7:Int:=(wr (x8+(1:Int)))
  (bif (decide (e7<(p0.size:Int))) then
  let e8:Int:=(wr (x8+(1:Int)))
  ck (ib e8 p0.size)<|
  let e9:Int:=(byteAt p0 (Int.toNat e8))
  (bif (e9==(39:Int)) then
  ck (ca x7 (⟨#[39]⟩:ByteArray))<|
  let e10:ByteArray:=(x7++(⟨#[39]⟩:ByteArray))
  let e11:Int:=(wr (x8+(2:Int)))
  il (e10,e11,())
  else
  let e12:Int:=(wr (x8+(1:Int)))
  ir (x7,e12,(decide ((x7.size:Int)≤(1000:Int))),()))
  else
  let e13:Int:=(wr (x8+(1:Int)))
  ir (x7,e13,(decide ((x7.size:Int)≤(1000:Int))),())))
  else
  ir ((⟨#[]⟩:ByteArray),(0:Int),false,()))) ((⟨#[]⟩:ByteArray),e1,())
noncomputable def R06_text.F:=stk R06_text.B
theorem R06_text.eq:R06_text.F=R06_text.B:=stk_eq _
theorem R06_text.k:Kk R06_Number.s [] [] Tryz.f85 R06_text.d R06_text.B:={}
noncomputable def R06_text.s:SpL:=R06_text.d.e [] R06_text.F::R06_Number.s
theorem R06_text.c:Ck R06_text.s []:=cS R06_Number.c R06_text.k
/-! levee/leveeref06.Lex -/
def R06_Lex.d:Fe:=⟨53,1,⟨[(0,.v false [.str])],[],[],0,[]⟩,⟨[(0,.tup [(false,[.ref 1000]),(false,[.int .i64])])],[(1000,false,.arr 136 tTok)],[],1001,[]⟩,(.s none .n (.s none .n (.s none .n (.s none .n (.s none (.b (.l ⟨[(4,.v false [.ref 0]),(5,.v false [.int .i64])],[(0,false,.arr 136 tTok)],[0],1,[]⟩ (.s none .n (.b (.s none .n (.s none .n (.s none .n (.s none .n (.s none .n (.s (some ⟨[(7,.v false [.int .i64]),(8,.v false [.ptr 0 0]),(9,.v false [.bool])],[(0,true,.box 136 [.int .i64,.str,.int .i64,.int .i64,.str])],[0,4],1,[]⟩) (.s none .n (.c (.s (some ⟨[(7,.v false [.int .i64])],[],[0,4,5,8],0,[]⟩) (.b (.l ⟨[(7,.v false [.int .i64])],[],[0,4,5,8],0,[]⟩ .n)) .n) (.s (some ⟨[(80,.v false [.bool])],[],[0,4,5,6,7,8,9],0,[]⟩) .n (.c (.s (some ⟨[(7,.v false [.int .i64])],[],[0,4,5,8],0,[]⟩) (.b (.l ⟨[(7,.v false [.int .i64])],[],[0,4,5,8],0,[]⟩ .n)) .n) .n)))) .n)))))))))) .n)))))⟩
noncomputable def R06_Lex.B:ByteArray×Unit→Option (Int×(List tTokT)×Unit):=fun (p0,_)=>
  (bif (decide ((p0.size:Int)>(20000:Int))) then
  some ((60:Int),[],())
  else
  loopM (S:=Int×(List tTokT)×Unit) (fun (x5,o4_0,_)=>
  (bif (decide (x5<(p0.size:Int))) then
  ck (ib x5 p0.size)<|
  let e1:Int:=(byteAt p0 (Int.toNat x5))
  let e2:Int:=(wr (x5+(1:Int)))
  ck (sb x5 e2 p0.size)<|
  let e3:ByteArray:=(p0.extract (Int.toNat x5) (Int.toNat e2))
  (R06_Sign.F (e1,())).bind fun y4=>
  (bif (e1==(32:Int)) then
  let e5:Int:=(wr (x5+(1:Int)))
  il (e5,o4_0,())
  else
  jn (S:=Int×Bool×Int×ByteArray×Int×Int×ByteArray×Unit) (
  (R06_Letter.F (e1,())).bind fun y6=>
  (bif y6.1 then
  jn (S:=Int×Unit) (
  loopM (S:=Int×Unit) (fun (x7',_)=>
  (bif (decide (x7'<(p0.size:Int))) then
  ck (ib x7' p0.size)<|
  let e7:Int:=(byteAt p0 (Int.toNat x7'))
  (R06_Inner.F (e7,())).bind fun y8=>
  (bif y8.1 then
  let e9:Int:=(wr (x7'+(1:Int)))
  il (e9,())
  else
  ir (.inl (x7',())))
  else
  ir (.inl (x7',())))) (e2,())) fun (x7_10,_)=>
  ck (sb x5 x7_10 p0.size)<|
  let e11:ByteArray:=(p0.extract (Int.toNat x5) (Int.toNat x7_10))
  ck (sb x5 x7_10 p0.size)<|
  let e12:ByteArray:=(p0.extract (Int.toNat x5) (Int.toNat x7_10))
  (R06_Word.F (e12,())).bind fun y13=>
  il (x7_10,y13.1,(0:Int),e11,(0:Int),(0:Int),(⟨#[]⟩:ByteArray),())
  else
  jn (S:=Bool×Unit) (
  (R06_Digit.F (e1,())).bind fun y14=>
  (bif y14.1 then
  il (true,())
  else
  (bif (e1==(45:Int)) then
  (bif (decide (e2<(p0.size:Int))) then
  ck (ib e2 p0.size)<|
  let e15:Int:=(byteAt p0 (Int.toNat e2))
  (R06_Digit.F (e15,())).bind fun y16=>
  il (y16.1,())
  else
  il (false,()))
  else
  il (false,())))) fun (x80_17,_)=>
  (bif x80_17 then
  jn (S:=Int×Unit) (
  loopM (S:=Int×Unit) (fun (x7',_)=>
  (bif (decide (x7'<(p0.size:Int))) then
  ck (ib x7' p0.size)<|
  let e18:Int:=(byteAt p0 (Int.toNat x7'))
  (R06_Digit.F (e18,())).bind fun y19=>
  (bif y19.1 then
  let e20:Int:=(wr (x7'+(1:Int)))
  il (e20,())
  else
  ir (.inl (x7',())))
  else
  ir (.inl (x7',())))) (e2,())) fun (x7_21,_)=>
  ck (sb x5 x7_21 p0.size)<|
  let e22:ByteArray:=(p0.extract (Int.toNat x5) (Int.toNat x7_21))
  (R06_Number.F (e22,())).bind fun y23=>
  (R01_Int.F (y23.1,())).bind fun y24=>
  il (x7_21,y23.2.1,(1:Int),(⟨#[]⟩:ByteArray),y24.1,y24.2.1,y24.2.2.1,())
  else
  (bif (e1==(39:Int)) then
  (R06_text.F (p0,x5,())).bind fun y25=>
  il (y25.2.1,y25.2.2.1,(1:Int),(⟨#[]⟩:ByteArray),(3:Int),(0:Int),y25.1,())
  else
  il (e2,y4.1,(2:Int),e3,(0:Int),(0:Int),(⟨#[]⟩:ByteArray),()))))) fun (x7_26,x9_26,o8_0_0_26,o8_0_1_26,o8_0_2_26,o8_0_3_26,o8_0_4_26,_)=>
  (bif (!x9_26) then
  ir ((60:Int),[],())
  else
  ck (Nat.ble (o4_0.length+ [(o8_0_0_26,(o8_0_1_26,(o8_0_2_26,(o8_0_3_26,o8_0_4_26))))].length) 2513169434916)<|
  il (x7_26,(o4_0++ [(o8_0_0_26,(o8_0_1_26,(o8_0_2_26,(o8_0_3_26,o8_0_4_26))))]),())))
  else
  ir ((0:Int),o4_0,()))) ((0:Int),([]:List tTokT),()))
noncomputable def R06_Lex.F:=stk R06_Lex.B
theorem R06_Lex.eq:R06_Lex.F=R06_Lex.B:=stk_eq _
theorem R06_Lex.k:Kk R06_text.s [] [] Tryz.f53 R06_Lex.d R06_Lex.B:={}
noncomputable def R06_Lex.s:SpL:=R06_Lex.d.e [] R06_Lex.F::R06_text.s
theorem R06_Lex.c:Ck R06_Lex.s []:=cS R06_text.c R06_Lex.k
/-! (*levee/leveeref07.Parser).is -/
def R07_Parser_is.d:Fe:=⟨92,2,⟨[(0,.v false [.ptr 0 0]),(1,.v false [.str])],[(0,true,.box 110 [.sl 136 tTok,.int .i64,.bool])],[],1,[]⟩,⟨[(0,.v false [.bool])],[(0,true,.box 110 [.sl 136 tTok,.int .i64,.bool])],[],1001,[(0,0)]⟩,.n⟩
noncomputable def R07_Parser_is.B:ByteArray×(List tTokT)×Int×Bool×Unit→Option (Bool×(List tTokT)×Int×Bool×Unit):=fun (p1,o0_0,o0_1,o0_2,_)=>
  (bif (decide (o0_1<(o0_0.length:Int))) then
  ck (ib o0_1 o0_0.length)<|
  let e1:tTokT:=(gt o0_0 o0_1 tTok.z)
  (bif (e1.1 !=(1:Int)) then
  ck (ib o0_1 o0_0.length)<|
  let e2:tTokT:=(gt o0_0 o0_1 tTok.z)
  some ((sq e2.2.1 p1),o0_0,o0_1,o0_2,())
  else
  some (false,o0_0,o0_1,o0_2,()))
  else
  some (false,o0_0,o0_1,o0_2,()))
noncomputable def R07_Parser_is.F:=stk R07_Parser_is.B
theorem R07_Parser_is.eq:R07_Parser_is.F=R07_Parser_is.B:=stk_eq _
theorem R07_Parser_is.k:Kk R06_Lex.s [] [] Tryz.f92 R07_Parser_is.d R07_Parser_is.B:={}
noncomputable def R07_Parser_is.s:SpL:=R07_Parser_is.d.e [] R07_Parser_is.F::R06_Lex.s
theorem R07_Parser_is.c:Ck R07_Parser_is.s []:=cS R06_Lex.c R07_Parser_is.k
/-! (*levee/leveeref07.Parser).take -/
def R07_Parser_take.d:Fe:=⟨86,2,⟨[(0,.v false [.ptr 0 0]),(1,.v false [.str])],[(0,true,.box 110 [.sl 136 tTok,.int .i64,.bool])],[],1,[]⟩,⟨[(0,.v false [.bool])],[(0,true,.box 110 [.sl 136 tTok,.int .i64,.bool])],[],1001,[(0,0)]⟩,.n⟩
noncomputable def R07_Parser_take.B:ByteArray×(List tTokT)×Int×Bool×Unit→Option (Bool×(List tTokT)×Int×Bool×Unit):=fun (p1,o0_0,o0_1,o0_2,_)=>
  (R07_Parser_is.F (p1,o0_0,o0_1,o0_2,())).bind fun y1=>
  (bif y1.1 then
  let e2:Int:=(wr (y1.2.2.1+(1:Int)))
  some (true,y1.2.1,e2,y1.2.2.2.1,())
  else
  some (false,y1.2.1,y1.2.2.1,y1.2.2.2.1,()))
noncomputable def R07_Parser_take.F:=stk R07_Parser_take.B
theorem R07_Parser_take.eq:R07_Parser_take.F=R07_Parser_take.B:=stk_eq _
theorem R07_Parser_take.k:Kk R07_Parser_is.s [] [] Tryz.f86 R07_Parser_take.d R07_Parser_take.B:={}
noncomputable def R07_Parser_take.s:SpL:=R07_Parser_take.d.e [] R07_Parser_take.F::R07_Parser_is.s
theorem R07_Parser_take.c:Ck R07_Parser_take.s []:=cS R07_Parser_is.c R07_Parser_take.k
/-! (*levee/leveeref07.Parser).one -/
def R07_Parser_one.d:Fe:=⟨54,2,⟨[(0,.v false [.ptr 0 0]),(1,.v false [.sl 9 .str])],[(0,true,.box 110 [.sl 136 tTok,.int .i64,.bool])],[],1,[]⟩,⟨[(0,.v false [.int .i64])],[(0,true,.box 110 [.sl 136 tTok,.int .i64,.bool])],[],1001,[(0,0)]⟩,(.s none .n (.s (some ⟨[(0,.v false [.ptr 0 0])],[(0,true,.box 110 [.sl 136 tTok,.int .i64,.bool])],[],1,[]⟩) (.s none .n (.b (.l ⟨[(0,.v false [.ptr 0 0]),(5,.v false [.int .i64])],[(0,true,.box 110 [.sl 136 tTok,.int .i64,.bool])],[1],1,[]⟩ .n))) .n))⟩
noncomputable def R07_Parser_one.B:(List ByteArray)×(List tTokT)×Int×Bool×Unit→Option (Int×(List tTokT)×Int×Bool×Unit):=fun (p1,o0_0,o0_1,o0_2,_)=>
  jn (S:=(List tTokT)×Int×Bool×Unit) (
  loopM (S:=Int×(List tTokT)×Int×Bool×Unit) (fun (x5,o0_0_0,o0_0_1,o0_0_2,_)=>
  (bif (decide (x5<(p1.length:Int))) then
  ck (ib x5 p1.length)<|
  let e1:ByteArray:=(gt p1 x5 (⟨#[]⟩:ByteArray))
  (R07_Parser_take.F (e1,o0_0_0,o0_0_1,o0_0_2,())).bind fun y2=>
  (bif y2.1 then
  ir (.inr (x5,y2.2.1,y2.2.2.1,y2.2.2.2.1,()))
  else
  let e3:Int:=(wr (x5+(1:Int)))
  il (e3,y2.2.1,y2.2.2.1,y2.2.2.2.1,()))
  else
  ir (.inl (o0_0_0,o0_0_1,o0_0_2,())))) ((0:Int),o0_0,o0_1,o0_2,())) fun (o0_0_0_4,o0_0_1_4,o0_0_2_4,_)=>
  some ((0:Int),o0_0_0_4,o0_0_1_4,false,())
noncomputable def R07_Parser_one.F:=stk R07_Parser_one.B
theorem R07_Parser_one.eq:R07_Parser_one.F=R07_Parser_one.B:=stk_eq _
theorem R07_Parser_one.k:Kk R07_Parser_take.s [] [] Tryz.f54 R07_Parser_one.d R07_Parser_one.B:={}
noncomputable def R07_Parser_one.s:SpL:=R07_Parser_one.d.e [] R07_Parser_one.F::R07_Parser_take.s
theorem R07_Parser_one.c:Ck R07_Parser_one.s []:=cS R07_Parser_take.c R07_Parser_one.k
/-! (*levee/leveeref07.Parser).next -/
def R07_Parser_next.d:Fe:=⟨113,1,⟨[(0,.v false [.ptr 0 0])],[(0,true,.box 110 [.sl 136 tTok,.int .i64,.bool])],[],1,[]⟩,⟨[(0,.v true [.int .i64,.str,.int .i64,.int .i64,.str])],[(0,true,.box 110 [.sl 136 tTok,.int .i64,.bool])],[],1001,[(0,0)]⟩,.n⟩
noncomputable def R07_Parser_next.B:(List tTokT)×Int×Bool×Unit→Option (Int×ByteArray×Int×Int×ByteArray×(List tTokT)×Int×Bool×Unit):=fun (o0_0,o0_1,o0_2,_)=>
  (bif (decide (o0_1≥(o0_0.length:Int))) then
  some ((-1:Int),(⟨#[]⟩:ByteArray),(0:Int),(0:Int),(⟨#[]⟩:ByteArray),o0_0,o0_1,false,())
  else
  let e1:Int:=(wr (o0_1+(1:Int)))
  let e2:Int:=(wr (e1-(1:Int)))
  ck (ib e2 o0_0.length)<|
  let e3:tTokT:=(gt o0_0 e2 tTok.z)
  some (e3.1,e3.2.1,e3.2.2.1,e3.2.2.2.1,e3.2.2.2.2,o0_0,e1,o0_2,()))
noncomputable def R07_Parser_next.F:=stk R07_Parser_next.B
theorem R07_Parser_next.eq:R07_Parser_next.F=R07_Parser_next.B:=stk_eq _
theorem R07_Parser_next.k:Kk R07_Parser_one.s [] [] Tryz.f113 R07_Parser_next.d R07_Parser_next.B:={}
noncomputable def R07_Parser_next.s:SpL:=R07_Parser_next.d.e [] R07_Parser_next.F::R07_Parser_one.s
theorem R07_Parser_next.c:Ck R07_Parser_next.s []:=cS R07_Parser_one.c R07_Parser_next.k
/-! levee/leveeref07.Keyword -/
def R07_Keyword.d:Fe:=⟨139,1,⟨[(0,.v false [.str])],[],[],0,[]⟩,⟨[(0,.v false [.bool])],[],[],1000,[]⟩,(.s none .n (.s none .n (.s none (.s none .n (.b (.l ⟨[(4,.v false [.int .i64])],[],[0,3],0,[]⟩ .n))) .n)))⟩
noncomputable def R07_Keyword.B:ByteArray×Unit→Option (Bool×Unit):=fun (p0,_)=>
  loopM (S:=Int×Unit) (fun (x4,_)=>
  (bif (decide (x4<([(⟨#[116,97,98,108,101]⟩:ByteArray),(⟨#[99,104,101,99,107]⟩:ByteArray),(⟨#[118,105,101,119]⟩:ByteArray),(⟨#[102,114,111,109]⟩:ByteArray),(⟨#[106,111,105,110]⟩:ByteArray),(⟨#[111,110]⟩:ByteArray),(⟨#[119,104,101,114,101]⟩:ByteArray),(⟨#[112,105,99,107]⟩:ByteArray),(⟨#[103,114,111,117,112]⟩:ByteArray),(⟨#[98,111,111,108]⟩:ByteArray),(⟨#[105,110,116]⟩:ByteArray),(⟨#[116,101,120,116]⟩:ByteArray),(⟨#[110,117,108,108]⟩:ByteArray),(⟨#[117,110,105,113,117,101]⟩:ByteArray),(⟨#[114,101,102]⟩:ByteArray),(⟨#[114,101,115,116,114,105,99,116]⟩:ByteArray),(⟨#[99,97,115,99,97,100,101]⟩:ByteArray),(⟨#[115,101,116,110,117,108,108]⟩:ByteArray),(⟨#[99,111,117,110,116]⟩:ByteArray),(⟨#[115,117,109]⟩:ByteArray),(⟨#[109,105,110]⟩:ByteArray),(⟨#[109,97,120]⟩:ByteArray),(⟨#[116,114,117,101]⟩:ByteArray),(⟨#[102,97,108,115,101]⟩:ByteArray),(⟨#[97,110,100]⟩:ByteArray),(⟨#[111,114]⟩:ByteArray),(⟨#[110,111,116]⟩:ByteArray)].length:Int))) then
  ck (ib x4 [(⟨#[116,97,98,108,101]⟩:ByteArray),(⟨#[99,104,101,99,107]⟩:ByteArray),(⟨#[118,105,101,119]⟩:ByteArray),(⟨#[102,114,111,109]⟩:ByteArray),(⟨#[106,111,105,110]⟩:ByteArray),(⟨#[111,110]⟩:ByteArray),(⟨#[119,104,101,114,101]⟩:ByteArray),(⟨#[112,105,99,107]⟩:ByteArray),(⟨#[103,114,111,117,112]⟩:ByteArray),(⟨#[98,111,111,108]⟩:ByteArray),(⟨#[105,110,116]⟩:ByteArray),(⟨#[116,101,120,116]⟩:ByteArray),(⟨#[110,117,108,108]⟩:ByteArray),(⟨#[117,110,105,113,117,101]⟩:ByteArray),(⟨#[114,101,102]⟩:ByteArray),(⟨#[114,101,115,116,114,105,99,116]⟩:ByteArray),(⟨#[99,97,115,99,97,100,101]⟩:ByteArray),(⟨#[115,101,116,110,117,108,108]⟩:ByteArray),(⟨#[99,111,117,110,116]⟩:ByteArray),(⟨#[115,117,109]⟩:ByteArray),(⟨#[109,105,110]⟩:ByteArray),(⟨#[109,97,120]⟩:ByteArray),(⟨#[116,114,117,101]⟩:ByteArray),(⟨#[102,97,108,115,101]⟩:ByteArray),(⟨#[97,110,100]⟩:ByteArray),(⟨#[111,114]⟩:ByteArray),(⟨#[110,111,116]⟩:ByteArray)].length)<|
  let e1:ByteArray:=(List.getD [(⟨#[116,97,98,108,101]⟩:ByteArray),(⟨#[99,104,101,99,107]⟩:ByteArray),(⟨#[118,105,101,119]⟩:ByteArray),(⟨#[102,114,111,109]⟩:ByteArray),(⟨#[106,111,105,110]⟩:ByteArray),(⟨#[111,110]⟩:ByteArray),(⟨#[119,104,101,114,101]⟩:ByteArray),(⟨#[112,105,99,107]⟩:ByteArray),(⟨#[103,114,111,117,112]⟩:ByteArray),(⟨#[98,111,111,108]⟩:ByteArray),(⟨#[105,110,116]⟩:ByteArray),(⟨#[116,101,120,116]⟩:ByteArray),(⟨#[110,117,108,108]⟩:ByteArray),(⟨#[117,110,105,113,117,101]⟩:ByteArray),(⟨#[114,101,102]⟩:ByteArray),(⟨#[114,101,115,116,114,105,99,116]⟩:ByteArray),(⟨#[99,97,115,99,97,100,101]⟩:ByteArray),(⟨#[115,101,116,110,117,108,108]⟩:ByteArray),(⟨#[99,111,117,110,116]⟩:ByteArray),(⟨#[115,117,109]⟩:ByteArray),(⟨#[109,105,110]⟩:ByteArray),(⟨#[109,97,120]⟩:ByteArray),(⟨#[116,114,117,101]⟩:ByteArray),(⟨#[102,97,108,115,101]⟩:ByteArray),(⟨#[97,110,100]⟩:ByteArray),(⟨#[111,114]⟩:ByteArray),(⟨#[110,111,116]⟩:ByteArray)] (Int.toNat x4) (⟨#[]⟩:ByteArray))
  (bif (sq e1 p0) then
  ir (true,())
  else
  let e2:Int:=(wr (x4+(1:Int)))
  il (e2,()))
  else
  ir (false,()))) ((0:Int),())
noncomputable def R07_Keyword.F:=stk R07_Keyword.B
theorem R07_Keyword.eq:R07_Keyword.F=R07_Keyword.B:=stk_eq _
theorem R07_Keyword.k:Kk R07_Parser_next.s [] [] Tryz.f139 R07_Keyword.d R07_Keyword.B:={}
noncomputable def R07_Keyword.s:SpL:=R07_Keyword.d.e [] R07_Keyword.F::R07_Parser_next.s
theorem R07_Keyword.c:Ck R07_Keyword.s []:=cS R07_Parser_next.c R07_Keyword.k
/-! levee/leveeref07.Name -/
def R07_Name.d:Fe:=⟨114,1,⟨[(0,.v false [.str])],[],[],0,[]⟩,⟨[(0,.v false [.bool])],[],[],1000,[]⟩,.n⟩
noncomputable def R07_Name.B:ByteArray×Unit→Option (Bool×Unit):=fun (p0,_)=>
  (R06_Word.F (p0,())).bind fun y1=>
  (bif y1.1 then
  (R07_Keyword.F (p0,())).bind fun y2=>
  some ((!y2.1),())
  else
  some (false,()))
noncomputable def R07_Name.F:=stk R07_Name.B
theorem R07_Name.eq:R07_Name.F=R07_Name.B:=stk_eq _
theorem R07_Name.k:Kk R07_Keyword.s [] [] Tryz.f114 R07_Name.d R07_Name.B:={}
noncomputable def R07_Name.s:SpL:=R07_Name.d.e [] R07_Name.F::R07_Keyword.s
theorem R07_Name.c:Ck R07_Name.s []:=cS R07_Keyword.c R07_Name.k
/-! (*levee/leveeref07.Parser).name -/
def R07_Parser_name.d:Fe:=⟨87,1,⟨[(0,.v false [.ptr 0 0])],[(0,true,.box 110 [.sl 136 tTok,.int .i64,.bool])],[],1,[]⟩,⟨[(0,.v false [.str])],[(0,true,.box 110 [.sl 136 tTok,.int .i64,.bool])],[],1001,[(0,0)]⟩,.n⟩
noncomputable def R07_Parser_name.B:(List tTokT)×Int×Bool×Unit→Option (ByteArray×(List tTokT)×Int×Bool×Unit):=fun (o0_0,o0_1,o0_2,_)=>
  (R07_Parser_next.F (o0_0,o0_1,o0_2,())).bind fun y1=>
  (bif (y1.1 !=(0:Int)) then
  some (y1.2.1,y1.2.2.2.2.2.1,y1.2.2.2.2.2.2.1,false,())
  else
  (R07_Name.F (y1.2.1,())).bind fun y2=>
  (bif (!y2.1) then
  some (y1.2.1,y1.2.2.2.2.2.1,y1.2.2.2.2.2.2.1,false,())
  else
  some (y1.2.1,y1.2.2.2.2.2.1,y1.2.2.2.2.2.2.1,y1.2.2.2.2.2.2.2.1,())))
noncomputable def R07_Parser_name.F:=stk R07_Parser_name.B
theorem R07_Parser_name.eq:R07_Parser_name.F=R07_Parser_name.B:=stk_eq _
theorem R07_Parser_name.k:Kk R07_Name.s [] [] Tryz.f87 R07_Parser_name.d R07_Parser_name.B:={}
noncomputable def R07_Parser_name.s:SpL:=R07_Parser_name.d.e [] R07_Parser_name.F::R07_Name.s
theorem R07_Parser_name.c:Ck R07_Parser_name.s []:=cS R07_Name.c R07_Parser_name.k
/-! (*levee/leveeref07.Parser).need -/
def R07_Parser_need.d:Fe:=⟨88,2,⟨[(0,.v false [.ptr 0 0]),(1,.v false [.str])],[(0,true,.box 110 [.sl 136 tTok,.int .i64,.bool])],[],1,[]⟩,⟨[(0,.tup [])],[(0,true,.box 110 [.sl 136 tTok,.int .i64,.bool])],[],1001,[(0,0)]⟩,.n⟩
noncomputable def R07_Parser_need.B:ByteArray×(List tTokT)×Int×Bool×Unit→Option ((List tTokT)×Int×Bool×Unit):=fun (p1,o0_0,o0_1,o0_2,_)=>
  (R07_Parser_take.F (p1,o0_0,o0_1,o0_2,())).bind fun y1=>
  (bif (!y1.1) then
  some (y1.2.1,y1.2.2.1,false,())
  else
  some (y1.2.1,y1.2.2.1,y1.2.2.2.1,()))
noncomputable def R07_Parser_need.F:=stk R07_Parser_need.B
theorem R07_Parser_need.eq:R07_Parser_need.F=R07_Parser_need.B:=stk_eq _
theorem R07_Parser_need.k:Kk R07_Parser_name.s [] [] Tryz.f88 R07_Parser_need.d R07_Parser_need.B:={}
noncomputable def R07_Parser_need.s:SpL:=R07_Parser_need.d.e [] R07_Parser_need.F::R07_Parser_name.s
theorem R07_Parser_need.c:Ck R07_Parser_need.s []:=cS R07_Parser_name.c R07_Parser_need.k
/-! (*levee/leveeref07.Parser).column -/
def R07_Parser_column.d:Fe:=⟨89,1,⟨[(0,.v false [.ptr 0 0])],[(0,true,.box 110 [.sl 136 tTok,.int .i64,.bool])],[],1,[]⟩,⟨[(0,.v true [.str,.int .i64,.bool,.bool,.str,.int .i64])],[(0,true,.box 110 [.sl 136 tTok,.int .i64,.bool])],[],1001,[(0,0)]⟩,.n⟩
noncomputable def R07_Parser_column.B:(List tTokT)×Int×Bool×Unit→Option (ByteArray×Int×Bool×Bool×ByteArray×Int×(List tTokT)×Int×Bool×Unit):=fun (o0_0,o0_1,o0_2,_)=>
  (R07_Parser_name.F (o0_0,o0_1,o0_2,())).bind fun y1=>
  (R07_Parser_one.F ([(⟨#[98,111,111,108]⟩:ByteArray),(⟨#[105,110,116]⟩:ByteArray),(⟨#[116,101,120,116]⟩:ByteArray)],y1.2.1,y1.2.2.1,y1.2.2.2.1,())).bind fun y2=>
  let e3:Int:=(wr ((1:Int)+y2.1))
  (R07_Parser_take.F ((⟨#[110,117,108,108]⟩:ByteArray),y2.2.1,y2.2.2.1,y2.2.2.2.1,())).bind fun y4=>
  (R07_Parser_take.F ((⟨#[117,110,105,113,117,101]⟩:ByteArray),y4.2.1,y4.2.2.1,y4.2.2.2.1,())).bind fun y5=>
  (R07_Parser_take.F ((⟨#[114,101,102]⟩:ByteArray),y5.2.1,y5.2.2.1,y5.2.2.2.1,())).bind fun y6=>
  (bif y6.1 then
  (R07_Parser_name.F (y6.2.1,y6.2.2.1,y6.2.2.2.1,())).bind fun y7=>
  (R07_Parser_one.F ([(⟨#[114,101,115,116,114,105,99,116]⟩:ByteArray),(⟨#[99,97,115,99,97,100,101]⟩:ByteArray),(⟨#[115,101,116,110,117,108,108]⟩:ByteArray)],y7.2.1,y7.2.2.1,y7.2.2.2.1,())).bind fun y8=>
  some (y1.1,e3,y4.1,y5.1,y7.1,y8.1,y8.2.1,y8.2.2.1,y8.2.2.2.1,())
  else
  some (y1.1,e3,y4.1,y5.1,(⟨#[]⟩:ByteArray),(0:Int),y6.2.1,y6.2.2.1,y6.2.2.2.1,()))
noncomputable def R07_Parser_column.F:=stk R07_Parser_column.B
theorem R07_Parser_column.eq:R07_Parser_column.F=R07_Parser_column.B:=stk_eq _
theorem R07_Parser_column.k:Kk R07_Parser_need.s [] [] Tryz.f89 R07_Parser_column.d R07_Parser_column.B:={}
noncomputable def R07_Parser_column.s:SpL:=R07_Parser_column.d.e [] R07_Parser_column.F::R07_Parser_need.s
theorem R07_Parser_column.c:Ck R07_Parser_column.s []:=cS R07_Parser_need.c R07_Parser_column.k
/-! levee/leveeref01.Truth -/
def R01_Truth.d:Fe:=⟨140,1,⟨[(0,.v false [.bool])],[],[],0,[]⟩,⟨[(0,.v true [.int .i64,.int .i64,.str])],[],[],1000,[]⟩,.n⟩
noncomputable def R01_Truth.B:Bool×Unit→Option (Int×Int×ByteArray×Unit):=fun (p0,_)=>
  (bif p0 then
  some ((1:Int),(1:Int),(⟨#[]⟩:ByteArray),())
  else
  some ((1:Int),(0:Int),(⟨#[]⟩:ByteArray),()))
noncomputable def R01_Truth.F:=stk R01_Truth.B
theorem R01_Truth.eq:R01_Truth.F=R01_Truth.B:=stk_eq _
theorem R01_Truth.k:Kk R07_Parser_column.s [] [] Tryz.f140 R01_Truth.d R01_Truth.B:={}
noncomputable def R01_Truth.s:SpL:=R01_Truth.d.e [] R01_Truth.F::R07_Parser_column.s
theorem R01_Truth.c:Ck R01_Truth.s []:=cS R07_Parser_column.c R01_Truth.k
/-! (*levee/leveeref07.Parser).step -/
def R07_Parser_step.d:Fe:=⟨115,1,⟨[(0,.v false [.ptr 0 0])],[(0,true,.box 110 [.sl 136 tTok,.int .i64,.bool])],[],1,[]⟩,⟨[(0,.v true [.int .i64,.int .i64,.int .i64,.int .i64,.str])],[(0,true,.box 110 [.sl 136 tTok,.int .i64,.bool])],[],1001,[(0,0)]⟩,(.s none .n (.s none .n (.s none .n (.s none .n (.s none .n (.s (some ⟨[(0,.v false [.ptr 0 0])],[(0,true,.box 110 [.sl 136 tTok,.int .i64,.bool])],[2],1,[]⟩) (.s none .n (.b (.l ⟨[(0,.v false [.ptr 0 0]),(4,.v false [.int .i64])],[(0,true,.box 110 [.sl 136 tTok,.int .i64,.bool])],[2,3],1,[]⟩ .n))) (.s none .n (.s none .n (.s (some ⟨[],[],[0,2],0,[]⟩) (.s none .n (.b (.l ⟨[(6,.v false [.int .i64])],[],[0,2,5],0,[]⟩ .n))) .n)))))))))⟩
noncomputable def R07_Parser_step.B:(List tTokT)×Int×Bool×Unit→Option (Int×Int×Int×Int×ByteArray×(List tTokT)×Int×Bool×Unit):=fun (o0_0,o0_1,o0_2,_)=>
  (R07_Parser_take.F ((⟨#[110,117,108,108]⟩:ByteArray),o0_0,o0_1,o0_2,())).bind fun y1=>
  (bif y1.1 then
  (R07_Parser_take.F ((⟨#[63]⟩:ByteArray),y1.2.1,y1.2.2.1,y1.2.2.2.1,())).bind fun y2=>
  (bif y2.1 then
  some ((10:Int),(0:Int),(0:Int),(0:Int),(⟨#[]⟩:ByteArray),y2.2.1,y2.2.2.1,y2.2.2.2.1,())
  else
  some ((1:Int),(0:Int),(0:Int),(0:Int),(⟨#[]⟩:ByteArray),y2.2.1,y2.2.2.1,y2.2.2.2.1,()))
  else
  (R07_Parser_take.F ((⟨#[116,114,117,101]⟩:ByteArray),y1.2.1,y1.2.2.1,y1.2.2.2.1,())).bind fun y3=>
  (bif y3.1 then
  (R01_Truth.F (true,())).bind fun y4=>
  some ((1:Int),(0:Int),y4.1,y4.2.1,y4.2.2.1,y3.2.1,y3.2.2.1,y3.2.2.2.1,())
  else
  (R07_Parser_take.F ((⟨#[102,97,108,115,101]⟩:ByteArray),y3.2.1,y3.2.2.1,y3.2.2.2.1,())).bind fun y5=>
  (bif y5.1 then
  (R01_Truth.F (false,())).bind fun y6=>
  some ((1:Int),(0:Int),y6.1,y6.2.1,y6.2.2.1,y5.2.1,y5.2.2.1,y5.2.2.2.1,())
  else
  jn (S:=(List tTokT)×Int×Bool×Unit) (
  loopM (S:=Int×(List tTokT)×Int×Bool×Unit) (fun (x4,o0_0_0,o0_0_1,o0_0_2,_)=>
  (bif (decide (x4<(8:Int))) then
  ck (ib x4 [(⟨#[43]⟩:ByteArray),(⟨#[45]⟩:ByteArray),(⟨#[42]⟩:ByteArray),(⟨#[61]⟩:ByteArray),(⟨#[60]⟩:ByteArray),(⟨#[97,110,100]⟩:ByteArray),(⟨#[111,114]⟩:ByteArray),(⟨#[110,111,116]⟩:ByteArray)].length)<|
  let e7:ByteArray:=(List.getD [(⟨#[43]⟩:ByteArray),(⟨#[45]⟩:ByteArray),(⟨#[42]⟩:ByteArray),(⟨#[61]⟩:ByteArray),(⟨#[60]⟩:ByteArray),(⟨#[97,110,100]⟩:ByteArray),(⟨#[111,114]⟩:ByteArray),(⟨#[110,111,116]⟩:ByteArray)] (Int.toNat x4) (⟨#[]⟩:ByteArray))
  (R07_Parser_take.F (e7,o0_0_0,o0_0_1,o0_0_2,())).bind fun y8=>
  (bif y8.1 then
  let e9:Int:=(wr ((2:Int)+x4))
  ir (.inr (e9,(0:Int),(0:Int),(0:Int),(⟨#[]⟩:ByteArray),y8.2.1,y8.2.2.1,y8.2.2.2.1,()))
  else
  let e10:Int:=(wr (x4+(1:Int)))
  il (e10,y8.2.1,y8.2.2.1,y8.2.2.2.1,()))
  else
  ir (.inl (o0_0_0,o0_0_1,o0_0_2,())))) ((0:Int),y5.2.1,y5.2.2.1,y5.2.2.2.1,())) fun (o0_0_0_11,o0_0_1_11,o0_0_2_11,_)=>
  (R07_Parser_next.F (o0_0_0_11,o0_0_1_11,o0_0_2_11,())).bind fun y12=>
  (bif (y12.1==(1:Int)) then
  some ((1:Int),(0:Int),y12.2.2.1,y12.2.2.2.1,y12.2.2.2.2.1,y12.2.2.2.2.2.1,y12.2.2.2.2.2.2.1,y12.2.2.2.2.2.2.2.1,())
  else
  jn (S:=Unit) (
  loopM (S:=Int×Unit) (fun (x6,_)=>
  (bif (decide (x6<(100:Int))) then
  (bif (y12.1==(0:Int)) then
  (R01_Signed.F (x6,())).bind fun y13=>
  ck (ca (⟨#[99]⟩:ByteArray) y13.1)<|
  let e14:ByteArray:=((⟨#[99]⟩:ByteArray)++y13.1)
  (bif (sq y12.2.1 e14) then
  ir (.inr ((0:Int),x6,(0:Int),(0:Int),(⟨#[]⟩:ByteArray),y12.2.2.2.2.2.1,y12.2.2.2.2.2.2.1,y12.2.2.2.2.2.2.2.1,()))
  else
  let e15:Int:=(wr (x6+(1:Int)))
  il (e15,()))
  else
  let e16:Int:=(wr (x6+(1:Int)))
  il (e16,()))
  else
  ir (.inl (())))) ((0:Int),())) fun (_)=>
  some ((0:Int),(0:Int),(0:Int),(0:Int),(⟨#[]⟩:ByteArray),y12.2.2.2.2.2.1,y12.2.2.2.2.2.2.1,false,())))))
noncomputable def R07_Parser_step.F:=stk R07_Parser_step.B
theorem R07_Parser_step.eq:R07_Parser_step.F=R07_Parser_step.B:=stk_eq _
theorem R07_Parser_step.k:Kk R01_Truth.s [] [] Tryz.f115 R07_Parser_step.d R07_Parser_step.B:={}
noncomputable def R07_Parser_step.s:SpL:=R07_Parser_step.d.e [] R07_Parser_step.F::R01_Truth.s
theorem R07_Parser_step.c:Ck R07_Parser_step.s []:=cS R01_Truth.c R07_Parser_step.k
/-! (*levee/leveeref07.Parser).expr -/
def R07_Parser_expr.d:Fe:=⟨90,1,⟨[(0,.v false [.ptr 0 0])],[(0,true,.box 110 [.sl 136 tTok,.int .i64,.bool])],[],1,[]⟩,⟨[(0,.v false [.ref 1001])],[(0,true,.box 110 [.sl 136 tTok,.int .i64,.bool]),(1001,false,.arr 77 tNode)],[],1002,[(0,0)]⟩,(.s none .n (.s none .n (.s none .n (.s none (.b (.l ⟨[(0,.v false [.ptr 1 0]),(3,.v false [.ref 0])],[(0,false,.arr 77 tNode),(1,true,.box 110 [.sl 136 tTok,.int .i64,.bool])],[],2,[]⟩ .n)) .n))))⟩
noncomputable def R07_Parser_expr.B:(List tTokT)×Int×Bool×Unit→Option ((List tTokT)×Int×Bool×(List tNodeT)×Unit):=fun (o0_0,o0_1,o0_2,_)=>
  (R07_Parser_need.F ((⟨#[91]⟩:ByteArray),o0_0,o0_1,o0_2,())).bind fun y1=>
  loopM (S:=(List tNodeT)×(List tTokT)×Int×Bool×Unit) (fun (o3_0,o0_0_0,o0_0_1,o0_0_2,_)=>
  (bif o0_0_2 then
  (R07_Parser_take.F ((⟨#[93]⟩:ByteArray),o0_0_0,o0_0_1,o0_0_2,())).bind fun y2=>
  (bif (!y2.1) then
  (R07_Parser_step.F (y2.2.1,y2.2.2.1,y2.2.2.2.1,())).bind fun y3=>
  ck (Nat.ble (o3_0.length+ [(y3.1,(y3.2.1,(y3.2.2.1,(y3.2.2.2.1,y3.2.2.2.2.1))))].length) 2932031007402)<|
  (bif (decide (((o3_0++ [(y3.1,(y3.2.1,(y3.2.2.1,(y3.2.2.2.1,y3.2.2.2.2.1))))]).length:Int)>(100:Int))) then
  il ((o3_0++ [(y3.1,(y3.2.1,(y3.2.2.1,(y3.2.2.2.1,y3.2.2.2.2.1))))]),y3.2.2.2.2.2.1,y3.2.2.2.2.2.2.1,false,())
  else
  il ((o3_0++ [(y3.1,(y3.2.1,(y3.2.2.1,(y3.2.2.2.1,y3.2.2.2.2.1))))]),y3.2.2.2.2.2.1,y3.2.2.2.2.2.2.1,y3.2.2.2.2.2.2.2.1,()))
  else
  ir (y2.2.1,y2.2.2.1,y2.2.2.2.1,o3_0,()))
  else
  ir (o0_0_0,o0_0_1,o0_0_2,o3_0,()))) (([]:List tNodeT),y1.1,y1.2.1,y1.2.2.1,())
noncomputable def R07_Parser_expr.F:=stk R07_Parser_expr.B
theorem R07_Parser_expr.eq:R07_Parser_expr.F=R07_Parser_expr.B:=stk_eq _
theorem R07_Parser_expr.k:Kk R07_Parser_step.s [] [] Tryz.f90 R07_Parser_expr.d R07_Parser_expr.B:={}
noncomputable def R07_Parser_expr.s:SpL:=R07_Parser_expr.d.e [] R07_Parser_expr.F::R07_Parser_step.s
theorem R07_Parser_expr.c:Ck R07_Parser_expr.s []:=cS R07_Parser_step.c R07_Parser_expr.k
/-! (*levee/leveeref07.Parser).table -/
def R07_Parser_table.d:Fe:=⟨55,1,⟨[(0,.v false [.ptr 0 0])],[(0,true,.box 110 [.sl 136 tTok,.int .i64,.bool])],[],1,[]⟩,⟨[(0,.v true [.str,.ref 1001,.ref 1002])],[(0,true,.box 110 [.sl 136 tTok,.int .i64,.bool]),(1001,false,.arr 43 tColumn),(1002,false,.arr 63 (.sl 77 tNode))],[],1003,[(0,0)]⟩,(.s none .n (.s none .n (.s none .n (.s none .n (.s (some ⟨[(0,.v false [.ptr 0 0]),(3,.v false [.ptr 1 0])],[(0,true,.box 110 [.sl 136 tTok,.int .i64,.bool]),(1,true,.box 41 [.str,.ref 2,.ref 3]),(2,false,.arr 43 tColumn),(3,false,.arr 63 (.sl 77 tNode))],[2],4,[]⟩) (.b (.l ⟨[(0,.v false [.ptr 0 0]),(3,.v false [.ptr 1 0])],[(0,true,.box 110 [.sl 136 tTok,.int .i64,.bool]),(1,true,.box 41 [.str,.ref 2,.ref 3]),(2,false,.arr 43 tColumn),(3,false,.arr 63 (.sl 77 tNode))],[2],4,[]⟩ .n)) (.s none .n (.s (some ⟨[(0,.v false [.ptr 0 0]),(3,.v false [.ptr 1 0])],[(0,true,.box 110 [.sl 136 tTok,.int .i64,.bool]),(1,true,.box 41 [.str,.ref 2,.ref 3]),(2,false,.arr 43 tColumn),(3,false,.arr 63 (.sl 77 tNode))],[2],4,[]⟩) (.b (.l ⟨[(0,.v false [.ptr 0 0]),(3,.v false [.ptr 1 0])],[(0,true,.box 110 [.sl 136 tTok,.int .i64,.bool]),(1,true,.box 41 [.str,.ref 2,.ref 3]),(2,false,.arr 43 tColumn),(3,false,.arr 63 (.sl 77 tNode))],[2],4,[]⟩ .n)) .n)))))))⟩
noncomputable def R07_Parser_table.B:(List tTokT)×Int×Bool×Unit→Option (ByteArray×(List tTokT)×Int×Bool×(List tColumnT)×(List (List tNodeT))×Unit):=fun (o0_0,o0_1,o0_2,_)=>
  (R07_Parser_name.F (o0_0,o0_1,o0_2,())).bind fun y1=>
  (R07_Parser_need.F ((⟨#[40]⟩:ByteArray),y1.2.1,y1.2.2.1,y1.2.2.2.1,())).bind fun y2=>
  (R07_Parser_column.F (y2.1,y2.2.1,y2.2.2.1,())).bind fun y3=>
  ck (Nat.ble [(y3.1,(y3.2.1,(y3.2.2.1,(y3.2.2.2.1,(y3.2.2.2.2.1,y3.2.2.2.2.2.1)))))].length 2513169434916)<|
  jn (S:=(List tTokT)×Int×Bool×ByteArray×(List tColumnT)×(List (List tNodeT))×Unit) (
  loopM (S:=(List tTokT)×Int×Bool×ByteArray×(List tColumnT)×(List (List tNodeT))×Unit) (fun (o0_0_0,o0_0_1,o0_0_2,o3_0_0,o3_0_1,o3_0_2,_)=>
  (bif o0_0_2 then
  (R07_Parser_take.F ((⟨#[44]⟩:ByteArray),o0_0_0,o0_0_1,o0_0_2,())).bind fun y4=>
  (bif y4.1 then
  (R07_Parser_column.F (y4.2.1,y4.2.2.1,y4.2.2.2.1,())).bind fun y5=>
  ck (Nat.ble (o3_0_1.length+ [(y5.1,(y5.2.1,(y5.2.2.1,(y5.2.2.2.1,(y5.2.2.2.2.1,y5.2.2.2.2.2.1)))))].length) 2513169434916)<|
  il (y5.2.2.2.2.2.2.1,y5.2.2.2.2.2.2.2.1,y5.2.2.2.2.2.2.2.2.1,o3_0_0,(o3_0_1++ [(y5.1,(y5.2.1,(y5.2.2.1,(y5.2.2.2.1,(y5.2.2.2.2.1,y5.2.2.2.2.2.1)))))]),o3_0_2,())
  else
  ir (.inl (y4.2.1,y4.2.2.1,y4.2.2.2.1,o3_0_0,o3_0_1,o3_0_2,())))
  else
  ir (.inl (o0_0_0,o0_0_1,o0_0_2,o3_0_0,o3_0_1,o3_0_2,())))) (y3.2.2.2.2.2.2.1,y3.2.2.2.2.2.2.2.1,y3.2.2.2.2.2.2.2.2.1,y1.1,[(y3.1,(y3.2.1,(y3.2.2.1,(y3.2.2.2.1,(y3.2.2.2.2.1,y3.2.2.2.2.2.1)))))],[],())) fun (o0_0_0_6,o0_0_1_6,o0_0_2_6,o3_0_0_6,o3_0_1_6,o3_0_2_6,_)=>
  (R07_Parser_need.F ((⟨#[41]⟩:ByteArray),o0_0_0_6,o0_0_1_6,o0_0_2_6,())).bind fun y7=>
  jn (S:=(List tTokT)×Int×Bool×ByteArray×(List tColumnT)×(List (List tNodeT))×Unit) (
  loopM (S:=(List tTokT)×Int×Bool×ByteArray×(List tColumnT)×(List (List tNodeT))×Unit) (fun (o0_0_0,o0_0_1,o0_0_2,o3_0_0,o3_0_1,o3_0_2,_)=>
  (bif o0_0_2 then
  (R07_Parser_take.F ((⟨#[99,104,101,99,107]⟩:ByteArray),o0_0_0,o0_0_1,o0_0_2,())).bind fun y8=>
  (bif y8.1 then
  (R07_Parser_expr.F (y8.2.1,y8.2.2.1,y8.2.2.2.1,())).bind fun y9=>
  ck (Nat.ble (o3_0_2.length+ [y9.2.2.2.1].length) 5864062014805)<|
  il (y9.1,y9.2.1,y9.2.2.1,o3_0_0,o3_0_1,(o3_0_2++ [y9.2.2.2.1]),())
  else
  ir (.inl (y8.2.1,y8.2.2.1,y8.2.2.2.1,o3_0_0,o3_0_1,o3_0_2,())))
  else
  ir (.inl (o0_0_0,o0_0_1,o0_0_2,o3_0_0,o3_0_1,o3_0_2,())))) (y7.1,y7.2.1,y7.2.2.1,o3_0_0_6,o3_0_1_6,o3_0_2_6,())) fun (o0_0_0_10,o0_0_1_10,o0_0_2_10,o3_0_0_10,o3_0_1_10,o3_0_2_10,_)=>
  (bif (decide ((o3_0_1_10.length:Int)>(40:Int))) then
  some (o3_0_0_10,o0_0_0_10,o0_0_1_10,false,o3_0_1_10,o3_0_2_10,())
  else
  (bif (decide ((o3_0_2_10.length:Int)>(40:Int))) then
  some (o3_0_0_10,o0_0_0_10,o0_0_1_10,false,o3_0_1_10,o3_0_2_10,())
  else
  some (o3_0_0_10,o0_0_0_10,o0_0_1_10,o0_0_2_10,o3_0_1_10,o3_0_2_10,())))
noncomputable def R07_Parser_table.F:=stk R07_Parser_table.B
theorem R07_Parser_table.eq:R07_Parser_table.F=R07_Parser_table.B:=stk_eq _
theorem R07_Parser_table.k:Kk R07_Parser_expr.s [] [] Tryz.f55 R07_Parser_table.d R07_Parser_table.B:={}
noncomputable def R07_Parser_table.s:SpL:=R07_Parser_table.d.e [] R07_Parser_table.F::R07_Parser_expr.s
theorem R07_Parser_table.c:Ck R07_Parser_table.s []:=cS R07_Parser_expr.c R07_Parser_table.k
/-! (*levee/leveeref07.Parser).col -/
def R07_Parser_col.d:Fe:=⟨91,1,⟨[(0,.v false [.ptr 0 0])],[(0,true,.box 110 [.sl 136 tTok,.int .i64,.bool])],[],1,[]⟩,⟨[(0,.v false [.int .i64])],[(0,true,.box 110 [.sl 136 tTok,.int .i64,.bool])],[],1001,[(0,0)]⟩,(.s none .n (.s none .n (.s none (.s (some ⟨[(26,.v false [.bool])],[],[0,3],0,[]⟩) .n .n) .n)))⟩
noncomputable def R07_Parser_col.B:(List tTokT)×Int×Bool×Unit→Option (Int×(List tTokT)×Int×Bool×Unit):=fun (o0_0,o0_1,o0_2,_)=>
  (R07_Parser_next.F (o0_0,o0_1,o0_2,())).bind fun y1=>
  jn (S:=Bool×Unit) (
  (bif (y1.1 !=(1:Int)) then
  il (true,())
  else
  (bif (y1.2.2.1 !=(2:Int)) then
  il (true,())
  else
  (bif (decide (y1.2.2.2.1<(0:Int))) then
  il (true,())
  else
  il ((decide (y1.2.2.2.1>(99:Int))),()))))) fun (x26_2,_)=>
  (bif x26_2 then
  some (y1.2.2.2.1,y1.2.2.2.2.2.1,y1.2.2.2.2.2.2.1,false,())
  else
  some (y1.2.2.2.1,y1.2.2.2.2.2.1,y1.2.2.2.2.2.2.1,y1.2.2.2.2.2.2.2.1,()))
noncomputable def R07_Parser_col.F:=stk R07_Parser_col.B
theorem R07_Parser_col.eq:R07_Parser_col.F=R07_Parser_col.B:=stk_eq _
theorem R07_Parser_col.k:Kk R07_Parser_table.s [] [] Tryz.f91 R07_Parser_col.d R07_Parser_col.B:={}
noncomputable def R07_Parser_col.s:SpL:=R07_Parser_col.d.e [] R07_Parser_col.F::R07_Parser_table.s
theorem R07_Parser_col.c:Ck R07_Parser_col.s []:=cS R07_Parser_table.c R07_Parser_col.k
/-! (*levee/leveeref07.Parser).agg -/
def R07_Parser_agg.d:Fe:=⟨93,1,⟨[(0,.v false [.ptr 0 0])],[(0,true,.box 110 [.sl 136 tTok,.int .i64,.bool])],[],1,[]⟩,⟨[(0,.v true [.int .i64,.int .i64])],[(0,true,.box 110 [.sl 136 tTok,.int .i64,.bool])],[],1001,[(0,0)]⟩,.n⟩
noncomputable def R07_Parser_agg.B:(List tTokT)×Int×Bool×Unit→Option (Int×Int×(List tTokT)×Int×Bool×Unit):=fun (o0_0,o0_1,o0_2,_)=>
  (R07_Parser_one.F ([(⟨#[99,111,117,110,116]⟩:ByteArray),(⟨#[115,117,109]⟩:ByteArray),(⟨#[109,105,110]⟩:ByteArray),(⟨#[109,97,120]⟩:ByteArray)],o0_0,o0_1,o0_2,())).bind fun y1=>
  (bif (y1.1 !=(0:Int)) then
  (R07_Parser_col.F (y1.2.1,y1.2.2.1,y1.2.2.2.1,())).bind fun y2=>
  some (y1.1,y2.1,y2.2.1,y2.2.2.1,y2.2.2.2.1,())
  else
  some (y1.1,(0:Int),y1.2.1,y1.2.2.1,y1.2.2.2.1,()))
noncomputable def R07_Parser_agg.F:=stk R07_Parser_agg.B
theorem R07_Parser_agg.eq:R07_Parser_agg.F=R07_Parser_agg.B:=stk_eq _
theorem R07_Parser_agg.k:Kk R07_Parser_col.s [] [] Tryz.f93 R07_Parser_agg.d R07_Parser_agg.B:={}
noncomputable def R07_Parser_agg.s:SpL:=R07_Parser_agg.d.e [] R07_Parser_agg.F::R07_Parser_col.s
theorem R07_Parser_agg.c:Ck R07_Parser_agg.s []:=cS R07_Parser_col.c R07_Parser_agg.k
/-! (*levee/leveeref07.Parser).view -/
def R07_Parser_view.d:Fe:=⟨56,1,⟨[(0,.v false [.ptr 0 0])],[(0,true,.box 110 [.sl 136 tTok,.int .i64,.bool])],[],1,[]⟩,⟨[(0,.v true [.str,.str,.str,.int .i64,.int .i64,.ref 1001,.ref 1002,.bool,.ref 1003])],[(0,true,.box 110 [.sl 136 tTok,.int .i64,.bool]),(1001,false,.arr 77 tNode),(1002,false,.arr 3 (.int .i64)),(1003,false,.arr 103 tAgg)],[],1004,[(0,0)]⟩,(.s none .n (.s none .n (.s none .n (.s none .n (.s (some ⟨[(0,.v false [.ptr 0 0]),(3,.v false [.ptr 1 0])],[(0,true,.box 110 [.sl 136 tTok,.int .i64,.bool]),(1,true,.box 67 [.str,.str,.str,.int .i64,.int .i64,.ref 2,.ref 3,.bool,.ref 4]),(2,false,.arr 77 tNode),(3,false,.arr 3 (.int .i64)),(4,false,.arr 103 tAgg)],[2],5,[]⟩) .n (.s (some ⟨[(0,.v false [.ptr 0 0]),(3,.v false [.ptr 1 0])],[(0,true,.box 110 [.sl 136 tTok,.int .i64,.bool]),(1,true,.box 67 [.str,.str,.str,.int .i64,.int .i64,.ref 2,.ref 3,.bool,.ref 4]),(2,false,.arr 77 tNode),(3,false,.arr 3 (.int .i64)),(4,false,.arr 103 tAgg)],[2],5,[]⟩) .n (.s none .n (.s (some ⟨[(0,.v false [.ptr 0 0]),(3,.v false [.ptr 1 0])],[(0,true,.box 110 [.sl 136 tTok,.int .i64,.bool]),(1,true,.box 67 [.str,.str,.str,.int .i64,.int .i64,.ref 2,.ref 3,.bool,.ref 4]),(2,false,.arr 77 tNode),(3,false,.arr 3 (.int .i64)),(4,false,.arr 103 tAgg)],[2],5,[]⟩) (.s (some ⟨[(0,.v false [.ptr 0 0]),(52,.v false [.bool])],[(0,true,.box 110 [.sl 136 tTok,.int .i64,.bool])],[2,3],1,[]⟩) .n (.c (.s none .n (.b (.l ⟨[(0,.v false [.ptr 0 0]),(3,.v false [.ptr 1 0])],[(0,true,.box 110 [.sl 136 tTok,.int .i64,.bool]),(1,true,.box 67 [.str,.str,.str,.int .i64,.int .i64,.ref 2,.ref 3,.bool,.ref 4]),(2,false,.arr 77 tNode),(3,false,.arr 3 (.int .i64)),(4,false,.arr 103 tAgg)],[2],5,[]⟩ .n))) .n)) (.s none .n (.s (some ⟨[(0,.v false [.ptr 0 0]),(3,.v false [.ptr 1 0])],[(0,true,.box 110 [.sl 136 tTok,.int .i64,.bool]),(1,true,.box 67 [.str,.str,.str,.int .i64,.int .i64,.ref 2,.ref 3,.bool,.ref 4]),(2,false,.arr 77 tNode),(3,false,.arr 3 (.int .i64)),(4,false,.arr 103 tAgg)],[2],5,[]⟩) (.s (some ⟨[(91,.v false [.bool])],[],[0,2,3],0,[]⟩) .n (.c (.s none .n (.b (.l ⟨[(0,.v false [.ptr 0 0]),(3,.v false [.ptr 1 0])],[(0,true,.box 110 [.sl 136 tTok,.int .i64,.bool]),(1,true,.box 67 [.str,.str,.str,.int .i64,.int .i64,.ref 2,.ref 3,.bool,.ref 4]),(2,false,.arr 77 tNode),(3,false,.arr 3 (.int .i64)),(4,false,.arr 103 tAgg)],[2],5,[]⟩ .n))) .n)) .n))))))))))⟩
noncomputable def R07_Parser_view.B:(List tTokT)×Int×Bool×Unit→Option (ByteArray×ByteArray×ByteArray×Int×Int×Bool×(List tTokT)×Int×Bool×(List tNodeT)×(List Int)×(List tAggT)×Unit):=fun (o0_0,o0_1,o0_2,_)=>
  (R07_Parser_name.F (o0_0,o0_1,o0_2,())).bind fun y1=>
  (R07_Parser_need.F ((⟨#[102,114,111,109]⟩:ByteArray),y1.2.1,y1.2.2.1,y1.2.2.2.1,())).bind fun y2=>
  (R07_Parser_name.F (y2.1,y2.2.1,y2.2.2.1,())).bind fun y3=>
  jn (S:=(List tTokT)×Int×Bool×ByteArray×ByteArray×ByteArray×Int×Int×Bool×(List tNodeT)×(List Int)×(List tAggT)×Unit) (
  (R07_Parser_take.F ((⟨#[106,111,105,110]⟩:ByteArray),y3.2.1,y3.2.2.1,y3.2.2.2.1,())).bind fun y4=>
  (bif y4.1 then
  (R07_Parser_name.F (y4.2.1,y4.2.2.1,y4.2.2.2.1,())).bind fun y5=>
  (R07_Parser_need.F ((⟨#[111,110]⟩:ByteArray),y5.2.1,y5.2.2.1,y5.2.2.2.1,())).bind fun y6=>
  (R07_Parser_col.F (y6.1,y6.2.1,y6.2.2.1,())).bind fun y7=>
  (R07_Parser_need.F ((⟨#[61]⟩:ByteArray),y7.2.1,y7.2.2.1,y7.2.2.2.1,())).bind fun y8=>
  (R07_Parser_col.F (y8.1,y8.2.1,y8.2.2.1,())).bind fun y9=>
  il (y9.2.1,y9.2.2.1,y9.2.2.2.1,y1.1,y3.1,y5.1,y7.1,y9.1,false,[],[],[],())
  else
  il (y4.2.1,y4.2.2.1,y4.2.2.2.1,y1.1,y3.1,(⟨#[]⟩:ByteArray),(0:Int),(0:Int),false,[],[],[],()))) fun (o0_0_0_10,o0_0_1_10,o0_0_2_10,o3_0_0_10,o3_0_1_10,o3_0_2_10,o3_0_3_10,o3_0_4_10,o3_0_7_10,o3_0_5_10,o3_0_6_10,o3_0_8_10,_)=>
  jn (S:=(List tTokT)×Int×Bool×ByteArray×ByteArray×ByteArray×Int×Int×Bool×(List tNodeT)×(List Int)×(List tAggT)×Unit) (
  (R07_Parser_take.F ((⟨#[119,104,101,114,101]⟩:ByteArray),o0_0_0_10,o0_0_1_10,o0_0_2_10,())).bind fun y11=>
  (bif y11.1 then
  (R07_Parser_expr.F (y11.2.1,y11.2.2.1,y11.2.2.2.1,())).bind fun y12=>
  il (y12.1,y12.2.1,y12.2.2.1,o3_0_0_10,o3_0_1_10,o3_0_2_10,o3_0_3_10,o3_0_4_10,o3_0_7_10,y12.2.2.2.1,o3_0_6_10,o3_0_8_10,())
  else
  il (y11.2.1,y11.2.2.1,y11.2.2.2.1,o3_0_0_10,o3_0_1_10,o3_0_2_10,o3_0_3_10,o3_0_4_10,o3_0_7_10,o3_0_5_10,o3_0_6_10,o3_0_8_10,()))) fun (o0_0_0_13,o0_0_1_13,o0_0_2_13,o3_0_0_13,o3_0_1_13,o3_0_2_13,o3_0_3_13,o3_0_4_13,o3_0_7_13,o3_0_5_13,o3_0_6_13,o3_0_8_13,_)=>
  (R07_Parser_need.F ((⟨#[112,105,99,107]⟩:ByteArray),o0_0_0_13,o0_0_1_13,o0_0_2_13,())).bind fun y14=>
  jn (S:=(List tTokT)×Int×Bool×ByteArray×ByteArray×ByteArray×Int×Int×Bool×(List tNodeT)×(List Int)×(List tAggT)×Unit) (
  jn (S:=Bool×(List tTokT)×Int×Bool×Unit) (
  (bif (decide (y14.2.1<(y14.1.length:Int))) then
  (R07_Parser_is.F ((⟨#[103,114,111,117,112]⟩:ByteArray),y14.1,y14.2.1,y14.2.2.1,())).bind fun y15=>
  il ((!y15.1),y15.2.1,y15.2.2.1,y15.2.2.2.1,())
  else
  il (false,y14.1,y14.2.1,y14.2.2.1,()))) fun (x52_16,o0_0_0_16,o0_0_1_16,o0_0_2_16,_)=>
  (bif x52_16 then
  (R07_Parser_col.F (o0_0_0_16,o0_0_1_16,o0_0_2_16,())).bind fun y17=>
  ck (Nat.ble (o3_0_6_13.length+ [y17.1].length) 17592186044416)<|
  loopM (S:=(List tTokT)×Int×Bool×ByteArray×ByteArray×ByteArray×Int×Int×Bool×(List tNodeT)×(List Int)×(List tAggT)×Unit) (fun (o0_0_0,o0_0_1,o0_0_2,o3_0_0,o3_0_1,o3_0_2,o3_0_3,o3_0_4,o3_0_7,o3_0_5,o3_0_6,o3_0_8,_)=>
  (bif o0_0_2 then
  (R07_Parser_take.F ((⟨#[44]⟩:ByteArray),o0_0_0,o0_0_1,o0_0_2,())).bind fun y18=>
  (bif y18.1 then
  (R07_Parser_col.F (y18.2.1,y18.2.2.1,y18.2.2.2.1,())).bind fun y19=>
  ck (Nat.ble (o3_0_6.length+ [y19.1].length) 17592186044416)<|
  il (y19.2.1,y19.2.2.1,y19.2.2.2.1,o3_0_0,o3_0_1,o3_0_2,o3_0_3,o3_0_4,o3_0_7,o3_0_5,(o3_0_6++ [y19.1]),o3_0_8,())
  else
  ir (.inl (y18.2.1,y18.2.2.1,y18.2.2.2.1,o3_0_0,o3_0_1,o3_0_2,o3_0_3,o3_0_4,o3_0_7,o3_0_5,o3_0_6,o3_0_8,())))
  else
  ir (.inl (o0_0_0,o0_0_1,o0_0_2,o3_0_0,o3_0_1,o3_0_2,o3_0_3,o3_0_4,o3_0_7,o3_0_5,o3_0_6,o3_0_8,())))) (y17.2.1,y17.2.2.1,y17.2.2.2.1,o3_0_0_13,o3_0_1_13,o3_0_2_13,o3_0_3_13,o3_0_4_13,o3_0_7_13,o3_0_5_13,(o3_0_6_13++ [y17.1]),o3_0_8_13,())
  else
  il (o0_0_0_16,o0_0_1_16,o0_0_2_16,o3_0_0_13,o3_0_1_13,o3_0_2_13,o3_0_3_13,o3_0_4_13,o3_0_7_13,o3_0_5_13,o3_0_6_13,o3_0_8_13,()))) fun (o0_0_0_20,o0_0_1_20,o0_0_2_20,o3_0_0_20,o3_0_1_20,o3_0_2_20,o3_0_3_20,o3_0_4_20,o3_0_7_20,o3_0_5_20,o3_0_6_20,o3_0_8_20,_)=>
  (R07_Parser_take.F ((⟨#[103,114,111,117,112]⟩:ByteArray),o0_0_0_20,o0_0_1_20,o0_0_2_20,())).bind fun y21=>
  jn (S:=(List tTokT)×Int×Bool×ByteArray×ByteArray×ByteArray×Int×Int×Bool×(List tNodeT)×(List Int)×(List tAggT)×Unit) (
  jn (S:=Bool×Unit) (
  (bif y21.1 then
  il ((decide (y21.2.2.1<(y21.2.1.length:Int))),())
  else
  il (false,()))) fun (x91_22,_)=>
  (bif x91_22 then
  (R07_Parser_agg.F (y21.2.1,y21.2.2.1,y21.2.2.2.1,())).bind fun y23=>
  ck (Nat.ble (o3_0_8_20.length+ [(y23.1,y23.2.1)].length) 8796093022208)<|
  loopM (S:=(List tTokT)×Int×Bool×ByteArray×ByteArray×ByteArray×Int×Int×Bool×(List tNodeT)×(List Int)×(List tAggT)×Unit) (fun (o0_0_0,o0_0_1,o0_0_2,o3_0_0,o3_0_1,o3_0_2,o3_0_3,o3_0_4,o3_0_7,o3_0_5,o3_0_6,o3_0_8,_)=>
  (bif o0_0_2 then
  (R07_Parser_take.F ((⟨#[44]⟩:ByteArray),o0_0_0,o0_0_1,o0_0_2,())).bind fun y24=>
  (bif y24.1 then
  (R07_Parser_agg.F (y24.2.1,y24.2.2.1,y24.2.2.2.1,())).bind fun y25=>
  ck (Nat.ble (o3_0_8.length+ [(y25.1,y25.2.1)].length) 8796093022208)<|
  il (y25.2.2.1,y25.2.2.2.1,y25.2.2.2.2.1,o3_0_0,o3_0_1,o3_0_2,o3_0_3,o3_0_4,o3_0_7,o3_0_5,o3_0_6,(o3_0_8++ [(y25.1,y25.2.1)]),())
  else
  ir (.inl (y24.2.1,y24.2.2.1,y24.2.2.2.1,o3_0_0,o3_0_1,o3_0_2,o3_0_3,o3_0_4,o3_0_7,o3_0_5,o3_0_6,o3_0_8,())))
  else
  ir (.inl (o0_0_0,o0_0_1,o0_0_2,o3_0_0,o3_0_1,o3_0_2,o3_0_3,o3_0_4,o3_0_7,o3_0_5,o3_0_6,o3_0_8,())))) (y23.2.2.1,y23.2.2.2.1,y23.2.2.2.2.1,o3_0_0_20,o3_0_1_20,o3_0_2_20,o3_0_3_20,o3_0_4_20,y21.1,o3_0_5_20,o3_0_6_20,(o3_0_8_20++ [(y23.1,y23.2.1)]),())
  else
  il (y21.2.1,y21.2.2.1,y21.2.2.2.1,o3_0_0_20,o3_0_1_20,o3_0_2_20,o3_0_3_20,o3_0_4_20,y21.1,o3_0_5_20,o3_0_6_20,o3_0_8_20,()))) fun (o0_0_0_26,o0_0_1_26,o0_0_2_26,o3_0_0_26,o3_0_1_26,o3_0_2_26,o3_0_3_26,o3_0_4_26,o3_0_7_26,o3_0_5_26,o3_0_6_26,o3_0_8_26,_)=>
  (bif (decide ((o3_0_6_26.length:Int)>(40:Int))) then
  some (o3_0_0_26,o3_0_1_26,o3_0_2_26,o3_0_3_26,o3_0_4_26,o3_0_7_26,o0_0_0_26,o0_0_1_26,false,o3_0_5_26,o3_0_6_26,o3_0_8_26,())
  else
  (bif (decide ((o3_0_8_26.length:Int)>(40:Int))) then
  some (o3_0_0_26,o3_0_1_26,o3_0_2_26,o3_0_3_26,o3_0_4_26,o3_0_7_26,o0_0_0_26,o0_0_1_26,false,o3_0_5_26,o3_0_6_26,o3_0_8_26,())
  else
  some (o3_0_0_26,o3_0_1_26,o3_0_2_26,o3_0_3_26,o3_0_4_26,o3_0_7_26,o0_0_0_26,o0_0_1_26,o0_0_2_26,o3_0_5_26,o3_0_6_26,o3_0_8_26,())))
noncomputable def R07_Parser_view.F:=stk R07_Parser_view.B
theorem R07_Parser_view.eq:R07_Parser_view.F=R07_Parser_view.B:=stk_eq _
theorem R07_Parser_view.k:Kk R07_Parser_agg.s [] [] Tryz.f56 R07_Parser_view.d R07_Parser_view.B:={}
noncomputable def R07_Parser_view.s:SpL:=R07_Parser_view.d.e [] R07_Parser_view.F::R07_Parser_agg.s
theorem R07_Parser_view.c:Ck R07_Parser_view.s []:=cS R07_Parser_agg.c R07_Parser_view.k
/-! levee/leveeref07.Parse -/
def R07_Parse.d:Fe:=⟨31,1,⟨[(0,.v false [.str])],[],[],0,[]⟩,⟨[(0,.tup [(true,[.int .i64,.str,.ref 1000,.ref 1001,.str,.str,.str,.int .i64,.int .i64,.ref 1002,.ref 1003,.bool,.ref 1004]),(false,[.int .i64])])],[(1000,false,.arr 43 tColumn),(1001,false,.arr 63 (.sl 77 tNode)),(1002,false,.arr 77 tNode),(1003,false,.arr 3 (.int .i64)),(1004,false,.arr 103 tAgg)],[],1005,[]⟩,(.s none .n (.s none .n (.s none .n (.s none .n (.s none .n (.s (some ⟨[(6,.v false [.ptr 0 0]),(7,.v false [.ptr 1 0])],[(0,true,.box 110 [.sl 136 tTok,.int .i64,.bool]),(1,true,.box 69 [.int .i64,.str,.ref 2,.ref 3,.str,.str,.str,.int .i64,.int .i64,.ref 4,.ref 5,.bool,.ref 6]),(2,false,.arr 43 tColumn),(3,false,.arr 63 (.sl 77 tNode)),(4,false,.arr 77 tNode),(5,false,.arr 3 (.int .i64)),(6,false,.arr 103 tAgg)],[2,4],7,[]⟩) (.s (some ⟨[(32,.v false [.bool])],[],[2,4,6,7],0,[]⟩) .n .n) .n))))))⟩
noncomputable def R07_Parse.B:ByteArray×Unit→Option (Int×ByteArray×ByteArray×ByteArray×ByteArray×Int×Int×Bool×Int×(List tColumnT)×(List (List tNodeT))×(List tNodeT)×(List Int)×(List tAggT)×Unit):=fun (p0,_)=>
  (R06_Lex.F (p0,())).bind fun y1=>
  (bif (y1.1 !=(0:Int)) then
  some ((0:Int),(⟨#[]⟩:ByteArray),(⟨#[]⟩:ByteArray),(⟨#[]⟩:ByteArray),(⟨#[]⟩:ByteArray),(0:Int),(0:Int),false,y1.1,[],[],[],[],[],())
  else
  (R07_Parser_one.F ([(⟨#[116,97,98,108,101]⟩:ByteArray),(⟨#[118,105,101,119]⟩:ByteArray)],y1.2.1,(0:Int),true,())).bind fun y2=>
  jn (S:=(List tTokT)×Int×Bool×Int×ByteArray×ByteArray×ByteArray×ByteArray×Int×Int×Bool×(List tColumnT)×(List (List tNodeT))×(List tNodeT)×(List Int)×(List tAggT)×Unit) (
  jn (S:=Bool×Unit) (
  (bif y2.2.2.2.1 then
  il ((y2.1==(0:Int)),())
  else
  il (false,()))) fun (x32_3,_)=>
  (bif x32_3 then
  (R07_Parser_table.F (y2.2.1,y2.2.2.1,y2.2.2.2.1,())).bind fun y4=>
  il (y4.2.1,y4.2.2.1,y4.2.2.2.1,y2.1,y4.1,(⟨#[]⟩:ByteArray),(⟨#[]⟩:ByteArray),(⟨#[]⟩:ByteArray),(0:Int),(0:Int),false,y4.2.2.2.2.1,y4.2.2.2.2.2.1,[],[],[],())
  else
  (bif y2.2.2.2.1 then
  (R07_Parser_view.F (y2.2.1,y2.2.2.1,y2.2.2.2.1,())).bind fun y5=>
  il (y5.2.2.2.2.2.2.1,y5.2.2.2.2.2.2.2.1,y5.2.2.2.2.2.2.2.2.1,y2.1,(⟨#[]⟩:ByteArray),y5.1,y5.2.1,y5.2.2.1,y5.2.2.2.1,y5.2.2.2.2.1,y5.2.2.2.2.2.1,[],[],y5.2.2.2.2.2.2.2.2.2.1,y5.2.2.2.2.2.2.2.2.2.2.1,y5.2.2.2.2.2.2.2.2.2.2.2.1,())
  else
  il (y2.2.1,y2.2.2.1,y2.2.2.2.1,y2.1,(⟨#[]⟩:ByteArray),(⟨#[]⟩:ByteArray),(⟨#[]⟩:ByteArray),(⟨#[]⟩:ByteArray),(0:Int),(0:Int),false,[],[],[],[],[],())))) fun (o6_0_0_6,o6_0_1_6,o6_0_2_6,o7_0_0_6,o7_0_1_6,o7_0_4_6,o7_0_5_6,o7_0_6_6,o7_0_7_6,o7_0_8_6,o7_0_11_6,o7_0_2_6,o7_0_3_6,o7_0_9_6,o7_0_10_6,o7_0_12_6,_)=>
  (bif (!o6_0_2_6) then
  some ((0:Int),(⟨#[]⟩:ByteArray),(⟨#[]⟩:ByteArray),(⟨#[]⟩:ByteArray),(⟨#[]⟩:ByteArray),(0:Int),(0:Int),false,(70:Int),[],[],[],[],[],())
  else
  (bif (decide (o6_0_1_6<(y1.2.1.length:Int))) then
  some ((0:Int),(⟨#[]⟩:ByteArray),(⟨#[]⟩:ByteArray),(⟨#[]⟩:ByteArray),(⟨#[]⟩:ByteArray),(0:Int),(0:Int),false,(70:Int),[],[],[],[],[],())
  else
  some (o7_0_0_6,o7_0_1_6,o7_0_4_6,o7_0_5_6,o7_0_6_6,o7_0_7_6,o7_0_8_6,o7_0_11_6,(0:Int),o7_0_2_6,o7_0_3_6,o7_0_9_6,o7_0_10_6,o7_0_12_6,()))))
noncomputable def R07_Parse.F:=stk R07_Parse.B
theorem R07_Parse.eq:R07_Parse.F=R07_Parse.B:=stk_eq _
theorem R07_Parse.k:Kk R07_Parser_view.s [] [] Tryz.f31 R07_Parse.d R07_Parse.B:={}
noncomputable def R07_Parse.s:SpL:=R07_Parse.d.e [] R07_Parse.F::R07_Parser_view.s
theorem R07_Parse.c:Ck R07_Parse.s []:=cS R07_Parser_view.c R07_Parse.k
/-! levee/leveeref03.Same -/
def R03_Same.d:Fe:=⟨94,2,⟨[(0,.v false [.sl 77 tNode]),(1,.v false [.sl 77 tNode])],[],[],0,[]⟩,⟨[(0,.v false [.bool])],[],[],1000,[]⟩,(.s none .n (.s none .n (.s none (.s none .n (.b (.l ⟨[(5,.v false [.int .i64])],[],[0,1],0,[]⟩ .n))) .n)))⟩
noncomputable def R03_Same.B:(List tNodeT)×(List tNodeT)×Unit→Option (Bool×Unit):=fun (p0,p1,_)=>
  (bif ((p0.length:Int) !=(p1.length:Int)) then
  some (false,())
  else
  loopM (S:=Int×Unit) (fun (x5,_)=>
  (bif (decide (x5<(p0.length:Int))) then
  ck (ib x5 p0.length)<|
  let e1:tNodeT:=(gt p0 x5 tNode.z)
  ck (ib x5 p1.length)<|
  let e2:tNodeT:=(gt p1 x5 tNode.z)
  (bif (!(Ty.eq tNode e1 e2)) then
  ir (false,())
  else
  let e3:Int:=(wr (x5+(1:Int)))
  il (e3,()))
  else
  ir (true,()))) ((0:Int),()))
noncomputable def R03_Same.F:=stk R03_Same.B
theorem R03_Same.eq:R03_Same.F=R03_Same.B:=stk_eq _
theorem R03_Same.k:Kk R07_Parse.s [] [] Tryz.f94 R03_Same.d R03_Same.B:={}
noncomputable def R03_Same.s:SpL:=R03_Same.d.e [] R03_Same.F::R07_Parse.s
theorem R03_Same.c:Ck R03_Same.s []:=cS R07_Parse.c R03_Same.k
/-! levee/leveeref07.SameTable -/
def R07_SameTable.d:Fe:=⟨57,2,⟨[(0,.v true [.str,.sl 43 tColumn,.sl 63 (.sl 77 tNode)]),(1,.v true [.str,.sl 43 tColumn,.sl 63 (.sl 77 tNode)])],[],[],0,[]⟩,⟨[(0,.v false [.bool])],[],[],1000,[]⟩,(.s none .n (.s (some ⟨[],[],[2,3],0,[]⟩) .n (.s (some ⟨[],[],[2,3],0,[]⟩) (.s none .n (.b (.l ⟨[(5,.v false [.int .i64])],[],[2,3],0,[]⟩ .n))) (.s none (.s none .n (.b (.l ⟨[(6,.v false [.int .i64])],[],[2,3],0,[]⟩ .n))) .n))))⟩
noncomputable def R07_SameTable.B:ByteArray×(List tColumnT)×(List (List tNodeT))×ByteArray×(List tColumnT)×(List (List tNodeT))×Unit→Option (Bool×Unit):=fun (p0_0,p0_1,p0_2,p1_0,p1_1,p1_2,_)=>
  jn (S:=Unit) (
  (bif (!sq p0_0 p1_0) then
  ir (false,())
  else
  (bif ((p0_1.length:Int) !=(p1_1.length:Int)) then
  ir (false,())
  else
  (bif ((p0_2.length:Int) !=(p1_2.length:Int)) then
  ir (false,())
  else
  il (()))))) fun (_)=>
  jn (S:=Unit) (
  loopM (S:=Int×Unit) (fun (x5,_)=>
  (bif (decide (x5<(p0_1.length:Int))) then
  ck (ib x5 p0_1.length)<|
  let e2:tColumnT:=(gt p0_1 x5 tColumn.z)
  ck (ib x5 p1_1.length)<|
  let e3:tColumnT:=(gt p1_1 x5 tColumn.z)
  (bif (!(Ty.eq tColumn e2 e3)) then
  ir (.inr (false,()))
  else
  let e4:Int:=(wr (x5+(1:Int)))
  il (e4,()))
  else
  ir (.inl (())))) ((0:Int),())) fun (_)=>
  loopM (S:=Int×Unit) (fun (x6,_)=>
  (bif (decide (x6<(p0_2.length:Int))) then
  ck (ib x6 p0_2.length)<|
  let e6:(List tNodeT):=(gt p0_2 x6 [])
  ck (ib x6 p1_2.length)<|
  let e7:(List tNodeT):=(gt p1_2 x6 [])
  (R03_Same.F (e6,e7,())).bind fun y8=>
  (bif (!y8.1) then
  ir (false,())
  else
  let e9:Int:=(wr (x6+(1:Int)))
  il (e9,()))
  else
  ir (true,()))) ((0:Int),())
noncomputable def R07_SameTable.F:=stk R07_SameTable.B
theorem R07_SameTable.eq:R07_SameTable.F=R07_SameTable.B:=stk_eq _
theorem R07_SameTable.k:Kk R03_Same.s [] [] Tryz.f57 R07_SameTable.d R07_SameTable.B:={}
noncomputable def R07_SameTable.s:SpL:=R07_SameTable.d.e [] R07_SameTable.F::R03_Same.s
theorem R07_SameTable.c:Ck R07_SameTable.s []:=cS R03_Same.c R07_SameTable.k
/-! levee/leveeref07.Ints -/
def R07_Ints.d:Fe:=⟨95,2,⟨[(0,.v false [.sl 3 (.int .i64)]),(1,.v false [.sl 3 (.int .i64)])],[],[],0,[]⟩,⟨[(0,.v false [.bool])],[],[],1000,[]⟩,(.s none .n (.s none .n (.s none (.s none .n (.b (.l ⟨[(5,.v false [.int .i64])],[],[0,1],0,[]⟩ .n))) .n)))⟩
noncomputable def R07_Ints.B:(List Int)×(List Int)×Unit→Option (Bool×Unit):=fun (p0,p1,_)=>
  (bif ((p0.length:Int) !=(p1.length:Int)) then
  some (false,())
  else
  loopM (S:=Int×Unit) (fun (x5,_)=>
  (bif (decide (x5<(p0.length:Int))) then
  ck (ib x5 p0.length)<|
  let e1:Int:=(gt p0 x5 (0:Int))
  ck (ib x5 p1.length)<|
  let e2:Int:=(gt p1 x5 (0:Int))
  (bif (e1 !=e2) then
  ir (false,())
  else
  let e3:Int:=(wr (x5+(1:Int)))
  il (e3,()))
  else
  ir (true,()))) ((0:Int),()))
noncomputable def R07_Ints.F:=stk R07_Ints.B
theorem R07_Ints.eq:R07_Ints.F=R07_Ints.B:=stk_eq _
theorem R07_Ints.k:Kk R07_SameTable.s [] [] Tryz.f95 R07_Ints.d R07_Ints.B:={}
noncomputable def R07_Ints.s:SpL:=R07_Ints.d.e [] R07_Ints.F::R07_SameTable.s
theorem R07_Ints.c:Ck R07_Ints.s []:=cS R07_SameTable.c R07_Ints.k
/-! levee/leveeref07.SameView -/
def R07_SameView.d:Fe:=⟨58,2,⟨[(0,.v true [.str,.str,.str,.int .i64,.int .i64,.sl 77 tNode,.sl 3 (.int .i64),.bool,.sl 103 tAgg]),(1,.v true [.str,.str,.str,.int .i64,.int .i64,.sl 77 tNode,.sl 3 (.int .i64),.bool,.sl 103 tAgg])],[],[],0,[]⟩,⟨[(0,.v false [.bool])],[],[],1000,[]⟩,(.s none .n (.s none (.s (some ⟨[(63,.v false [.bool])],[],[2,3],0,[]⟩) .n .n) (.s none (.s none .n (.b (.l ⟨[(5,.v false [.int .i64])],[],[2,3],0,[]⟩ .n))) .n)))⟩
noncomputable def R07_SameView.B:ByteArray×ByteArray×ByteArray×Int×Int×(List tNodeT)×(List Int)×Bool×(List tAggT)×ByteArray×ByteArray×ByteArray×Int×Int×(List tNodeT)×(List Int)×Bool×(List tAggT)×Unit→Option (Bool×Unit):=fun (p0_0,p0_1,p0_2,p0_3,p0_4,p0_5,p0_6,p0_7,p0_8,p1_0,p1_1,p1_2,p1_3,p1_4,p1_5,p1_6,p1_7,p1_8,_)=>
  jn (S:=Bool×Unit) (
  (bif (!sq p0_0 p1_0) then
  il (true,())
  else
  (bif (!sq p0_1 p1_1) then
  il (true,())
  else
  (bif (!sq p0_2 p1_2) then
  il (true,())
  else
  (bif (!(Ty.eq tAgg (p0_3,p0_4) (p1_3,p1_4))) then
  il (true,())
  else
  (R03_Same.F (p0_5,p1_5,())).bind fun y1=>
  (bif (!y1.1) then
  il (true,())
  else
  (R07_Ints.F (p0_6,p1_6,())).bind fun y2=>
  (bif (!y2.1) then
  il (true,())
  else
  (bif (!(p0_7==p1_7)) then
  il (true,())
  else
  il (((p0_8.length:Int) !=(p1_8.length:Int)),()))))))))) fun (x63_3,_)=>
  (bif x63_3 then
  some (false,())
  else
  loopM (S:=Int×Unit) (fun (x5,_)=>
  (bif (decide (x5<(p0_8.length:Int))) then
  ck (ib x5 p0_8.length)<|
  let e4:tAggT:=(gt p0_8 x5 tAgg.z)
  ck (ib x5 p1_8.length)<|
  let e5:tAggT:=(gt p1_8 x5 tAgg.z)
  (bif (!(Ty.eq tAgg e4 e5)) then
  ir (false,())
  else
  let e6:Int:=(wr (x5+(1:Int)))
  il (e6,()))
  else
  ir (true,()))) ((0:Int),()))
noncomputable def R07_SameView.F:=stk R07_SameView.B
theorem R07_SameView.eq:R07_SameView.F=R07_SameView.B:=stk_eq _
theorem R07_SameView.k:Kk R07_Ints.s [] [] Tryz.f58 R07_SameView.d R07_SameView.B:={}
noncomputable def R07_SameView.s:SpL:=R07_SameView.d.e [] R07_SameView.F::R07_Ints.s
theorem R07_SameView.c:Ck R07_SameView.s []:=cS R07_Ints.c R07_SameView.k
/-! levee/leveeref07.Same -/
def R07_Same.d:Fe:=⟨32,2,⟨[(0,.v true [.int .i64,.str,.sl 43 tColumn,.sl 63 (.sl 77 tNode),.str,.str,.str,.int .i64,.int .i64,.sl 77 tNode,.sl 3 (.int .i64),.bool,.sl 103 tAgg]),(1,.v true [.int .i64,.str,.sl 43 tColumn,.sl 63 (.sl 77 tNode),.str,.str,.str,.int .i64,.int .i64,.sl 77 tNode,.sl 3 (.int .i64),.bool,.sl 103 tAgg])],[],[],0,[]⟩,⟨[(0,.v false [.bool])],[],[],1000,[]⟩,.n⟩
noncomputable def R07_Same.B:Int×ByteArray×(List tColumnT)×(List (List tNodeT))×ByteArray×ByteArray×ByteArray×Int×Int×(List tNodeT)×(List Int)×Bool×(List tAggT)×Int×ByteArray×(List tColumnT)×(List (List tNodeT))×ByteArray×ByteArray×ByteArray×Int×Int×(List tNodeT)×(List Int)×Bool×(List tAggT)×Unit→Option (Bool×Unit):=fun (p0_0,p0_1,p0_2,p0_3,p0_4,p0_5,p0_6,p0_7,p0_8,p0_9,p0_10,p0_11,p0_12,p1_0,p1_1,p1_2,p1_3,p1_4,p1_5,p1_6,p1_7,p1_8,p1_9,p1_10,p1_11,p1_12,_)=>
  (bif (p0_0==p1_0) then
  (R07_SameTable.F (p0_1,p0_2,p0_3,p1_1,p1_2,p1_3,())).bind fun y1=>
  (bif y1.1 then
  (R07_SameView.F (p0_4,p0_5,p0_6,p0_7,p0_8,p0_9,p0_10,p0_11,p0_12,p1_4,p1_5,p1_6,p1_7,p1_8,p1_9,p1_10,p1_11,p1_12,())).bind fun y2=>
  some (y2.1,())
  else
  some (false,()))
  else
  some (false,()))
noncomputable def R07_Same.F:=stk R07_Same.B
theorem R07_Same.eq:R07_Same.F=R07_Same.B:=stk_eq _
theorem R07_Same.k:Kk R07_SameView.s [] [] Tryz.f32 R07_Same.d R07_Same.B:={}
noncomputable def R07_Same.s:SpL:=R07_Same.d.e [] R07_Same.F::R07_SameView.s
theorem R07_Same.c:Ck R07_Same.s []:=cS R07_SameView.c R07_Same.k
/-! levee/leveeref07.Print -/
def R07_Print.d:Fe:=⟨19,1,⟨[(0,.v true [.int .i64,.str,.sl 43 tColumn,.sl 63 (.sl 77 tNode),.str,.str,.str,.int .i64,.int .i64,.sl 77 tNode,.sl 3 (.int .i64),.bool,.sl 103 tAgg])],[],[],0,[]⟩,⟨[(0,.v false [.str])],[],[],1000,[]⟩,(.s none .n (.s none .n (.s (some ⟨[(3,.v false [.str])],[],[1],0,[]⟩) .n .n)))⟩
noncomputable def R07_Print.B:Int×ByteArray×(List tColumnT)×(List (List tNodeT))×ByteArray×ByteArray×ByteArray×Int×Int×(List tNodeT)×(List Int)×Bool×(List tAggT)×Unit→Option (ByteArray×Unit):=fun (p0_0,p0_1,p0_2,p0_3,p0_4,p0_5,p0_6,p0_7,p0_8,p0_9,p0_10,p0_11,p0_12,_)=>
  (R07_viewText.F (p0_4,p0_5,p0_6,p0_7,p0_8,p0_9,p0_10,p0_11,p0_12,())).bind fun y1=>
  jn (S:=ByteArray×Unit) (
  (bif (p0_0==(0:Int)) then
  (R07_tableText.F (p0_1,p0_2,p0_3,())).bind fun y2=>
  il (y2.1,())
  else
  il (y1.1,()))) fun (x3_3,_)=>
  (bif (decide ((x3_3.size:Int)>(20000:Int))) then
  some ((⟨#[]⟩:ByteArray),())
  else
  (R07_Parse.F (x3_3,())).bind fun y4=>
  (bif (y4.2.2.2.2.2.2.2.2.1 !=(0:Int)) then
  some ((⟨#[]⟩:ByteArray),())
  else
  (R07_Same.F (p0_0,p0_1,p0_2,p0_3,p0_4,p0_5,p0_6,p0_7,p0_8,p0_9,p0_10,p0_11,p0_12,y4.1,y4.2.1,y4.2.2.2.2.2.2.2.2.2.1,y4.2.2.2.2.2.2.2.2.2.2.1,y4.2.2.1,y4.2.2.2.1,y4.2.2.2.2.1,y4.2.2.2.2.2.1,y4.2.2.2.2.2.2.1,y4.2.2.2.2.2.2.2.2.2.2.2.1,y4.2.2.2.2.2.2.2.2.2.2.2.2.1,y4.2.2.2.2.2.2.2.1,y4.2.2.2.2.2.2.2.2.2.2.2.2.2.1,())).bind fun y5=>
  (bif (!y5.1) then
  some ((⟨#[]⟩:ByteArray),())
  else
  some (x3_3,()))))
noncomputable def R07_Print.F:=stk R07_Print.B
theorem R07_Print.eq:R07_Print.F=R07_Print.B:=stk_eq _
theorem R07_Print.k:Kk R07_Same.s [] [] Tryz.f19 R07_Print.d R07_Print.B:={}
noncomputable def R07_Print.s:SpL:=R07_Print.d.e [] R07_Print.F::R07_Same.s
theorem R07_Print.c:Ck R07_Print.s []:=cS R07_Same.c R07_Print.k
/-! levee/leveeref09.Big -/
def R09_Big.d:Fe:=⟨6,1,⟨[(0,.v false [.sl 69 tDef])],[],[],0,[]⟩,⟨[(0,.v false [.bool])],[],[],1000,[]⟩,(.s none .n (.s none .n (.s (some ⟨[(3,.v false [.int .i64])],[],[0],0,[]⟩) (.s none .n (.b (.l ⟨[(3,.v false [.int .i64]),(4,.v false [.int .i64])],[],[0],0,[]⟩ (.s none .n (.s none (.b (.s (some ⟨[],[],[0,3,4],0,[]⟩) .n .n)) .n))))) (.s none .n (.s (some ⟨[(5,.v false [.int .i64])],[],[0,3],0,[]⟩) (.s none .n (.b (.l ⟨[(5,.v false [.int .i64]),(6,.v false [.int .i64])],[],[0,3],0,[]⟩ .n))) .n)))))⟩
noncomputable def R09_Big.B:(List tDefT)×Unit→Option (Bool×Unit):=fun (p0,_)=>
  jn (S:=Int×Unit) (
  loopM (S:=Int×Int×Unit) (fun (x3,x4,_)=>
  (bif (decide (x4<(p0.length:Int))) then
  jn (S:=Unit) (
  ck (ib x4 p0.length)<|
  let e1:tDefT:=(gt p0 x4 tDef.z)
  (R07_Big.F (e1.1,e1.2.1.1,e1.2.1.2.1,e1.2.1.2.2,e1.2.2.1,e1.2.2.2.1,e1.2.2.2.2.1,e1.2.2.2.2.2.1.1,e1.2.2.2.2.2.1.2,e1.2.2.2.2.2.2.1,e1.2.2.2.2.2.2.2.1,e1.2.2.2.2.2.2.2.2.1,e1.2.2.2.2.2.2.2.2.2,())).bind fun y2=>
  (bif y2.1 then
  ir (.inr (.inr (true,())))
  else
  ck (ib x4 p0.length)<|
  let e3:tDefT:=(gt p0 x4 tDef.z)
  (R07_Print.F (e3.1,e3.2.1.1,e3.2.1.2.1,e3.2.1.2.2,e3.2.2.1,e3.2.2.2.1,e3.2.2.2.2.1,e3.2.2.2.2.2.1.1,e3.2.2.2.2.2.1.2,e3.2.2.2.2.2.2.1,e3.2.2.2.2.2.2.2.1,e3.2.2.2.2.2.2.2.2.1,e3.2.2.2.2.2.2.2.2.2,())).bind fun y4=>
  (bif (decide ((y4.1.size:Int)>(2000:Int))) then
  ir (.inr (.inr (true,())))
  else
  il (())))) fun (_)=>
  ck (ib x4 p0.length)<|
  let e6:tDefT:=(gt p0 x4 tDef.z)
  ck (ib x4 p0.length)<|
  let e7:tDefT:=(gt p0 x4 tDef.z)
  let e8:Int:=(wr ((e6.2.1.2.1.length:Int)+(e7.2.2.2.2.2.2.2.1.length:Int)))
  let e9:Int:=(wr (x3+e8))
  let e10:Int:=(wr (x4+(1:Int)))
  il (e9,e10,())
  else
  ir (.inl (x3,())))) ((0:Int),(0:Int),())) fun (x3_11,_)=>
  jn (S:=Int×Unit) (
  loopM (S:=Int×Int×Unit) (fun (x5,x6,_)=>
  (bif (decide (x6<(p0.length:Int))) then
  ck (ib x6 p0.length)<|
  let e12:tDefT:=(gt p0 x6 tDef.z)
  (bif (!sq e12.2.2.2.2.1 (⟨#[]⟩:ByteArray)) then
  let e13:Int:=(wr (x5+(1:Int)))
  let e14:Int:=(wr (x6+(1:Int)))
  il (e13,e14,())
  else
  let e15:Int:=(wr (x6+(1:Int)))
  il (x5,e15,()))
  else
  ir (.inl (x5,())))) ((0:Int),(0:Int),())) fun (x5_16,_)=>
  (bif (decide ((p0.length:Int)>(22:Int))) then
  some (true,())
  else
  (bif (decide (x3_11>(200:Int))) then
  some (true,())
  else
  some ((decide (x5_16>(6:Int))),())))
noncomputable def R09_Big.F:=stk R09_Big.B
theorem R09_Big.eq:R09_Big.F=R09_Big.B:=stk_eq _
theorem R09_Big.k:Kk R07_Print.s [] [] Tryz.f6 R09_Big.d R09_Big.B:={}
noncomputable def R09_Big.s:SpL:=R09_Big.d.e [] R09_Big.F::R07_Print.s
theorem R09_Big.c:Ck R09_Big.s []:=cS R07_Print.c R09_Big.k
/-! levee/leveeref02.Short -/
def R02_Short.d:Fe:=⟨59,1,⟨[(0,.v false [.sl 45 tValue])],[],[],0,[]⟩,⟨[(0,.v false [.bool])],[],[],1000,[]⟩,(.s none .n (.s (some ⟨[],[],[0],0,[]⟩) (.s none .n (.b (.l ⟨[(3,.v false [.int .i64])],[],[0],0,[]⟩ .n))) .n))⟩
noncomputable def R02_Short.B:(List tValueT)×Unit→Option (Bool×Unit):=fun (p0,_)=>
  jn (S:=Unit) (
  loopM (S:=Int×Unit) (fun (x3,_)=>
  (bif (decide (x3<(p0.length:Int))) then
  ck (ib x3 p0.length)<|
  let e1:tValueT:=(gt p0 x3 tValue.z)
  (bif (decide ((e1.2.2.size:Int)>(1000:Int))) then
  ir (.inr (false,()))
  else
  let e2:Int:=(wr (x3+(1:Int)))
  il (e2,()))
  else
  ir (.inl (())))) ((0:Int),())) fun (_)=>
  some ((decide ((p0.length:Int)≤(40:Int))),())
noncomputable def R02_Short.F:=stk R02_Short.B
theorem R02_Short.eq:R02_Short.F=R02_Short.B:=stk_eq _
theorem R02_Short.k:Kk R09_Big.s [] [] Tryz.f59 R02_Short.d R02_Short.B:={}
noncomputable def R02_Short.s:SpL:=R02_Short.d.e [] R02_Short.F::R09_Big.s
theorem R02_Short.c:Ck R02_Short.s []:=cS R09_Big.c R02_Short.k
/-! levee/leveeref05.Small -/
def R05_Small.d:Fe:=⟨33,1,⟨[(0,.v false [.sl 49 tCount])],[],[],0,[]⟩,⟨[(0,.v false [.bool])],[],[],1000,[]⟩,(.s none .n (.s (some ⟨[],[],[0],0,[]⟩) (.s none .n (.b (.l ⟨[(3,.v false [.int .i64])],[],[0],0,[]⟩ .n))) .n))⟩
noncomputable def R05_Small.B:(List tCountT)×Unit→Option (Bool×Unit):=fun (p0,_)=>
  jn (S:=Unit) (
  loopM (S:=Int×Unit) (fun (x3,_)=>
  (bif (decide (x3<(p0.length:Int))) then
  ck (ib x3 p0.length)<|
  let e1:tCountT:=(gt p0 x3 tCount.z)
  (R02_Short.F (e1.1,())).bind fun y2=>
  (bif (!y2.1) then
  ir (.inr (false,()))
  else
  let e3:Int:=(wr (x3+(1:Int)))
  il (e3,()))
  else
  ir (.inl (())))) ((0:Int),())) fun (_)=>
  some ((decide ((p0.length:Int)≤(60:Int))),())
noncomputable def R05_Small.F:=stk R05_Small.B
theorem R05_Small.eq:R05_Small.F=R05_Small.B:=stk_eq _
theorem R05_Small.k:Kk R02_Short.s [] [] Tryz.f33 R05_Small.d R05_Small.B:={}
noncomputable def R05_Small.s:SpL:=R05_Small.d.e [] R05_Small.F::R02_Short.s
theorem R05_Small.c:Ck R05_Small.s []:=cS R02_Short.c R05_Small.k
/-! levee/leveeref10.Low -/
def R10_Low.d:Fe:=⟨20,1,⟨[(0,.v false [.sl 49 tCount])],[],[],0,[]⟩,⟨[(0,.v false [.bool])],[],[],1000,[]⟩,(.s none .n (.s (some ⟨[],[],[0],0,[]⟩) (.s none .n (.b (.l ⟨[(3,.v false [.int .i64])],[],[0],0,[]⟩ .n))) .n))⟩
noncomputable def R10_Low.B:(List tCountT)×Unit→Option (Bool×Unit):=fun (p0,_)=>
  jn (S:=Unit) (
  loopM (S:=Int×Unit) (fun (x3,_)=>
  (bif (decide (x3<(p0.length:Int))) then
  ck (ib x3 p0.length)<|
  let e1:tCountT:=(gt p0 x3 tCount.z)
  (bif (decide (e1.2>(1000:Int))) then
  ir (.inr (false,()))
  else
  ck (ib x3 p0.length)<|
  let e2:tCountT:=(gt p0 x3 tCount.z)
  (bif (decide (e2.2<(-1000:Int))) then
  ir (.inr (false,()))
  else
  let e3:Int:=(wr (x3+(1:Int)))
  il (e3,())))
  else
  ir (.inl (())))) ((0:Int),())) fun (_)=>
  (R05_Small.F (p0,())).bind fun y5=>
  some (y5.1,())
noncomputable def R10_Low.F:=stk R10_Low.B
theorem R10_Low.eq:R10_Low.F=R10_Low.B:=stk_eq _
theorem R10_Low.k:Kk R05_Small.s [] [] Tryz.f20 R10_Low.d R10_Low.B:={}
noncomputable def R10_Low.s:SpL:=R10_Low.d.e [] R10_Low.F::R05_Small.s
theorem R10_Low.c:Ck R10_Low.s []:=cS R05_Small.c R10_Low.k
/-! levee/leveeref12.Small -/
def R12_Small.d:Fe:=⟨7,1,⟨[(0,.v false [.sl 72 tSource])],[],[],0,[]⟩,⟨[(0,.v false [.bool])],[],[],1000,[]⟩,(.s none .n (.s (some ⟨[],[],[0],0,[]⟩) (.s none .n (.b (.l ⟨[(3,.v false [.int .i64])],[],[0],0,[]⟩ .n))) .n))⟩
noncomputable def R12_Small.B:(List tSourceT)×Unit→Option (Bool×Unit):=fun (p0,_)=>
  jn (S:=Unit) (
  loopM (S:=Int×Unit) (fun (x3,_)=>
  (bif (decide (x3<(p0.length:Int))) then
  ck (ib x3 p0.length)<|
  let e1:tSourceT:=(gt p0 x3 tSource.z)
  (bif (decide ((e1.2.length:Int)>(12:Int))) then
  ir (.inr (false,()))
  else
  ck (ib x3 p0.length)<|
  let e2:tSourceT:=(gt p0 x3 tSource.z)
  (R10_Low.F (e2.2,())).bind fun y3=>
  (bif (!y3.1) then
  ir (.inr (false,()))
  else
  let e4:Int:=(wr (x3+(1:Int)))
  il (e4,())))
  else
  ir (.inl (())))) ((0:Int),())) fun (_)=>
  some ((decide ((p0.length:Int)≤(6:Int))),())
noncomputable def R12_Small.F:=stk R12_Small.B
theorem R12_Small.eq:R12_Small.F=R12_Small.B:=stk_eq _
theorem R12_Small.k:Kk R10_Low.s [] [] Tryz.f7 R12_Small.d R12_Small.B:={}
noncomputable def R12_Small.s:SpL:=R12_Small.d.e [] R12_Small.F::R10_Low.s
theorem R12_Small.c:Ck R12_Small.s []:=cS R10_Low.c R12_Small.k
/-! levee/leveeref09.Name -/
def R09_Name.d:Fe:=⟨61,1,⟨[(0,.v true [.int .i64,.str,.sl 43 tColumn,.sl 63 (.sl 77 tNode),.str,.str,.str,.int .i64,.int .i64,.sl 77 tNode,.sl 3 (.int .i64),.bool,.sl 103 tAgg])],[],[],0,[]⟩,⟨[(0,.v false [.str])],[],[],1000,[]⟩,.n⟩
noncomputable def R09_Name.B:Int×ByteArray×(List tColumnT)×(List (List tNodeT))×ByteArray×ByteArray×ByteArray×Int×Int×(List tNodeT)×(List Int)×Bool×(List tAggT)×Unit→Option (ByteArray×Unit):=fun (p0_0,p0_1,p0_2,p0_3,p0_4,p0_5,p0_6,p0_7,p0_8,p0_9,p0_10,p0_11,p0_12,_)=>
  (bif (p0_0==(0:Int)) then
  some (p0_1,())
  else
  some (p0_4,()))
noncomputable def R09_Name.F:=stk R09_Name.B
theorem R09_Name.eq:R09_Name.F=R09_Name.B:=stk_eq _
theorem R09_Name.k:Kk R12_Small.s [] [] Tryz.f61 R09_Name.d R09_Name.B:={}
noncomputable def R09_Name.s:SpL:=R09_Name.d.e [] R09_Name.F::R12_Small.s
theorem R09_Name.c:Ck R09_Name.s []:=cS R12_Small.c R09_Name.k
/-! levee/leveeref09.Find -/
def R09_Find.d:Fe:=⟨60,2,⟨[(0,.v false [.sl 69 tDef]),(1,.v false [.str])],[],[],0,[]⟩,⟨[(0,.v false [.int .i64])],[],[],1000,[]⟩,(.s none .n (.s none (.s none .n (.b (.l ⟨[(5,.v false [.int .i64])],[],[0,1],0,[]⟩ .n))) .n))⟩
noncomputable def R09_Find.B:(List tDefT)×ByteArray×Unit→Option (Int×Unit):=fun (p0,p1,_)=>
  loopM (S:=Int×Unit) (fun (x5,_)=>
  (bif (decide (x5<(p0.length:Int))) then
  ck (ib x5 p0.length)<|
  let e1:tDefT:=(gt p0 x5 tDef.z)
  (R09_Name.F (e1.1,e1.2.1.1,e1.2.1.2.1,e1.2.1.2.2,e1.2.2.1,e1.2.2.2.1,e1.2.2.2.2.1,e1.2.2.2.2.2.1.1,e1.2.2.2.2.2.1.2,e1.2.2.2.2.2.2.1,e1.2.2.2.2.2.2.2.1,e1.2.2.2.2.2.2.2.2.1,e1.2.2.2.2.2.2.2.2.2,())).bind fun y2=>
  (bif (sq y2.1 p1) then
  ir (x5,())
  else
  let e3:Int:=(wr (x5+(1:Int)))
  il (e3,()))
  else
  ir ((-1:Int),()))) ((0:Int),())
noncomputable def R09_Find.F:=stk R09_Find.B
theorem R09_Find.eq:R09_Find.F=R09_Find.B:=stk_eq _
theorem R09_Find.k:Kk R09_Name.s [] [] Tryz.f60 R09_Find.d R09_Find.B:={}
noncomputable def R09_Find.s:SpL:=R09_Find.d.e [] R09_Find.F::R09_Name.s
theorem R09_Find.c:Ck R09_Find.s []:=cS R09_Name.c R09_Find.k
/-! levee/leveeref09.tableKinds -/
def R09_tableKinds.d:Fe:=⟨65,1,⟨[(0,.v true [.str,.sl 43 tColumn,.sl 63 (.sl 77 tNode)])],[],[],0,[]⟩,⟨[(0,.tup [(false,[.ref 1000]),(false,[.ref 1001])])],[(1000,false,.arr 3 (.int .i64)),(1001,false,.arr 4 .bool)],[],1002,[]⟩,(.s none .n (.s none .n (.s none (.s none .n (.b (.l ⟨[(4,.v false [.ref 0]),(5,.v false [.ref 1]),(6,.v false [.int .i64])],[(0,false,.arr 3 (.int .i64)),(1,false,.arr 4 .bool)],[1],2,[]⟩ .n))) .n)))⟩
noncomputable def R09_tableKinds.B:ByteArray×(List tColumnT)×(List (List tNodeT))×Unit→Option ((List Int)×(List Bool)×Unit):=fun (p0_0,p0_1,p0_2,_)=>
  loopM (S:=Int×(List Int)×(List Bool)×Unit) (fun (x6,o4_0,o5_0,_)=>
  (bif (decide (x6<(p0_1.length:Int))) then
  ck (ib x6 p0_1.length)<|
  let e1:tColumnT:=(gt p0_1 x6 tColumn.z)
  ck (Nat.ble (o4_0.length+ [e1.2.1].length) 17592186044416)<|
  ck (ib x6 p0_1.length)<|
  let e2:tColumnT:=(gt p0_1 x6 tColumn.z)
  ck (Nat.ble (o5_0.length+ [e2.2.2.1].length) 140737488355328)<|
  let e3:Int:=(wr (x6+(1:Int)))
  il (e3,(o4_0++ [e1.2.1]),(o5_0++ [e2.2.2.1]),())
  else
  ir (o4_0,o5_0,()))) ((0:Int),([]:List Int),([]:List Bool),())
noncomputable def R09_tableKinds.F:=stk R09_tableKinds.B
theorem R09_tableKinds.eq:R09_tableKinds.F=R09_tableKinds.B:=stk_eq _
theorem R09_tableKinds.k:Kk R09_Find.s [] [] Tryz.f65 R09_tableKinds.d R09_tableKinds.B:={}
noncomputable def R09_tableKinds.s:SpL:=R09_tableKinds.d.e [] R09_tableKinds.F::R09_Find.s
theorem R09_tableKinds.c:Ck R09_tableKinds.s []:=cS R09_Find.c R09_tableKinds.k
/-! levee/leveeref09.Joined -/
def R09_Joined.d:Fe:=⟨96,2,⟨[(0,.v false [.sl 69 tDef]),(1,.v true [.str,.str,.str,.int .i64,.int .i64,.sl 77 tNode,.sl 3 (.int .i64),.bool,.sl 103 tAgg])],[],[],0,[]⟩,⟨[(0,.v false [.ref 1000])],[(1000,false,.arr 3 (.int .i64))],[],1001,[]⟩,.n⟩
/-! levee/leveeref09.Of -/
def R09_Of.d:Fe:=⟨97,2,⟨[(0,.v false [.sl 69 tDef]),(1,.v true [.int .i64,.str,.sl 43 tColumn,.sl 63 (.sl 77 tNode),.str,.str,.str,.int .i64,.int .i64,.sl 77 tNode,.sl 3 (.int .i64),.bool,.sl 103 tAgg])],[],[],0,[]⟩,⟨[(0,.tup [(false,[.ref 1000]),(false,[.ref 1001])])],[(1000,false,.arr 3 (.int .i64)),(1001,false,.arr 4 .bool)],[],1002,[]⟩,(.s none .n (.s none .n (.s none .n (.s none .n (.s (some ⟨[(7,.v false [.ref 0]),(8,.v false [.ref 1])],[(0,false,.arr 3 (.int .i64)),(1,false,.arr 4 .bool)],[3,6],2,[]⟩) (.s none .n (.b (.l ⟨[(7,.v false [.ref 0]),(8,.v false [.ref 1]),(9,.v false [.int .i64])],[(0,false,.arr 3 (.int .i64)),(1,false,.arr 4 .bool)],[3,6],2,[]⟩ .n))) (.s none (.s none .n (.b (.l ⟨[(7,.v false [.ref 0]),(8,.v false [.ref 1]),(10,.v false [.int .i64])],[(0,false,.arr 3 (.int .i64)),(1,false,.arr 4 .bool)],[3,6],2,[]⟩ .n))) .n))))))⟩
noncomputable def R09_Of.b (f:TS R09_Joined.d.si→Option (TS R09_Joined.d.so)):(List tDefT)×Int×ByteArray×(List tColumnT)×(List (List tNodeT))×ByteArray×ByteArray×ByteArray×Int×Int×(List tNodeT)×(List Int)×Bool×(List tAggT)×Unit→Option ((List Int)×(List Bool)×Unit):=fun (p0,p1_0,p1_1,p1_2,p1_3,p1_4,p1_5,p1_6,p1_7,p1_8,p1_9,p1_10,p1_11,p1_12,_)=>
  (bif (p1_0==(0:Int)) then
  (R09_tableKinds.F (p1_1,p1_2,p1_3,())).bind fun y1=>
  some (y1.1,y1.2.1,())
  else
  (f (p0,p1_4,p1_5,p1_6,p1_7,p1_8,p1_9,p1_10,p1_11,p1_12,())).bind fun y2=>
  jn (S:=(List Int)×(List Bool)×Unit) (
  loopM (S:=Int×(List Int)×(List Bool)×Unit) (fun (x9,o7_0,o8_0,_)=>
  (bif (decide (x9<(p1_10.length:Int))) then
  ck (ib x9 p1_10.length)<|
  let e3:Int:=(gt p1_10 x9 (0:Int))
  ck (ib e3 y2.1.length)<|
  let e4:Int:=(List.getD y2.1 (Int.toNat e3) (0:Int))
  ck (Nat.ble (o7_0.length+ [e4].length) 17592186044416)<|
  ck (Nat.ble (o8_0.length+ [true].length) 140737488355328)<|
  let e5:Int:=(wr (x9+(1:Int)))
  il (e5,(o7_0++ [e4]),(o8_0++ [true]),())
  else
  ir (.inl (o7_0,o8_0,())))) ((0:Int),([]:List Int),([]:List Bool),())) fun (o7_0_6,o8_0_6,_)=>
  loopM (S:=Int×(List Int)×(List Bool)×Unit) (fun (x10,o7_0,o8_0,_)=>
  (bif (decide (x10<(p1_12.length:Int))) then
  ck (ib x10 p1_12.length)<|
  let e7:tAggT:=(gt p1_12 x10 tAgg.z)
  (bif (decide (e7.1≥(2:Int))) then
  ck (ib e7.2 y2.1.length)<|
  let e8:Int:=(List.getD y2.1 (Int.toNat e7.2) (0:Int))
  ck (Nat.ble (o7_0.length+ [e8].length) 17592186044416)<|
  ck (Nat.ble (o8_0.length+ [true].length) 140737488355328)<|
  let e9:Int:=(wr (x10+(1:Int)))
  il (e9,(o7_0++ [e8]),(o8_0++ [true]),())
  else
  ck (Nat.ble (o7_0.length+ [(2:Int)].length) 17592186044416)<|
  ck (Nat.ble (o8_0.length+ [true].length) 140737488355328)<|
  let e10:Int:=(wr (x10+(1:Int)))
  il (e10,(o7_0++ [(2:Int)]),(o8_0++ [true]),()))
  else
  ir (o7_0,o8_0,()))) ((0:Int),o7_0_6,o8_0_6,()))
theorem R09_Of.k (f:TS R09_Joined.d.si→Option (TS R09_Joined.d.so)):Fk PP (cx (R09_Joined.d.e [] f::R09_tableKinds.s) []) [] Tryz.f97 R09_Of.d (R09_Of.b f):={}
theorem R09_Of.en:Lv.Enters PP 97:=⟨_,Tryz.func97,by kernel_rfl,by decide⟩
noncomputable def R09_Joined.b (f:TS R09_Of.d.si→Option (TS R09_Of.d.so)):(List tDefT)×ByteArray×ByteArray×ByteArray×Int×Int×(List tNodeT)×(List Int)×Bool×(List tAggT)×Unit→Option ((List Int)×Unit):=fun (p0,p1_0,p1_1,p1_2,p1_3,p1_4,p1_5,p1_6,p1_7,p1_8,_)=>
  (R09_Find.F (p0,p1_1,())).bind fun y1=>
  ck (ib y1.1 p0.length)<|
  let e2:tDefT:=(gt p0 y1.1 tDef.z)
  (f (p0,e2.1,e2.2.1.1,e2.2.1.2.1,e2.2.1.2.2,e2.2.2.1,e2.2.2.2.1,e2.2.2.2.2.1,e2.2.2.2.2.2.1.1,e2.2.2.2.2.2.1.2,e2.2.2.2.2.2.2.1,e2.2.2.2.2.2.2.2.1,e2.2.2.2.2.2.2.2.2.1,e2.2.2.2.2.2.2.2.2.2,())).bind fun y3=>
  (bif (sq p1_2 (⟨#[]⟩:ByteArray)) then
  some (y3.1,())
  else
  (R09_Find.F (p0,p1_2,())).bind fun y4=>
  ck (ib y4.1 p0.length)<|
  let e5:tDefT:=(gt p0 y4.1 tDef.z)
  (f (p0,e5.1,e5.2.1.1,e5.2.1.2.1,e5.2.1.2.2,e5.2.2.1,e5.2.2.2.1,e5.2.2.2.2.1,e5.2.2.2.2.2.1.1,e5.2.2.2.2.2.1.2,e5.2.2.2.2.2.2.1,e5.2.2.2.2.2.2.2.1,e5.2.2.2.2.2.2.2.2.1,e5.2.2.2.2.2.2.2.2.2,())).bind fun y6=>
  ck (Nat.ble (([]:List Int).length+y3.1.length) 17592186044416)<|
  ck (Nat.ble ((([]:List Int)++y3.1).length+y6.1.length) 17592186044416)<|
  some (((([]:List Int)++y3.1)++y6.1),()))
theorem R09_Joined.k (f:TS R09_Of.d.si→Option (TS R09_Of.d.so)):Fk PP (cx (R09_Of.d.e [] f::R09_tableKinds.s) []) [] Tryz.f96 R09_Joined.d (R09_Joined.b f):={}
theorem R09_Joined.en:Lv.Enters PP 96:=⟨_,Tryz.func96,by kernel_rfl,by decide⟩
theorem R09_Of.step (f:TS R09_Joined.d.si→Option (TS R09_Joined.d.so)) (hf:R09_Joined.d.ok PP f):R09_Of.d.ok PP (R09_Of.b f):=(R09_Of.k f).okF (CxOk.consS R09_tableKinds.c [] R09_Joined.en hf) mixed
theorem R09_Joined.step (f:TS R09_Of.d.si→Option (TS R09_Of.d.so)) (hf:R09_Of.d.ok PP f):R09_Joined.d.ok PP (R09_Joined.b f):=(R09_Joined.k f).okF (CxOk.consS R09_tableKinds.c [] R09_Of.en hf) mixed
noncomputable def R09_Of.r:Nat→TS R09_Of.d.si→Option (TS R09_Of.d.so)
  |0=>fun _=>none
  |n+1=>R09_Of.b (R09_Joined.b (R09_Of.r n))
theorem R09_Of.r_ok:∀n,R09_Of.d.ok PP (R09_Of.r n)
  |0=>fun _ _ h=>by cases h
  |n+1=>R09_Of.step _ (R09_Joined.step _ (R09_Of.r_ok n))
noncomputable def R09_Of.F:TS R09_Of.d.si→Option (TS R09_Of.d.so):=stk (R09_Of.r 64)
theorem R09_Of.eq:R09_Of.F=R09_Of.r 64:=stk_eq _
theorem R09_Of.ok:R09_Of.d.ok PP R09_Of.F:=by
  rw [R09_Of.eq]
  exact R09_Of.r_ok 64
noncomputable def R09_Of.s:SpL:=R09_Of.d.e [] R09_Of.F::R09_tableKinds.s
theorem R09_Of.c:Ck R09_Of.s []:=CxOk.consS R09_tableKinds.c [] R09_Of.en R09_Of.ok
noncomputable def R09_Joined.F:TS R09_Joined.d.si→Option (TS R09_Joined.d.so):=stk (R09_Joined.b (R09_Of.r 64))
theorem R09_Joined.eq:R09_Joined.F=R09_Joined.b (R09_Of.r 64):=stk_eq _
theorem R09_Joined.ok:R09_Joined.d.ok PP R09_Joined.F:=by
  rw [R09_Joined.eq]
  exact R09_Joined.step _ (R09_Of.r_ok 64)
noncomputable def R09_Joined.s:SpL:=R09_Joined.d.e [] R09_Joined.F::R09_Of.s
theorem R09_Joined.c:Ck R09_Joined.s []:=CxOk.consS R09_Of.c [] R09_Joined.en R09_Joined.ok
/-! levee/leveeref03.Takes -/
def R03_Takes.d:Fe:=⟨116,1,⟨[(0,.v false [.int .i64])],[],[],0,[]⟩,⟨[(0,.v false [.int .i64])],[],[],1000,[]⟩,(.s none .n (.s (some ⟨[],[],[0],0,[]⟩) .n .n))⟩
noncomputable def R03_Takes.B:Int×Unit→Option (Int×Unit):=fun (p0,_)=>
  jn (S:=Unit) (
  (bif (p0==(0:Int)) then
  ir ((0:Int),())
  else
  (bif (p0==(1:Int)) then
  ir ((0:Int),())
  else
  il (())))) fun (_)=>
  (bif (p0==(9:Int)) then
  some ((1:Int),())
  else
  (bif (p0==(10:Int)) then
  some ((1:Int),())
  else
  (bif (decide (p0≥(2:Int))) then
  (bif (decide (p0≤(8:Int))) then
  some ((2:Int),())
  else
  some ((-1:Int),()))
  else
  some ((-1:Int),()))))
noncomputable def R03_Takes.F:=stk R03_Takes.B
theorem R03_Takes.eq:R03_Takes.F=R03_Takes.B:=stk_eq _
theorem R03_Takes.k:Kk R09_Joined.s [] [] Tryz.f116 R03_Takes.d R03_Takes.B:={}
noncomputable def R03_Takes.s:SpL:=R03_Takes.d.e [] R03_Takes.F::R09_Joined.s
theorem R03_Takes.c:Ck R03_Takes.s []:=cS R09_Joined.c R03_Takes.k
/-! levee/leveeref03.Leaves -/
def R03_Leaves.d:Fe:=⟨117,3,⟨[(0,.v false [.int .i64]),(1,.v false [.int .i64]),(2,.v false [.int .i64])],[],[],0,[]⟩,⟨[(0,.tup [(false,[.int .i64]),(false,[.bool])])],[],[],1000,[]⟩,(.s none .n (.s none (.s (some ⟨[(17,.v false [.bool])],[],[0,1,2],0,[]⟩) .n .n) (.s (some ⟨[],[],[0,1,2],0,[]⟩) .n .n)))⟩
noncomputable def R03_Leaves.B:Int×Int×Int×Unit→Option (Int×Bool×Unit):=fun (p0,p1,p2,_)=>
  jn (S:=Bool×Unit) (
  (bif (p0==(2:Int)) then
  il (true,())
  else
  (bif (p0==(3:Int)) then
  il (true,())
  else
  il ((p0==(4:Int)),())))) fun (x17_1,_)=>
  (bif x17_1 then
  (bif (p1==(2:Int)) then
  (bif (p2==(2:Int)) then
  some ((2:Int),true,())
  else
  some ((2:Int),(p2==(0:Int)),()))
  else
  (bif (p1==(0:Int)) then
  (bif (p2==(2:Int)) then
  some ((2:Int),true,())
  else
  some ((2:Int),(p2==(0:Int)),()))
  else
  some ((2:Int),false,())))
  else
  jn (S:=Unit) (
  (bif (p0==(5:Int)) then
  (bif (p1==p2) then
  ir ((1:Int),true,())
  else
  (bif (p1==(0:Int)) then
  ir ((1:Int),true,())
  else
  ir ((1:Int),(p2==(0:Int)),())))
  else
  (bif (p0==(6:Int)) then
  (bif (p1==p2) then
  ir ((1:Int),true,())
  else
  (bif (p1==(0:Int)) then
  ir ((1:Int),true,())
  else
  ir ((1:Int),(p2==(0:Int)),())))
  else
  il (())))) fun (_)=>
  (bif (p0==(7:Int)) then
  (bif (p1==(1:Int)) then
  (bif (p2==(1:Int)) then
  some ((1:Int),true,())
  else
  some ((1:Int),(p2==(0:Int)),()))
  else
  (bif (p1==(0:Int)) then
  (bif (p2==(1:Int)) then
  some ((1:Int),true,())
  else
  some ((1:Int),(p2==(0:Int)),()))
  else
  some ((1:Int),false,())))
  else
  (bif (p0==(8:Int)) then
  (bif (p1==(1:Int)) then
  (bif (p2==(1:Int)) then
  some ((1:Int),true,())
  else
  some ((1:Int),(p2==(0:Int)),()))
  else
  (bif (p1==(0:Int)) then
  (bif (p2==(1:Int)) then
  some ((1:Int),true,())
  else
  some ((1:Int),(p2==(0:Int)),()))
  else
  some ((1:Int),false,())))
  else
  (bif (p0==(9:Int)) then
  (bif (p2==(1:Int)) then
  some ((1:Int),true,())
  else
  some ((1:Int),(p2==(0:Int)),()))
  else
  some ((1:Int),true,())))))
noncomputable def R03_Leaves.F:=stk R03_Leaves.B
theorem R03_Leaves.eq:R03_Leaves.F=R03_Leaves.B:=stk_eq _
theorem R03_Leaves.k:Kk R03_Takes.s [] [] Tryz.f117 R03_Leaves.d R03_Leaves.B:={}
noncomputable def R03_Leaves.s:SpL:=R03_Leaves.d.e [] R03_Leaves.F::R03_Takes.s
theorem R03_Leaves.c:Ck R03_Leaves.s []:=cS R03_Takes.c R03_Leaves.k
/-! levee/leveeref03.Type -/
def R03_Type.d:Fe:=⟨98,2,⟨[(0,.v false [.sl 77 tNode]),(1,.v false [.sl 3 (.int .i64)])],[],[],0,[]⟩,⟨[(0,.tup [(false,[.int .i64]),(false,[.int .i64])])],[],[],1000,[]⟩,(.s none .n (.s none .n (.s none .n (.s (some ⟨[(6,.v false [.ref 0])],[(0,false,.arr 3 (.int .i64))],[],1,[]⟩) (.s none .n (.b (.l ⟨[(6,.v false [.ref 0]),(7,.v false [.int .i64])],[(0,false,.arr 3 (.int .i64))],[0,1],1,[]⟩ (.s none .n (.s none (.b (.s none .n (.s none .n (.s (some ⟨[],[],[0,1,6,7,8,9],0,[]⟩) .n (.s none .n (.s (some ⟨[(11,.v false [.int .i64])],[],[0,1,6,7,8,9,10],0,[]⟩) .n (.s (some ⟨[(10,.v false [.int .i64])],[],[0,1,6,7,8,9,11],0,[]⟩) .n (.s none .n (.s none .n (.s (some ⟨[(12,.v false [.int .i64]),(13,.v false [.bool])],[],[0,1,6,7,8],0,[]⟩) .n .n)))))))))) .n))))) .n))))⟩
noncomputable def R03_Type.B:(List tNodeT)×(List Int)×Unit→Option (Int×Int×Unit):=fun (p0,p1,_)=>
  (bif (decide ((p0.length:Int)>(100:Int))) then
  some ((0:Int),(1:Int),())
  else
  jn (S:=(List Int)×Unit) (
  loopM (S:=Int×(List Int)×Unit) (fun (x7,o6_0,_)=>
  (bif (decide (x7<(p0.length:Int))) then
  ck (ib x7 p0.length)<|
  let e1:tNodeT:=(gt p0 x7 tNode.z)
  (R03_Takes.F (e1.1,())).bind fun y2=>
  jn (S:=Unit) (
  (bif (decide (y2.1<(0:Int))) then
  ir (.inr (.inr ((0:Int),(30:Int),())))
  else
  (bif (decide ((o6_0.length:Int)<y2.1)) then
  ir (.inr (.inr ((0:Int),(30:Int),())))
  else
  il (())))) fun (_)=>
  jn (S:=Int×Unit) (
  (bif (decide (y2.1>(0:Int))) then
  let e4:Int:=(wr ((o6_0.length:Int)-(1:Int)))
  ck (ib e4 o6_0.length)<|
  let e5:Int:=(List.getD o6_0 (Int.toNat e4) (0:Int))
  il (e5,())
  else
  il ((0:Int),()))) fun (x11_6,_)=>
  jn (S:=Int×Unit) (
  (bif (decide (y2.1>(1:Int))) then
  let e7:Int:=(wr ((o6_0.length:Int)-(2:Int)))
  ck (ib e7 o6_0.length)<|
  let e8:Int:=(List.getD o6_0 (Int.toNat e7) (0:Int))
  il (e8,())
  else
  il ((0:Int),()))) fun (x10_9,_)=>
  let e10:Int:=(wr ((o6_0.length:Int)-y2.1))
  ck (sb (0:Int) e10 o6_0.length)<|
  ck (Nat.ble (([]:List Int).length+(List.take (Int.toNat e10) o6_0).length) 17592186044416)<|
  (R03_Leaves.F (e1.1,x10_9,x11_6,())).bind fun y11=>
  jn (S:=Int×Bool×Unit) (
  (bif (e1.1==(0:Int)) then
  (bif (decide (e1.2.1≥(0:Int))) then
  (bif (decide (e1.2.1<(p1.length:Int))) then
  ck (ib e1.2.1 p1.length)<|
  let e12:Int:=(gt p1 e1.2.1 (0:Int))
  (bif (decide (e12≥(1:Int))) then
  il (e12,(decide (e12≤(3:Int))),())
  else
  il (e12,false,()))
  else
  il (y11.1,(decide (e1.2.1<(p1.length:Int))),()))
  else
  il (y11.1,false,()))
  else
  il (y11.1,y11.2.1,()))) fun (x12_13,x13_13,_)=>
  (bif (e1.1==(1:Int)) then
  (R01_May.F (e1.2.2.1,e1.2.2.2.1,e1.2.2.2.2,())).bind fun y14=>
  (bif (!y14.1) then
  ir (.inr ((0:Int),(30:Int),()))
  else
  ck (Nat.ble ((([]:List Int)++(List.take (Int.toNat e10) o6_0)).length+ [e1.2.2.1].length) 17592186044416)<|
  let e15:Int:=(wr (x7+(1:Int)))
  il (e15,((([]:List Int)++(List.take (Int.toNat e10) o6_0))++ [e1.2.2.1]),()))
  else
  (bif (!x13_13) then
  ir (.inr ((0:Int),(30:Int),()))
  else
  ck (Nat.ble ((([]:List Int)++(List.take (Int.toNat e10) o6_0)).length+ [x12_13].length) 17592186044416)<|
  let e16:Int:=(wr (x7+(1:Int)))
  il (e16,((([]:List Int)++(List.take (Int.toNat e10) o6_0))++ [x12_13]),())))
  else
  ir (.inl (o6_0,())))) ((0:Int),([]:List Int),())) fun (o6_0_17,_)=>
  (bif ((o6_0_17.length:Int) !=(1:Int)) then
  some ((0:Int),(30:Int),())
  else
  ck (ib (0:Int) o6_0_17.length)<|
  let e18:Int:=(List.getD o6_0_17 0 (0:Int))
  some (e18,(0:Int),())))
noncomputable def R03_Type.F:=stk R03_Type.B
theorem R03_Type.eq:R03_Type.F=R03_Type.B:=stk_eq _
theorem R03_Type.k:Kk R03_Leaves.s [] [] Tryz.f98 R03_Type.d R03_Type.B:={}
noncomputable def R03_Type.s:SpL:=R03_Type.d.e [] R03_Type.F::R03_Leaves.s
theorem R03_Type.c:Ck R03_Type.s []:=cS R03_Leaves.c R03_Type.k
/-! levee/leveeref09.truth -/
def R09_truth.d:Fe:=⟨66,2,⟨[(0,.v false [.sl 77 tNode]),(1,.v false [.sl 3 (.int .i64)])],[],[],0,[]⟩,⟨[(0,.v false [.bool])],[],[],1000,[]⟩,.n⟩
noncomputable def R09_truth.B:(List tNodeT)×(List Int)×Unit→Option (Bool×Unit):=fun (p0,p1,_)=>
  (R03_Type.F (p0,p1,())).bind fun y1=>
  (bif (y1.2.1==(0:Int)) then
  some ((decide (y1.1<(2:Int))),())
  else
  some (false,()))
noncomputable def R09_truth.F:=stk R09_truth.B
theorem R09_truth.eq:R09_truth.F=R09_truth.B:=stk_eq _
theorem R09_truth.k:Kk R03_Type.s [] [] Tryz.f66 R09_truth.d R09_truth.B:={}
noncomputable def R09_truth.s:SpL:=R09_truth.d.e [] R09_truth.F::R03_Type.s
theorem R09_truth.c:Ck R09_truth.s []:=cS R03_Type.c R09_truth.k
/-! levee/leveeref09.view -/
def R09_view.d:Fe:=⟨62,2,⟨[(0,.v false [.sl 69 tDef]),(1,.v true [.str,.str,.str,.int .i64,.int .i64,.sl 77 tNode,.sl 3 (.int .i64),.bool,.sl 103 tAgg])],[],[],0,[]⟩,⟨[(0,.v false [.bool])],[],[],1000,[]⟩,(.s none .n (.s (some ⟨[],[],[0,3],0,[]⟩) .n (.s none .n (.s none .n (.s (some ⟨[],[],[3,5],0,[]⟩) (.s none .n (.c (.s (some ⟨[],[],[3,5,6],0,[]⟩) .n .n) .n)) (.s (some ⟨[(5,.v false [.sl 3 (.int .i64)])],[],[3],0,[]⟩) .n (.s (some ⟨[],[],[3,5],0,[]⟩) (.s none .n (.b (.l ⟨[(8,.v false [.int .i64])],[],[3,5],0,[]⟩ .n))) (.s (some ⟨[],[],[3],0,[]⟩) (.s none .n (.b (.l ⟨[(9,.v false [.int .i64])],[],[3,5],0,[]⟩ .n))) .n))))))))⟩
noncomputable def R09_view.B:(List tDefT)×ByteArray×ByteArray×ByteArray×Int×Int×(List tNodeT)×(List Int)×Bool×(List tAggT)×Unit→Option (Bool×Unit):=fun (p0,p1_0,p1_1,p1_2,p1_3,p1_4,p1_5,p1_6,p1_7,p1_8,_)=>
  jn (S:=Unit) (
  (R09_Find.F (p0,p1_1,())).bind fun y1=>
  (bif (decide (y1.1<(0:Int))) then
  ir (true,())
  else
  (bif (!sq p1_2 (⟨#[]⟩:ByteArray)) then
  (R09_Find.F (p0,p1_2,())).bind fun y2=>
  (bif (decide (y2.1<(0:Int))) then
  ir (true,())
  else
  il (()))
  else
  il (())))) fun (_)=>
  (R09_Joined.F (p0,p1_0,p1_1,p1_2,p1_3,p1_4,p1_5,p1_6,p1_7,p1_8,())).bind fun y4=>
  (R09_Find.F (p0,p1_1,())).bind fun y5=>
  ck (ib y5.1 p0.length)<|
  let e6:tDefT:=(gt p0 y5.1 tDef.z)
  (R09_Of.F (p0,e6.1,e6.2.1.1,e6.2.1.2.1,e6.2.1.2.2,e6.2.2.1,e6.2.2.2.1,e6.2.2.2.2.1,e6.2.2.2.2.2.1.1,e6.2.2.2.2.2.1.2,e6.2.2.2.2.2.2.1,e6.2.2.2.2.2.2.2.1,e6.2.2.2.2.2.2.2.2.1,e6.2.2.2.2.2.2.2.2.2,())).bind fun y7=>
  jn (S:=Unit) (
  (bif (!sq p1_2 (⟨#[]⟩:ByteArray)) then
  jn (S:=Unit) (
  ck (ib (0:Int) 2)<|
  (bif (decide (p1_3≥(y7.1.length:Int))) then
  ir (.inr (true,()))
  else
  ck (ib (1:Int) 2)<|
  let e8:Int:=(wr ((y7.1.length:Int)+p1_4))
  (bif (decide (e8≥(y4.1.length:Int))) then
  ir (.inr (true,()))
  else
  il (())))) fun (_)=>
  ck (ib (0:Int) 2)<|
  ck (ib p1_3 y4.1.length)<|
  let e10:Int:=(List.getD y4.1 (Int.toNat p1_3) (0:Int))
  ck (ib (1:Int) 2)<|
  let e11:Int:=(wr ((y7.1.length:Int)+p1_4))
  ck (ib e11 y4.1.length)<|
  let e12:Int:=(List.getD y4.1 (Int.toNat e11) (0:Int))
  (bif (e10 !=e12) then
  ir (true,())
  else
  il (()))
  else
  il (()))) fun (_)=>
  jn (S:=(List Int)×Unit) (
  (bif (decide ((p1_5.length:Int)>(0:Int))) then
  (R09_truth.F (p1_5,y4.1,())).bind fun y14=>
  (bif (!y14.1) then
  ir (true,())
  else
  il (y4.1,()))
  else
  il (y4.1,()))) fun (x5_15,_)=>
  jn (S:=Unit) (
  loopM (S:=Int×Unit) (fun (x8,_)=>
  (bif (decide (x8<(p1_6.length:Int))) then
  ck (ib x8 p1_6.length)<|
  let e16:Int:=(gt p1_6 x8 (0:Int))
  (bif (decide (e16≥(x5_15.length:Int))) then
  ir (.inr (true,()))
  else
  let e17:Int:=(wr (x8+(1:Int)))
  il (e17,()))
  else
  ir (.inl (())))) ((0:Int),())) fun (_)=>
  jn (S:=Unit) (
  loopM (S:=Int×Unit) (fun (x9,_)=>
  (bif (decide (x9<(p1_8.length:Int))) then
  ck (ib x9 p1_8.length)<|
  let e19:tAggT:=(gt p1_8 x9 tAgg.z)
  (bif (e19.1==(0:Int)) then
  let e20:Int:=(wr (x9+(1:Int)))
  il (e20,())
  else
  (bif (decide (e19.2≥(x5_15.length:Int))) then
  ir (.inr (true,()))
  else
  (bif (e19.1==(1:Int)) then
  ck (ib e19.2 x5_15.length)<|
  let e21:Int:=(gt x5_15 e19.2 (0:Int))
  (bif (e21 !=(2:Int)) then
  ir (.inr (true,()))
  else
  let e22:Int:=(wr (x9+(1:Int)))
  il (e22,()))
  else
  let e23:Int:=(wr (x9+(1:Int)))
  il (e23,()))))
  else
  ir (.inl (())))) ((0:Int),())) fun (_)=>
  let e25:Int:=(wr ((p1_6.length:Int)+(p1_8.length:Int)))
  (bif (!p1_7) then
  (bif (decide ((p1_8.length:Int)>(0:Int))) then
  some (true,())
  else
  (bif (e25==(0:Int)) then
  some (true,())
  else
  some ((decide (e25>(40:Int))),())))
  else
  (bif (e25==(0:Int)) then
  some (true,())
  else
  some ((decide (e25>(40:Int))),())))
noncomputable def R09_view.F:=stk R09_view.B
theorem R09_view.eq:R09_view.F=R09_view.B:=stk_eq _
theorem R09_view.k:Kk R09_truth.s [] [] Tryz.f62 R09_view.d R09_view.B:={}
noncomputable def R09_view.s:SpL:=R09_view.d.e [] R09_view.F::R09_truth.s
theorem R09_view.c:Ck R09_view.s []:=cS R09_truth.c R09_view.k
/-! levee/leveeref09.cols -/
def R09_cols.d:Fe:=⟨63,1,⟨[(0,.v true [.str,.sl 43 tColumn,.sl 63 (.sl 77 tNode)])],[],[],0,[]⟩,⟨[(0,.v false [.bool])],[],[],1000,[]⟩,(.s none .n (.s (some ⟨[],[],[1],0,[]⟩) (.s none .n (.b (.l ⟨[(3,.v false [.int .i64])],[],[1],0,[]⟩ (.s none .n (.s (some ⟨[],[],[1,3],0,[]⟩) (.b (.s none .n (.b (.l ⟨[(4,.v false [.int .i64])],[],[1,3],0,[]⟩ .n)))) .n))))) .n))⟩
noncomputable def R09_cols.B:ByteArray×(List tColumnT)×(List (List tNodeT))×Unit→Option (Bool×Unit):=fun (p0_0,p0_1,p0_2,_)=>
  jn (S:=Unit) (
  loopM (S:=Int×Unit) (fun (x3,_)=>
  (bif (decide (x3<(p0_1.length:Int))) then
  jn (S:=Unit) (
  loopM (S:=Int×Unit) (fun (x4',_)=>
  (bif (decide (x4'<x3)) then
  ck (ib x3 p0_1.length)<|
  let e1:tColumnT:=(gt p0_1 x3 tColumn.z)
  ck (ib x4' p0_1.length)<|
  let e2:tColumnT:=(gt p0_1 x4' tColumn.z)
  (bif (sq e1.1 e2.1) then
  ir (.inr (.inr (.inr (true,()))))
  else
  let e3:Int:=(wr (x4'+(1:Int)))
  il (e3,()))
  else
  ir (.inl (())))) ((0:Int),())) fun (_)=>
  let e5:Int:=(wr (x3+(1:Int)))
  il (e5,())
  else
  ir (.inl (())))) ((0:Int),())) fun (_)=>
  ck (ib (0:Int) p0_1.length)<|
  let e7:tColumnT:=(List.getD p0_1 0 tColumn.z)
  (bif e7.2.2.1 then
  some (true,())
  else
  ck (ib (0:Int) p0_1.length)<|
  let e8:tColumnT:=(List.getD p0_1 0 tColumn.z)
  (bif (e8.2.1==(1:Int)) then
  some (true,())
  else
  ck (ib (0:Int) p0_1.length)<|
  let e9:tColumnT:=(List.getD p0_1 0 tColumn.z)
  some ((!sq e9.2.2.2.2.1 (⟨#[]⟩:ByteArray)),())))
noncomputable def R09_cols.F:=stk R09_cols.B
theorem R09_cols.eq:R09_cols.F=R09_cols.B:=stk_eq _
theorem R09_cols.k:Kk R09_view.s [] [] Tryz.f63 R09_cols.d R09_cols.B:={}
noncomputable def R09_cols.s:SpL:=R09_cols.d.e [] R09_cols.F::R09_view.s
theorem R09_cols.c:Ck R09_cols.s []:=cS R09_view.c R09_cols.k
/-! levee/leveeref09.refs -/
def R09_refs.d:Fe:=⟨64,2,⟨[(0,.v false [.sl 69 tDef]),(1,.v true [.str,.sl 43 tColumn,.sl 63 (.sl 77 tNode)])],[],[],0,[]⟩,⟨[(0,.v false [.bool])],[],[],1000,[]⟩,(.s none .n (.s none (.s none .n (.b (.l ⟨[(5,.v false [.int .i64])],[],[0,3],0,[]⟩ (.s none .n (.s none (.b (.s none .n (.s none .n (.s none .n (.s (some ⟨[(7,.v false [.int .i64])],[],[0,3,5,6],0,[]⟩) .n .n))))) .n))))) .n))⟩
noncomputable def R09_refs.B:(List tDefT)×ByteArray×(List tColumnT)×(List (List tNodeT))×Unit→Option (Bool×Unit):=fun (p0,p1_0,p1_1,p1_2,_)=>
  loopM (S:=Int×Unit) (fun (x5,_)=>
  (bif (decide (x5<(p1_1.length:Int))) then
  ck (ib x5 p1_1.length)<|
  let e1:tColumnT:=(gt p1_1 x5 tColumn.z)
  (bif (sq e1.2.2.2.2.1 (⟨#[]⟩:ByteArray)) then
  let e2:Int:=(wr (x5+(1:Int)))
  il (e2,())
  else
  ck (ib (0:Int) p1_1.length)<|
  let e3:tColumnT:=(List.getD p1_1 0 tColumn.z)
  jn (S:=Int×Unit) (
  (bif (!sq e1.2.2.2.2.1 p1_0) then
  (R09_Find.F (p0,e1.2.2.2.2.1,())).bind fun y4=>
  (bif (decide (y4.1<(0:Int))) then
  ir (.inr (true,()))
  else
  ck (ib y4.1 p0.length)<|
  let e5:tDefT:=(gt p0 y4.1 tDef.z)
  (bif (e5.1 !=(0:Int)) then
  ir (.inr (true,()))
  else
  ck (ib y4.1 p0.length)<|
  let e6:tDefT:=(gt p0 y4.1 tDef.z)
  ck (ib (0:Int) e6.2.1.2.1.length)<|
  let e7:tColumnT:=(List.getD e6.2.1.2.1 0 tColumn.z)
  il (e7.2.1,())))
  else
  il (e3.2.1,()))) fun (x7_8,_)=>
  (bif (e1.2.1 !=x7_8) then
  ir (true,())
  else
  (bif (e1.2.2.2.2.2==(2:Int)) then
  (bif (!e1.2.2.1) then
  ir (true,())
  else
  let e9:Int:=(wr (x5+(1:Int)))
  il (e9,()))
  else
  let e10:Int:=(wr (x5+(1:Int)))
  il (e10,()))))
  else
  ir (false,()))) ((0:Int),())
noncomputable def R09_refs.F:=stk R09_refs.B
theorem R09_refs.eq:R09_refs.F=R09_refs.B:=stk_eq _
theorem R09_refs.k:Kk R09_cols.s [] [] Tryz.f64 R09_refs.d R09_refs.B:={}
noncomputable def R09_refs.s:SpL:=R09_refs.d.e [] R09_refs.F::R09_cols.s
theorem R09_refs.c:Ck R09_refs.s []:=cS R09_cols.c R09_refs.k
/-! levee/leveeref09.Wrong -/
def R09_Wrong.d:Fe:=⟨34,2,⟨[(0,.v false [.sl 69 tDef]),(1,.v true [.int .i64,.str,.sl 43 tColumn,.sl 63 (.sl 77 tNode),.str,.str,.str,.int .i64,.int .i64,.sl 77 tNode,.sl 3 (.int .i64),.bool,.sl 103 tAgg])],[],[],0,[]⟩,⟨[(0,.v false [.int .i64])],[],[],1000,[]⟩,(.s none .n (.s none .n (.s none .n (.s none .n (.s none .n (.s none .n (.s none .n (.s none .n (.s none (.s none .n (.b (.l ⟨[(5,.v false [.sl 3 (.int .i64)]),(7,.v false [.int .i64])],[],[3],0,[]⟩ .n))) .n)))))))))⟩
noncomputable def R09_Wrong.B:(List tDefT)×Int×ByteArray×(List tColumnT)×(List (List tNodeT))×ByteArray×ByteArray×ByteArray×Int×Int×(List tNodeT)×(List Int)×Bool×(List tAggT)×Unit→Option (Int×Unit):=fun (p0,p1_0,p1_1,p1_2,p1_3,p1_4,p1_5,p1_6,p1_7,p1_8,p1_9,p1_10,p1_11,p1_12,_)=>
  (R07_Print.F (p1_0,p1_1,p1_2,p1_3,p1_4,p1_5,p1_6,p1_7,p1_8,p1_9,p1_10,p1_11,p1_12,())).bind fun y1=>
  (bif (sq y1.1 (⟨#[]⟩:ByteArray)) then
  some ((1:Int),())
  else
  (bif (decide ((p0.length:Int)≥(20:Int))) then
  some ((95:Int),())
  else
  (R09_Name.F (p1_0,p1_1,p1_2,p1_3,p1_4,p1_5,p1_6,p1_7,p1_8,p1_9,p1_10,p1_11,p1_12,())).bind fun y2=>
  (R09_Find.F (p0,y2.1,())).bind fun y3=>
  (bif (decide (y3.1≥(0:Int))) then
  some ((90:Int),())
  else
  (bif (p1_0 !=(0:Int)) then
  (R09_view.F (p0,p1_4,p1_5,p1_6,p1_7,p1_8,p1_9,p1_10,p1_11,p1_12,())).bind fun y4=>
  (bif y4.1 then
  some ((94:Int),())
  else
  some ((0:Int),()))
  else
  (R09_cols.F (p1_1,p1_2,p1_3,())).bind fun y5=>
  (bif y5.1 then
  some ((91:Int),())
  else
  (R09_refs.F (p0,p1_1,p1_2,p1_3,())).bind fun y6=>
  (bif y6.1 then
  some ((92:Int),())
  else
  (R09_tableKinds.F (p1_1,p1_2,p1_3,())).bind fun y7=>
  loopM (S:=(List Int)×Int×Unit) (fun (x5,x7,_)=>
  (bif (decide (x7<(p1_3.length:Int))) then
  ck (ib x7 p1_3.length)<|
  let e8:(List tNodeT):=(gt p1_3 x7 [])
  (R09_truth.F (e8,x5,())).bind fun y9=>
  (bif (!y9.1) then
  ir ((93:Int),())
  else
  let e10:Int:=(wr (x7+(1:Int)))
  il (x5,e10,()))
  else
  ir ((0:Int),()))) (y7.1,(0:Int),())))))))
noncomputable def R09_Wrong.F:=stk R09_Wrong.B
theorem R09_Wrong.eq:R09_Wrong.F=R09_Wrong.B:=stk_eq _
theorem R09_Wrong.k:Kk R09_refs.s [] [] Tryz.f34 R09_Wrong.d R09_Wrong.B:={}
noncomputable def R09_Wrong.s:SpL:=R09_Wrong.d.e [] R09_Wrong.F::R09_refs.s
theorem R09_Wrong.c:Ck R09_Wrong.s []:=cS R09_refs.c R09_Wrong.k
/-! levee/leveeref09.May -/
def R09_May.d:Fe:=⟨21,1,⟨[(0,.v false [.sl 69 tDef])],[],[],0,[]⟩,⟨[(0,.v false [.bool])],[],[],1000,[]⟩,(.s none .n (.s none (.s none .n (.b (.l ⟨[(3,.v false [.int .i64])],[],[0],0,[]⟩ .n))) .n))⟩
noncomputable def R09_May.B:(List tDefT)×Unit→Option (Bool×Unit):=fun (p0,_)=>
  loopM (S:=Int×Unit) (fun (x3,_)=>
  (bif (decide (x3<(p0.length:Int))) then
  ck (sb (0:Int) x3 p0.length)<|
  let e1:List tDefT:=(List.drop (Int.toNat (0:Int)) (List.take (Int.toNat x3) p0))
  ck (ib x3 p0.length)<|
  let e2:tDefT:=(gt p0 x3 tDef.z)
  (R09_Wrong.F (e1,e2.1,e2.2.1.1,e2.2.1.2.1,e2.2.1.2.2,e2.2.2.1,e2.2.2.2.1,e2.2.2.2.2.1,e2.2.2.2.2.2.1.1,e2.2.2.2.2.2.1.2,e2.2.2.2.2.2.2.1,e2.2.2.2.2.2.2.2.1,e2.2.2.2.2.2.2.2.2.1,e2.2.2.2.2.2.2.2.2.2,())).bind fun y3=>
  (bif (y3.1 !=(0:Int)) then
  ir (false,())
  else
  let e4:Int:=(wr (x3+(1:Int)))
  il (e4,()))
  else
  ir (true,()))) ((0:Int),())
noncomputable def R09_May.F:=stk R09_May.B
theorem R09_May.eq:R09_May.F=R09_May.B:=stk_eq _
theorem R09_May.k:Kk R09_Wrong.s [] [] Tryz.f21 R09_May.d R09_May.B:={}
noncomputable def R09_May.s:SpL:=R09_May.d.e [] R09_May.F::R09_Wrong.s
theorem R09_May.c:Ck R09_May.s []:=cS R09_Wrong.c R09_May.k
/-! levee/leveeref17.Tables -/
def R17_Tables.d:Fe:=⟨10,1,⟨[(0,.v false [.sl 69 tDef])],[],[],0,[]⟩,⟨[(0,.v false [.ref 1000])],[(1000,false,.arr 41 tTable)],[],1001,[]⟩,(.s none .n (.s none .n (.s none (.s none .n (.b (.l ⟨[(3,.v false [.ref 0]),(4,.v false [.int .i64])],[(0,false,.arr 41 tTable)],[0],1,[]⟩ .n))) .n)))⟩
noncomputable def R17_Tables.B:(List tDefT)×Unit→Option ((List tTableT)×Unit):=fun (p0,_)=>
  loopM (S:=Int×(List tTableT)×Unit) (fun (x4,o3_0,_)=>
  (bif (decide (x4<(p0.length:Int))) then
  ck (ib x4 p0.length)<|
  let e1:tDefT:=(gt p0 x4 tDef.z)
  (bif (e1.1==(0:Int)) then
  ck (ib x4 p0.length)<|
  let e2:tDefT:=(gt p0 x4 tDef.z)
  ck (Nat.ble (o3_0.length+ [e2.2.1].length) 2199023255552)<|
  let e3:Int:=(wr (x4+(1:Int)))
  il (e3,(o3_0++ [e2.2.1]),())
  else
  let e4:Int:=(wr (x4+(1:Int)))
  il (e4,o3_0,()))
  else
  ir (o3_0,()))) ((0:Int),([]:List tTableT),())
noncomputable def R17_Tables.F:=stk R17_Tables.B
theorem R17_Tables.eq:R17_Tables.F=R17_Tables.B:=stk_eq _
theorem R17_Tables.k:Kk R09_May.s [] [] Tryz.f10 R17_Tables.d R17_Tables.B:={}
noncomputable def R17_Tables.s:SpL:=R17_Tables.d.e [] R17_Tables.F::R09_May.s
theorem R17_Tables.c:Ck R17_Tables.s []:=cS R09_May.c R17_Tables.k
/-! levee/leveeref05.Fits -/
def R05_Fits.d:Fe:=⟨35,1,⟨[(0,.v false [.int .i64])],[],[],0,[]⟩,⟨[(0,.v false [.bool])],[],[],1000,[]⟩,.n⟩
noncomputable def R05_Fits.B:Int×Unit→Option (Bool×Unit):=fun (p0,_)=>
  (bif (decide (p0≥(-1000000000:Int))) then
  some ((decide (p0≤(1000000000:Int))),())
  else
  some (false,()))
noncomputable def R05_Fits.F:=stk R05_Fits.B
theorem R05_Fits.eq:R05_Fits.F=R05_Fits.B:=stk_eq _
theorem R05_Fits.k:Kk R17_Tables.s [] [] Tryz.f35 R05_Fits.d R05_Fits.B:={}
noncomputable def R05_Fits.s:SpL:=R05_Fits.d.e [] R05_Fits.F::R17_Tables.s
theorem R05_Fits.c:Ck R05_Fits.s []:=cS R17_Tables.c R05_Fits.k
/-! levee/leveeref02.May -/
def R02_May.d:Fe:=⟨67,1,⟨[(0,.v false [.sl 45 tValue])],[],[],0,[]⟩,⟨[(0,.v false [.bool])],[],[],1000,[]⟩,(.s none .n (.s none (.s none .n (.b (.l ⟨[(3,.v false [.int .i64])],[],[0],0,[]⟩ .n))) .n))⟩
noncomputable def R02_May.B:(List tValueT)×Unit→Option (Bool×Unit):=fun (p0,_)=>
  loopM (S:=Int×Unit) (fun (x3,_)=>
  (bif (decide (x3<(p0.length:Int))) then
  ck (ib x3 p0.length)<|
  let e1:tValueT:=(gt p0 x3 tValue.z)
  (R01_May.F (e1.1,e1.2.1,e1.2.2,())).bind fun y2=>
  (bif (!y2.1) then
  ir (false,())
  else
  let e3:Int:=(wr (x3+(1:Int)))
  il (e3,()))
  else
  ir (true,()))) ((0:Int),())
noncomputable def R02_May.F:=stk R02_May.B
theorem R02_May.eq:R02_May.F=R02_May.B:=stk_eq _
theorem R02_May.k:Kk R05_Fits.s [] [] Tryz.f67 R02_May.d R02_May.B:={}
noncomputable def R02_May.s:SpL:=R02_May.d.e [] R02_May.F::R05_Fits.s
theorem R02_May.c:Ck R02_May.s []:=cS R05_Fits.c R02_May.k
/-! levee/leveeref04.May -/
def R04_May.d:Fe:=⟨36,1,⟨[(0,.v false [.sl 45 tValue])],[],[],0,[]⟩,⟨[(0,.v false [.bool])],[],[],1000,[]⟩,.n⟩
noncomputable def R04_May.B:(List tValueT)×Unit→Option (Bool×Unit):=fun (p0,_)=>
  (bif (decide ((p0.length:Int)≤(40:Int))) then
  (R02_May.F (p0,())).bind fun y1=>
  some (y1.1,())
  else
  some (false,()))
noncomputable def R04_May.F:=stk R04_May.B
theorem R04_May.eq:R04_May.F=R04_May.B:=stk_eq _
theorem R04_May.k:Kk R02_May.s [] [] Tryz.f36 R04_May.d R04_May.B:={}
noncomputable def R04_May.s:SpL:=R04_May.d.e [] R04_May.F::R02_May.s
theorem R04_May.c:Ck R04_May.s []:=cS R02_May.c R04_May.k
/-! levee/leveeref01.Compare -/
def R01_Compare.d:Fe:=⟨68,2,⟨[(0,.v true [.int .i64,.int .i64,.str]),(1,.v true [.int .i64,.int .i64,.str])],[],[],0,[]⟩,⟨[(0,.v false [.int .i64])],[],[],1000,[]⟩,.n⟩
noncomputable def R01_Compare.B:Int×Int×ByteArray×Int×Int×ByteArray×Unit→Option (Int×Unit):=fun (p0_0,p0_1,p0_2,p1_0,p1_1,p1_2,_)=>
  (bif (p0_0 !=p1_0) then
  (bif (decide (p0_0<p1_0)) then
  some ((-1:Int),())
  else
  some ((1:Int),()))
  else
  (bif (p0_1 !=p1_1) then
  (bif (decide (p0_1<p1_1)) then
  some ((-1:Int),())
  else
  some ((1:Int),()))
  else
  (bif (Op.bytesLess p0_2.toList p1_2.toList) then
  some ((-1:Int),())
  else
  (bif (!(Op.bytesLess p0_2.toList p1_2.toList||p0_2.toList==p1_2.toList)) then
  some ((1:Int),())
  else
  some ((0:Int),())))))
noncomputable def R01_Compare.F:=stk R01_Compare.B
theorem R01_Compare.eq:R01_Compare.F=R01_Compare.B:=stk_eq _
theorem R01_Compare.k:Kk R04_May.s [] [] Tryz.f68 R01_Compare.d R01_Compare.B:={}
noncomputable def R01_Compare.s:SpL:=R01_Compare.d.e [] R01_Compare.F::R04_May.s
theorem R01_Compare.c:Ck R01_Compare.s []:=cS R04_May.c R01_Compare.k
/-! levee/leveeref02.Compare -/
def R02_Compare.d:Fe:=⟨37,2,⟨[(0,.v false [.sl 45 tValue]),(1,.v false [.sl 45 tValue])],[],[],0,[]⟩,⟨[(0,.v false [.int .i64])],[],[],1000,[]⟩,(.s none .n (.s (some ⟨[],[],[0,1],0,[]⟩) (.s none .n (.b (.l ⟨[(5,.v false [.int .i64])],[],[0,1],0,[]⟩ .n))) .n))⟩
noncomputable def R02_Compare.B:(List tValueT)×(List tValueT)×Unit→Option (Int×Unit):=fun (p0,p1,_)=>
  jn (S:=Unit) (
  loopM (S:=Int×Unit) (fun (x5,_)=>
  (bif (decide (x5<(p0.length:Int))) then
  (bif (decide (x5<(p1.length:Int))) then
  ck (ib x5 p0.length)<|
  let e1:tValueT:=(gt p0 x5 tValue.z)
  ck (ib x5 p1.length)<|
  let e2:tValueT:=(gt p1 x5 tValue.z)
  (R01_Compare.F (e1.1,e1.2.1,e1.2.2,e2.1,e2.2.1,e2.2.2,())).bind fun y3=>
  (bif (y3.1 !=(0:Int)) then
  ir (.inr (y3.1,()))
  else
  let e4:Int:=(wr (x5+(1:Int)))
  il (e4,()))
  else
  ir (.inl (())))
  else
  ir (.inl (())))) ((0:Int),())) fun (_)=>
  (bif (decide ((p0.length:Int)<(p1.length:Int))) then
  some ((-1:Int),())
  else
  (bif (decide ((p0.length:Int)>(p1.length:Int))) then
  some ((1:Int),())
  else
  some ((0:Int),())))
noncomputable def R02_Compare.F:=stk R02_Compare.B
theorem R02_Compare.eq:R02_Compare.F=R02_Compare.B:=stk_eq _
theorem R02_Compare.k:Kk R01_Compare.s [] [] Tryz.f37 R02_Compare.d R02_Compare.B:={}
noncomputable def R02_Compare.s:SpL:=R02_Compare.d.e [] R02_Compare.F::R01_Compare.s
theorem R02_Compare.c:Ck R02_Compare.s []:=cS R01_Compare.c R02_Compare.k
/-! levee/leveeref05.May -/
def R05_May.d:Fe:=⟨22,1,⟨[(0,.v false [.sl 49 tCount])],[],[],0,[]⟩,⟨[(0,.v false [.bool])],[],[],1000,[]⟩,(.s none .n (.s none (.s none .n (.b (.l ⟨[(3,.v false [.int .i64])],[],[0],0,[]⟩ (.s none .n (.s none (.b (.s (some ⟨[(52,.v false [.bool])],[],[0,3],0,[]⟩) .n .n)) .n))))) .n))⟩
noncomputable def R05_May.B:(List tCountT)×Unit→Option (Bool×Unit):=fun (p0,_)=>
  loopM (S:=Int×Unit) (fun (x3,_)=>
  (bif (decide (x3<(p0.length:Int))) then
  jn (S:=Bool×Unit) (
  ck (ib x3 p0.length)<|
  let e1:tCountT:=(gt p0 x3 tCount.z)
  (bif (e1.2==(0:Int)) then
  il (true,())
  else
  ck (ib x3 p0.length)<|
  let e2:tCountT:=(gt p0 x3 tCount.z)
  (R05_Fits.F (e2.2,())).bind fun y3=>
  (bif (!y3.1) then
  il (true,())
  else
  ck (ib x3 p0.length)<|
  let e4:tCountT:=(gt p0 x3 tCount.z)
  (R04_May.F (e4.1,())).bind fun y5=>
  (bif (!y5.1) then
  il (true,())
  else
  (bif (decide (x3>(0:Int))) then
  let e6:Int:=(wr (x3-(1:Int)))
  ck (ib e6 p0.length)<|
  let e7:tCountT:=(gt p0 e6 tCount.z)
  ck (ib x3 p0.length)<|
  let e8:tCountT:=(gt p0 x3 tCount.z)
  (R02_Compare.F (e7.1,e8.1,())).bind fun y9=>
  il ((decide (y9.1≥(0:Int))),())
  else
  il (false,())))))) fun (x52_10,_)=>
  (bif x52_10 then
  ir (false,())
  else
  let e11:Int:=(wr (x3+(1:Int)))
  il (e11,()))
  else
  ir (true,()))) ((0:Int),())
noncomputable def R05_May.F:=stk R05_May.B
theorem R05_May.eq:R05_May.F=R05_May.B:=stk_eq _
theorem R05_May.k:Kk R02_Compare.s [] [] Tryz.f22 R05_May.d R05_May.B:={}
noncomputable def R05_May.s:SpL:=R05_May.d.e [] R05_May.F::R02_Compare.s
theorem R05_May.c:Ck R05_May.s []:=cS R02_Compare.c R05_May.k
/-! levee/leveeref17.rows -/
def R17_rows.d:Fe:=⟨23,2,⟨[(0,.v true [.str,.sl 43 tColumn,.sl 63 (.sl 77 tNode)]),(1,.v false [.sl 49 tCount])],[],[],0,[]⟩,⟨[(0,.v false [.bool])],[],[],1000,[]⟩,(.s none .n (.s none (.s none .n (.b (.l ⟨[(5,.v false [.int .i64])],[],[1,2],0,[]⟩ (.s none .n (.s (some ⟨[],[],[1,2,5],0,[]⟩) (.b (.s (some ⟨[],[],[1,2,5],0,[]⟩) .n (.s none .n (.s none .n (.b (.l ⟨[(6,.v false [.int .i64])],[],[1,2,5],0,[]⟩ .n)))))) .n))))) .n))⟩
noncomputable def R17_rows.B:ByteArray×(List tColumnT)×(List (List tNodeT))×(List tCountT)×Unit→Option (Bool×Unit):=fun (p0_0,p0_1,p0_2,p1,_)=>
  loopM (S:=Int×Unit) (fun (x5,_)=>
  (bif (decide (x5<(p1.length:Int))) then
  jn (S:=Unit) (
  jn (S:=Unit) (
  ck (ib x5 p1.length)<|
  let e1:tCountT:=(gt p1 x5 tCount.z)
  (bif (e1.2 !=(1:Int)) then
  ir (.inr (.inr (false,())))
  else
  ck (ib x5 p1.length)<|
  let e2:tCountT:=(gt p1 x5 tCount.z)
  (bif ((e2.1.length:Int) !=(p0_1.length:Int)) then
  ir (.inr (.inr (false,())))
  else
  il (())))) fun (_)=>
  ck (ib x5 p1.length)<|
  let e4:tCountT:=(gt p1 x5 tCount.z)
  ck (ib (0:Int) e4.1.length)<|
  let e5:tValueT:=(List.getD e4.1 0 tValue.z)
  (bif (e5.1==(0:Int)) then
  ir (.inr (false,()))
  else
  loopM (S:=Int×Unit) (fun (x6',_)=>
  (bif (decide (x6'<x5)) then
  ck (ib x6' p1.length)<|
  let e6:tCountT:=(gt p1 x6' tCount.z)
  ck (ib (0:Int) e6.1.length)<|
  let e7:tValueT:=(List.getD e6.1 0 tValue.z)
  ck (ib x5 p1.length)<|
  let e8:tCountT:=(gt p1 x5 tCount.z)
  ck (ib (0:Int) e8.1.length)<|
  let e9:tValueT:=(List.getD e8.1 0 tValue.z)
  (bif (Ty.eq tValue e7 e9) then
  ir (.inr (.inr (false,())))
  else
  let e10:Int:=(wr (x6'+(1:Int)))
  il (e10,()))
  else
  ir (.inl (())))) ((0:Int),()))) fun (_)=>
  let e12:Int:=(wr (x5+(1:Int)))
  il (e12,())
  else
  ir (true,()))) ((0:Int),())
noncomputable def R17_rows.F:=stk R17_rows.B
theorem R17_rows.eq:R17_rows.F=R17_rows.B:=stk_eq _
theorem R17_rows.k:Kk R05_May.s [] [] Tryz.f23 R17_rows.d R17_rows.B:={}
noncomputable def R17_rows.s:SpL:=R17_rows.d.e [] R17_rows.F::R05_May.s
theorem R17_rows.c:Ck R17_rows.s []:=cS R05_May.c R17_rows.k
/-! levee/leveeref17.May -/
def R17_May.d:Fe:=⟨8,2,⟨[(0,.v false [.sl 69 tDef]),(1,.v false [.sl 72 tSource])],[],[],0,[]⟩,⟨[(0,.v false [.bool])],[],[],1000,[]⟩,(.s none .n (.s none .n (.s none .n (.s none .n (.s none (.s none .n (.b (.l ⟨[(6,.v false [.int .i64])],[],[1,5],0,[]⟩ .n))) .n)))))⟩
noncomputable def R17_May.B:(List tDefT)×(List tSourceT)×Unit→Option (Bool×Unit):=fun (p0,p1,_)=>
  (R09_May.F (p0,())).bind fun y1=>
  (bif (!y1.1) then
  some (false,())
  else
  (R17_Tables.F (p0,())).bind fun y2=>
  (bif ((y2.1.length:Int) !=(p1.length:Int)) then
  some (false,())
  else
  loopM (S:=Int×Unit) (fun (x6,_)=>
  (bif (decide (x6<(y2.1.length:Int))) then
  ck (ib x6 p1.length)<|
  let e3:tSourceT:=(gt p1 x6 tSource.z)
  ck (ib x6 y2.1.length)<|
  let e4:tTableT:=(List.getD y2.1 (Int.toNat x6) tTable.z)
  (bif (!sq e3.1 e4.1) then
  ir (false,())
  else
  ck (ib x6 p1.length)<|
  let e5:tSourceT:=(gt p1 x6 tSource.z)
  (R05_May.F (e5.2,())).bind fun y6=>
  (bif (!y6.1) then
  ir (false,())
  else
  ck (ib x6 y2.1.length)<|
  let e7:tTableT:=(List.getD y2.1 (Int.toNat x6) tTable.z)
  ck (ib x6 p1.length)<|
  let e8:tSourceT:=(gt p1 x6 tSource.z)
  (R17_rows.F (e7.1,e7.2.1,e7.2.2,e8.2,())).bind fun y9=>
  (bif (!y9.1) then
  ir (false,())
  else
  let e10:Int:=(wr (x6+(1:Int)))
  il (e10,()))))
  else
  ir (true,()))) ((0:Int),())))
noncomputable def R17_May.F:=stk R17_May.B
theorem R17_May.eq:R17_May.F=R17_May.B:=stk_eq _
theorem R17_May.k:Kk R17_rows.s [] [] Tryz.f8 R17_May.d R17_May.B:={}
noncomputable def R17_May.s:SpL:=R17_May.d.e [] R17_May.F::R17_rows.s
theorem R17_May.c:Ck R17_May.s []:=cS R17_rows.c R17_May.k
/-! (*levee/ddl.printer).add -/
def ddl_printer_add.d:Fe:=⟨160,2,⟨[(0,.v false [.ptr 0 0]),(1,.v false [.sl 9 .str])],[(0,true,.box 183 [.ref 1]),(1,true,.arr 9 .str)],[],2,[]⟩,⟨[(0,.tup [])],[(0,true,.box 183 [.ref 1001]),(1001,false,.arr 9 .str)],[],1002,[(0,0)]⟩,.n⟩
noncomputable def ddl_printer_add.B:(List ByteArray)×(List ByteArray)×Unit→Option ((List ByteArray)×Unit):=fun (p1,o0_0,_)=>
  ck (Nat.ble (o0_0.length+p1.length) 8796093022208)<|
  some ((o0_0++p1),())
noncomputable def ddl_printer_add.F:=stk ddl_printer_add.B
theorem ddl_printer_add.eq:ddl_printer_add.F=ddl_printer_add.B:=stk_eq _
theorem ddl_printer_add.k:Kk R17_May.s [] [] Tryz.f160 ddl_printer_add.d ddl_printer_add.B:={}
noncomputable def ddl_printer_add.s:SpL:=ddl_printer_add.d.e [] ddl_printer_add.F::R17_May.s
theorem ddl_printer_add.c:Ck ddl_printer_add.s []:=cS R17_May.c ddl_printer_add.k
/-! levee/ddl.word -/
def ddl_word.d:Fe:=⟨163,2,⟨[(0,.v false [.int .i64]),(1,.v false [.sl 9 .str])],[],[],0,[]⟩,⟨[(0,.v false [.str])],[],[],1000,[]⟩,.n⟩
noncomputable def ddl_word.B:Int×(List ByteArray)×Unit→Option (ByteArray×Unit):=fun (p0,p1,_)=>
  (bif (decide (p0<(0:Int))) then
  some ((⟨#[33]⟩:ByteArray),())
  else
  (bif (decide (p0≥(p1.length:Int))) then
  some ((⟨#[33]⟩:ByteArray),())
  else
  ck (ib p0 p1.length)<|
  let e1:ByteArray:=(gt p1 p0 (⟨#[]⟩:ByteArray))
  some (e1,())))
noncomputable def ddl_word.F:=stk ddl_word.B
theorem ddl_word.eq:ddl_word.F=ddl_word.B:=stk_eq _
theorem ddl_word.k:Kk ddl_printer_add.s [] [] Tryz.f163 ddl_word.d ddl_word.B:={}
noncomputable def ddl_word.s:SpL:=ddl_word.d.e [] ddl_word.F::ddl_printer_add.s
theorem ddl_word.c:Ck ddl_word.s []:=cS ddl_printer_add.c ddl_word.k
/-! (*levee/ddl.printer).addIf -/
def ddl_printer_addIf.d:Fe:=⟨164,3,⟨[(0,.v false [.ptr 0 0]),(1,.v false [.bool]),(2,.v false [.sl 9 .str])],[(0,true,.box 183 [.ref 1]),(1,true,.arr 9 .str)],[],2,[]⟩,⟨[(0,.tup [])],[(0,true,.box 183 [.ref 1001]),(1001,false,.arr 9 .str)],[],1002,[(0,0)]⟩,.n⟩
noncomputable def ddl_printer_addIf.B:Bool×(List ByteArray)×(List ByteArray)×Unit→Option ((List ByteArray)×Unit):=fun (p1,p2,o0_0,_)=>
  (bif p1 then
  (ddl_printer_add.F (p2,o0_0,())).bind fun y1=>
  some (y1.1,())
  else
  some (o0_0,()))
noncomputable def ddl_printer_addIf.F:=stk ddl_printer_addIf.B
theorem ddl_printer_addIf.eq:ddl_printer_addIf.F=ddl_printer_addIf.B:=stk_eq _
theorem ddl_printer_addIf.k:Kk ddl_word.s [] [] Tryz.f164 ddl_printer_addIf.d ddl_printer_addIf.B:={}
noncomputable def ddl_printer_addIf.s:SpL:=ddl_printer_addIf.d.e [] ddl_printer_addIf.F::ddl_word.s
theorem ddl_printer_addIf.c:Ck ddl_printer_addIf.s []:=cS ddl_word.c ddl_printer_addIf.k
/-! strconv.Itoa -/
def strconv_Itoa.d:Fe:=⟨166,1,⟨[(0,.v false [.int .i64])],[],[],0,[]⟩,⟨[(0,.v false [.str])],[],[],1000,[]⟩,.n⟩
noncomputable def strconv_Itoa.B:TS strconv_Itoa.d.si→Option (TS strconv_Itoa.d.so):=itoaF
noncomputable def strconv_Itoa.F:=stk strconv_Itoa.B
theorem strconv_Itoa.eq:strconv_Itoa.F=strconv_Itoa.B:=stk_eq _
theorem strconv_Itoa.ok:SpecOk PP 166 ⟨1,strconv_Itoa.d.si,strconv_Itoa.d.so,strconv_Itoa.F⟩:=by
  rw [strconv_Itoa.eq]
  exact itoa_ok
noncomputable def strconv_Itoa.s:SpL:=strconv_Itoa.d.e [] strconv_Itoa.F::ddl_printer_addIf.s
theorem strconv_Itoa.c:Ck strconv_Itoa.s []:=CxOk.consS ddl_printer_addIf.c [] ⟨_,Tryz.func166,by kernel_rfl,by decide⟩ strconv_Itoa.ok
/-! levee/lex.of -/
def lex_of.d:Fe:=⟨225,1,⟨[(0,.v false [.int .u8])],[],[],0,[]⟩,⟨[(0,.v false [.int .i64])],[],[],1000,[]⟩,(.s none .n (.s none (.b (.s (some ⟨[(3,.v false [.bool])],[],[0],0,[]⟩) .n (.c .n (.s (some ⟨[(10,.v false [.bool])],[],[0],0,[]⟩) .n .n)))) .n))⟩
noncomputable def lex_of.B:Int×Unit→Option (Int×Unit):=fun (p0,_)=>
  jn (S:=Bool×Unit) (
  (bif (decide (p0≥(97:Int))) then
  il ((decide (p0≤(122:Int))),())
  else
  il (false,()))) fun (x3_1,_)=>
  (bif x3_1 then
  some ((1:Int),())
  else
  jn (S:=Bool×Unit) (
  (bif (decide (p0≥(48:Int))) then
  il ((decide (p0≤(57:Int))),())
  else
  il (false,()))) fun (x10_2,_)=>
  (bif x10_2 then
  some ((2:Int),())
  else
  (bif (p0==(95:Int)) then
  some ((3:Int),())
  else
  (bif (p0==(39:Int)) then
  some ((4:Int),())
  else
  (bif (p0==(32:Int)) then
  some ((5:Int),())
  else
  some ((0:Int),()))))))
noncomputable def lex_of.F:=stk lex_of.B
theorem lex_of.eq:lex_of.F=lex_of.B:=stk_eq _
theorem lex_of.k:Kk strconv_Itoa.s [] [] Tryz.f225 lex_of.d lex_of.B:={}
noncomputable def lex_of.s:SpL:=lex_of.d.e [] lex_of.F::strconv_Itoa.s
theorem lex_of.c:Ck lex_of.s []:=cS strconv_Itoa.c lex_of.k
/-! (*levee/lex.scanner).run -/
def lex_scanner_run.d:Fe:=⟨200,2,⟨[(0,.v false [.ptr 0 0]),(1,.v false [.sl 241 (.int .i64)])],[(0,true,.box 239 [.str,.int .i64])],[],1,[]⟩,⟨[(0,.v false [.str])],[(0,true,.box 239 [.str,.int .i64])],[],1001,[(0,0)]⟩,(.s none .n (.s none .n (.s (some ⟨[(0,.v false [.ptr 0 0])],[(0,true,.box 239 [.str,.int .i64])],[5],1,[]⟩) (.b (.l ⟨[(0,.v false [.ptr 0 0])],[(0,true,.box 239 [.str,.int .i64])],[1,5],1,[]⟩ (.s none .n (.b (.s none .n (.s none .n (.s (some ⟨[(7,.v false [.bool])],[],[0,1,5],0,[]⟩) (.s none .n (.b (.l ⟨[(7,.v false [.bool]),(36,.v false [.int .i64])],[],[0,1,5,6,34,35],0,[]⟩ .n))) .n))))))) .n)))⟩
noncomputable def lex_scanner_run.B:(List Int)×ByteArray×Int×Unit→Option (ByteArray×ByteArray×Int×Unit):=fun (p1,o0_0,o0_1,_)=>
  jn (S:=ByteArray×Int×Unit) (
  loopM (S:=ByteArray×Int×Unit) (fun (o0_0_0,o0_0_1,_)=>
  (bif (decide (o0_0_1<(o0_0_0.size:Int))) then
  ck (ib o0_0_1 o0_0_0.size)<|
  let e1:Int:=(byteAt o0_0_0 (Int.toNat o0_0_1))
  (lex_of.F (e1,())).bind fun y2=>
  jn (S:=Bool×Unit) (
  loopM (S:=Bool×Int×Unit) (fun (x7',x36',_)=>
  (bif (decide (x36'<(p1.length:Int))) then
  ck (ib x36' p1.length)<|
  let e3:Int:=(gt p1 x36' (0:Int))
  (bif x7' then
  let e4:Int:=(wr (x36'+(1:Int)))
  il (true,e4,())
  else
  let e5:Int:=(wr (x36'+(1:Int)))
  il ((e3==y2.1),e5,()))
  else
  ir (.inl (x7',())))) (false,(0:Int),())) fun (x7_6,_)=>
  (bif (!x7_6) then
  ir (.inl (o0_0_0,o0_0_1,()))
  else
  let e7:Int:=(wr (o0_0_1+(1:Int)))
  il (o0_0_0,e7,()))
  else
  ir (.inl (o0_0_0,o0_0_1,())))) (o0_0,o0_1,())) fun (o0_0_0_8,o0_0_1_8,_)=>
  ck (sb o0_1 o0_0_1_8 o0_0_0_8.size)<|
  let e9:ByteArray:=(o0_0_0_8.extract (Int.toNat o0_1) (Int.toNat o0_0_1_8))
  some (e9,o0_0_0_8,o0_0_1_8,())
noncomputable def lex_scanner_run.F:=stk lex_scanner_run.B
theorem lex_scanner_run.eq:lex_scanner_run.F=lex_scanner_run.B:=stk_eq _
theorem lex_scanner_run.k:Kk lex_of.s [] [] Tryz.f200 lex_scanner_run.d lex_scanner_run.B:={}
noncomputable def lex_scanner_run.s:SpL:=lex_scanner_run.d.e [] lex_scanner_run.F::lex_of.s
theorem lex_scanner_run.c:Ck lex_scanner_run.s []:=cS lex_of.c lex_scanner_run.k
/-! levee/lex.Word -/
def lex_Word.d:Fe:=⟨236,1,⟨[(0,.v false [.str])],[],[],0,[]⟩,⟨[(0,.v false [.bool])],[],[],1000,[]⟩,(.s none .n (.s (some ⟨[],[],[0],0,[]⟩) .n .n))⟩
noncomputable def lex_Word.B:ByteArray×Unit→Option (Bool×Unit):=fun (p0,_)=>
  jn (S:=Unit) (
  (bif (sq p0 (⟨#[]⟩:ByteArray)) then
  ir (false,())
  else
  (bif (decide ((p0.size:Int)>(30:Int))) then
  ir (false,())
  else
  ck (ib (0:Int) p0.size)<|
  let e1:Int:=(byteAt p0 0)
  (lex_of.F (e1,())).bind fun y2=>
  (bif (y2.1 !=(1:Int)) then
  ir (false,())
  else
  il (()))))) fun (_)=>
  (lex_scanner_run.F ([(1:Int),(2:Int),(3:Int)],p0,(0:Int),())).bind fun y4=>
  some ((sq y4.1 p0),())
noncomputable def lex_Word.F:=stk lex_Word.B
theorem lex_Word.eq:lex_Word.F=lex_Word.B:=stk_eq _
theorem lex_Word.k:Kk lex_scanner_run.s [] [] Tryz.f236 lex_Word.d lex_Word.B:={}
noncomputable def lex_Word.s:SpL:=lex_Word.d.e [] lex_Word.F::lex_scanner_run.s
theorem lex_Word.c:Ck lex_Word.s []:=cS lex_scanner_run.c lex_Word.k
/-! levee/value.May -/
def value_May.d:Fe:=⟨105,1,⟨[(0,.v true [.int .i64,.int .i64,.str])],[],[],0,[]⟩,⟨[(0,.v false [.bool])],[],[],1000,[]⟩,.n⟩
noncomputable def value_May.B:Int×Int×ByteArray×Unit→Option (Bool×Unit):=fun (p0_0,p0_1,p0_2,_)=>
  (bif (p0_0==(0:Int)) then
  some ((Ty.eq tValue (p0_0,(p0_1,p0_2)) ((0:Int),((0:Int),(⟨#[]⟩:ByteArray)))),())
  else
  (bif (p0_0==(1:Int)) then
  (bif (p0_1==(0:Int)) then
  some ((sq p0_2 (⟨#[]⟩:ByteArray)),())
  else
  (bif (p0_1==(1:Int)) then
  some ((sq p0_2 (⟨#[]⟩:ByteArray)),())
  else
  some (false,())))
  else
  (bif (p0_0==(2:Int)) then
  some ((sq p0_2 (⟨#[]⟩:ByteArray)),())
  else
  (bif (p0_0==(3:Int)) then
  (bif (p0_1==(0:Int)) then
  some ((decide ((p0_2.size:Int)≤(1000:Int))),())
  else
  some (false,()))
  else
  some (false,())))))
noncomputable def value_May.F:=stk value_May.B
theorem value_May.eq:value_May.F=value_May.B:=stk_eq _
theorem value_May.k:Kk lex_Word.s [] [] Tryz.f105 value_May.d value_May.B:={}
noncomputable def value_May.s:SpL:=value_May.d.e [] value_May.F::lex_Word.s
theorem value_May.c:Ck value_May.s []:=cS lex_Word.c value_May.k
/-! strings.Contains -/
def strings_Contains.d:Fe:=⟨230,2,⟨[(0,.v false [.str]),(1,.v false [.str])],[],[],0,[]⟩,⟨[(0,.v false [.bool])],[],[],1000,[]⟩,.n⟩
noncomputable def strings_Contains.B:TS strings_Contains.d.si→Option (TS strings_Contains.d.so):=containsF
noncomputable def strings_Contains.F:=stk strings_Contains.B
theorem strings_Contains.eq:strings_Contains.F=strings_Contains.B:=stk_eq _
theorem strings_Contains.ok:SpecOk PP 230 ⟨2,strings_Contains.d.si,strings_Contains.d.so,strings_Contains.F⟩:=by
  rw [strings_Contains.eq]
  exact contains_ok
noncomputable def strings_Contains.s:SpL:=strings_Contains.d.e [] strings_Contains.F::value_May.s
theorem strings_Contains.c:Ck strings_Contains.s []:=CxOk.consS value_May.c [] ⟨_,Tryz.func230,by kernel_rfl,by decide⟩ strings_Contains.ok
/-! levee/lex.May -/
def lex_May.d:Fe:=⟨220,1,⟨[(0,.v true [.int .i64,.str,.int .i64,.int .i64,.str])],[],[],0,[]⟩,⟨[(0,.v false [.bool])],[],[],1000,[]⟩,.n⟩
noncomputable def lex_May.B:Int×ByteArray×Int×Int×ByteArray×Unit→Option (Bool×Unit):=fun (p0_0,p0_1,p0_2,p0_3,p0_4,_)=>
  (bif (p0_0==(0:Int)) then
  (lex_Word.F (p0_1,())).bind fun y1=>
  (bif y1.1 then
  some ((Ty.eq tValue (p0_2,(p0_3,p0_4)) ((0:Int),((0:Int),(⟨#[]⟩:ByteArray)))),())
  else
  some (false,()))
  else
  (bif (p0_0==(1:Int)) then
  (bif (sq p0_1 (⟨#[]⟩:ByteArray)) then
  (value_May.F (p0_2,p0_3,p0_4,())).bind fun y2=>
  (bif y2.1 then
  some ((decide (p0_2≥(2:Int))),())
  else
  some (false,()))
  else
  some (false,()))
  else
  (bif (p0_0==(2:Int)) then
  (bif ((p0_1.size:Int)==(1:Int)) then
  (strings_Contains.F ((⟨#[40,41,91,93,44,61,60,43,45,42,63]⟩:ByteArray),p0_1,())).bind fun y3=>
  (bif y3.1 then
  some ((Ty.eq tValue (p0_2,(p0_3,p0_4)) ((0:Int),((0:Int),(⟨#[]⟩:ByteArray)))),())
  else
  some (false,()))
  else
  some (false,()))
  else
  some (false,()))))
noncomputable def lex_May.F:=stk lex_May.B
theorem lex_May.eq:lex_May.F=lex_May.B:=stk_eq _
theorem lex_May.k:Kk strings_Contains.s [] [] Tryz.f220 lex_May.d lex_May.B:={}
noncomputable def lex_May.s:SpL:=lex_May.d.e [] lex_May.F::strings_Contains.s
theorem lex_May.c:Ck lex_May.s []:=cS strings_Contains.c lex_May.k
/-! internal/strconv.FormatBool -/
def internal_strconv_FormatBool.d:Fe:=⟨261,1,⟨[(0,.v false [.bool])],[],[],0,[]⟩,⟨[(0,.v false [.str])],[],[],1000,[]⟩,.n⟩
noncomputable def internal_strconv_FormatBool.B:Bool×Unit→Option (ByteArray×Unit):=fun (p0,_)=>
  (bif p0 then
  some ((⟨#[116,114,117,101]⟩:ByteArray),())
  else
  some ((⟨#[102,97,108,115,101]⟩:ByteArray),()))
noncomputable def internal_strconv_FormatBool.F:=stk internal_strconv_FormatBool.B
theorem internal_strconv_FormatBool.eq:internal_strconv_FormatBool.F=internal_strconv_FormatBool.B:=stk_eq _
theorem internal_strconv_FormatBool.k:Kk lex_May.s [] [] Tryz.f261 internal_strconv_FormatBool.d internal_strconv_FormatBool.B:={}
noncomputable def internal_strconv_FormatBool.s:SpL:=internal_strconv_FormatBool.d.e [] internal_strconv_FormatBool.F::lex_May.s
theorem internal_strconv_FormatBool.c:Ck internal_strconv_FormatBool.s []:=cS lex_May.c internal_strconv_FormatBool.k
/-! strconv.FormatBool -/
def strconv_FormatBool.d:Fe:=⟨249,1,⟨[(0,.v false [.bool])],[],[],0,[]⟩,⟨[(0,.v false [.str])],[],[],1000,[]⟩,.n⟩
noncomputable def strconv_FormatBool.B:Bool×Unit→Option (ByteArray×Unit):=fun (p0,_)=>
  (internal_strconv_FormatBool.F (p0,())).bind fun y1=>
  some (y1.1,())
noncomputable def strconv_FormatBool.F:=stk strconv_FormatBool.B
theorem strconv_FormatBool.eq:strconv_FormatBool.F=strconv_FormatBool.B:=stk_eq _
theorem strconv_FormatBool.k:Kk internal_strconv_FormatBool.s [] [] Tryz.f249 strconv_FormatBool.d strconv_FormatBool.B:={}
noncomputable def strconv_FormatBool.s:SpL:=strconv_FormatBool.d.e [] strconv_FormatBool.F::internal_strconv_FormatBool.s
theorem strconv_FormatBool.c:Ck strconv_FormatBool.s []:=cS internal_strconv_FormatBool.c strconv_FormatBool.k
/-! strings.ReplaceAll -/
def strings_ReplaceAll.d:Fe:=⟨250,3,⟨[(0,.v false [.str]),(1,.v false [.str]),(2,.v false [.str])],[],[],0,[]⟩,⟨[(0,.v false [.str])],[],[],1000,[]⟩,.n⟩
noncomputable def strings_ReplaceAll.B:TS strings_ReplaceAll.d.si→Option (TS strings_ReplaceAll.d.so):=replaceF
noncomputable def strings_ReplaceAll.F:=stk strings_ReplaceAll.B
theorem strings_ReplaceAll.eq:strings_ReplaceAll.F=strings_ReplaceAll.B:=stk_eq _
theorem strings_ReplaceAll.ok:SpecOk PP 250 ⟨3,strings_ReplaceAll.d.si,strings_ReplaceAll.d.so,strings_ReplaceAll.F⟩:=by
  rw [strings_ReplaceAll.eq]
  exact replace_ok
noncomputable def strings_ReplaceAll.s:SpL:=strings_ReplaceAll.d.e [] strings_ReplaceAll.F::strconv_FormatBool.s
theorem strings_ReplaceAll.c:Ck strings_ReplaceAll.s []:=CxOk.consS strconv_FormatBool.c [] ⟨_,Tryz.func250,by kernel_rfl,by decide⟩ strings_ReplaceAll.ok
/-! levee/value.Text -/
def value_Text.d:Fe:=⟨237,1,⟨[(0,.v true [.int .i64,.int .i64,.str])],[],[],0,[]⟩,⟨[(0,.v false [.str])],[],[],1000,[]⟩,.n⟩
noncomputable def value_Text.B:Int×Int×ByteArray×Unit→Option (ByteArray×Unit):=fun (p0_0,p0_1,p0_2,_)=>
  (bif (p0_0==(0:Int)) then
  some ((⟨#[110,117,108,108]⟩:ByteArray),())
  else
  (bif (p0_0==(1:Int)) then
  (strconv_FormatBool.F ((p0_1 !=(0:Int)),())).bind fun y1=>
  some (y1.1,())
  else
  (bif (p0_0==(2:Int)) then
  (strconv_Itoa.F (p0_1,())).bind fun y2=>
  some (y2.1,())
  else
  (bif (p0_0==(3:Int)) then
  (strings_ReplaceAll.F (p0_2,(⟨#[39]⟩:ByteArray),(⟨#[39,39]⟩:ByteArray),())).bind fun y3=>
  ck (ca (⟨#[39]⟩:ByteArray) y3.1)<|
  let e4:ByteArray:=((⟨#[39]⟩:ByteArray)++y3.1)
  ck (ca e4 (⟨#[39]⟩:ByteArray))<|
  let e5:ByteArray:=(e4++(⟨#[39]⟩:ByteArray))
  some (e5,())
  else
  some ((⟨#[63]⟩:ByteArray),())))))
noncomputable def value_Text.F:=stk value_Text.B
theorem value_Text.eq:value_Text.F=value_Text.B:=stk_eq _
theorem value_Text.k:Kk strings_ReplaceAll.s [] [] Tryz.f237 value_Text.d value_Text.B:={}
noncomputable def value_Text.s:SpL:=value_Text.d.e [] value_Text.F::strings_ReplaceAll.s
theorem value_Text.c:Ck value_Text.s []:=cS strings_ReplaceAll.c value_Text.k
/-! strings.Join -/
def strings_Join.d:Fe:=⟨143,2,⟨[(0,.v false [.sl 9 .str]),(1,.v false [.str])],[],[],0,[]⟩,⟨[(0,.v false [.str])],[],[],1000,[]⟩,.n⟩
noncomputable def strings_Join.B:TS strings_Join.d.si→Option (TS strings_Join.d.so):=fun (xs,sep,_)=>if xs.length≤140737488355328∧(joinB xs sep).size≤140737488355328 then some (joinB xs sep,()) else none
noncomputable def strings_Join.F:=stk strings_Join.B
theorem strings_Join.eq:strings_Join.F=strings_Join.B:=stk_eq _
theorem strings_Join.ok:SpecOk PP 143 ⟨2,strings_Join.d.si,strings_Join.d.so,strings_Join.F⟩:=by
  rw [strings_Join.eq]
  exact join_ok
noncomputable def strings_Join.s:SpL:=strings_Join.d.e [] strings_Join.F::value_Text.s
theorem strings_Join.c:Ck strings_Join.s []:=CxOk.consS value_Text.c [] ⟨_,Tryz.func143,by kernel_rfl,by decide⟩ strings_Join.ok
/-! levee/lex.Print -/
def lex_Print.d:Fe:=⟨221,1,⟨[(0,.v false [.sl 136 tTok])],[],[],0,[]⟩,⟨[(0,.v false [.str])],[],[],1000,[]⟩,(.s none .n (.s none .n (.s (some ⟨[(3,.v false [.ref 0])],[(0,false,.arr 9 .str)],[],1,[]⟩) (.s none .n (.b (.l ⟨[(3,.v false [.ref 0]),(8,.v false [.int .i64])],[(0,false,.arr 9 .str)],[6,7],1,[]⟩ .n))) .n)))⟩
noncomputable def lex_Print.B:(List tTokT)×Unit→Option (ByteArray×Unit):=fun (p0,_)=>
  jn (S:=(List ByteArray)×Unit) (
  loopM (S:=Int×(List ByteArray)×Unit) (fun (x8,o3_0,_)=>
  (bif (decide (x8<(p0.length:Int))) then
  ck (ib x8 p0.length)<|
  let e1:tTokT:=(gt p0 x8 tTok.z)
  (lex_May.F (e1.1,e1.2.1,e1.2.2.1,e1.2.2.2.1,e1.2.2.2.2,())).bind fun y2=>
  (bif (!y2.1) then
  ir (.inr ((⟨#[]⟩:ByteArray),()))
  else
  (bif (e1.1==(1:Int)) then
  (value_Text.F (e1.2.2.1,e1.2.2.2.1,e1.2.2.2.2,())).bind fun y3=>
  ck (Nat.ble (o3_0.length+ [y3.1].length) 8796093022208)<|
  let e4:Int:=(wr (x8+(1:Int)))
  il (e4,(o3_0++ [y3.1]),())
  else
  ck (Nat.ble (o3_0.length+ [e1.2.1].length) 8796093022208)<|
  let e5:Int:=(wr (x8+(1:Int)))
  il (e5,(o3_0++ [e1.2.1]),())))
  else
  ir (.inl (o3_0,())))) ((0:Int),[],())) fun (o3_0_6,_)=>
  (strings_Join.F (o3_0_6,(⟨#[32]⟩:ByteArray),())).bind fun y7=>
  some (y7.1,())
noncomputable def lex_Print.F:=stk lex_Print.B
theorem lex_Print.eq:lex_Print.F=lex_Print.B:=stk_eq _
theorem lex_Print.k:Kk strings_Join.s [] [] Tryz.f221 lex_Print.d lex_Print.B:={}
noncomputable def lex_Print.s:SpL:=lex_Print.d.e [] lex_Print.F::strings_Join.s
theorem lex_Print.c:Ck lex_Print.s []:=cS strings_Join.c lex_Print.k
/-! levee/ddl.constant -/
def ddl_constant.d:Fe:=⟨196,1,⟨[(0,.v true [.int .i64,.int .i64,.str])],[],[],0,[]⟩,⟨[(0,.v false [.str])],[],[],1000,[]⟩,.n⟩
noncomputable def ddl_constant.B:TS ddl_constant.d.si→Option (TS ddl_constant.d.so):=fun (a,b,s,_)=>
  let e:ByteArray:=(⟨#[]⟩:ByteArray)
  bif (a==(0:Int))&&(b==(0:Int))&&(s==e) then some ((⟨#[110,117,108,108]⟩:ByteArray),())
  else bif (a==(1:Int))&&(b==(0:Int))&&(s==e) then some ((⟨#[102,97,108,115,101]⟩:ByteArray),())
  else bif (a==(1:Int))&&(b==(1:Int))&&(s==e) then some ((⟨#[116,114,117,101]⟩:ByteArray),())
  else Option.bind (lex_May.F ((1:Int),e,a,b,s,())) fun y=>
  bif (!y.1) then some ((⟨#[33]⟩:ByteArray),()) else Option.bind (lex_Print.F ([((1:Int),e,a,b,s)],())) fun z=>some (z.1,())
noncomputable def ddl_constant.F:=stk ddl_constant.B
theorem ddl_constant.eq:ddl_constant.F=ddl_constant.B:=stk_eq _
theorem ddl_constant.ok:SpecOk PP 196 ⟨1,ddl_constant.d.si,ddl_constant.d.so,ddl_constant.F⟩:=by
  rw [ddl_constant.eq]
  exact const_ok2 lex_Print.c (drawnOk lex_Print.c mixed) .n (fun a b s=>Option.bind (lex_May.F ((1:Int),(⟨#[]⟩:ByteArray),a,b,s,())) fun y=>bif (!y.1) then some ((⟨#[33]⟩:ByteArray),()) else Option.bind (lex_Print.F ([((1:Int),(⟨#[]⟩:ByteArray),a,b,s)],())) fun z=>some (z.1,())) (fun a b s=>by kernel_rfl)
noncomputable def ddl_constant.s:SpL:=ddl_constant.d.e [] ddl_constant.F::lex_Print.s
theorem ddl_constant.c:Ck ddl_constant.s []:=CxOk.consS lex_Print.c [] ⟨_,Tryz.func196,by kernel_rfl,by decide⟩ ddl_constant.ok
/-! (*levee/ddl.printer).expr -/
def ddl_printer_expr.d:Fe:=⟨165,2,⟨[(0,.v false [.ptr 0 0]),(1,.v false [.sl 77 tNode])],[(0,true,.box 183 [.ref 1]),(1,true,.arr 9 .str)],[],2,[]⟩,⟨[(0,.tup [])],[(0,true,.box 183 [.ref 1001]),(1001,false,.arr 9 .str)],[],1002,[(0,0)]⟩,(.s none .n (.s (some ⟨[(0,.v false [.ptr 0 0])],[(0,true,.box 183 [.ref 1]),(1,false,.arr 9 .str)],[],2,[]⟩) (.s none .n (.b (.l ⟨[(0,.v false [.ptr 0 0]),(11,.v false [.int .i64])],[(0,true,.box 183 [.ref 1]),(1,false,.arr 9 .str)],[9,10],2,[]⟩ .n))) .n))⟩
noncomputable def ddl_printer_expr.B:(List tNodeT)×(List ByteArray)×Unit→Option ((List ByteArray)×Unit):=fun (p1,o0_0,_)=>
  (ddl_printer_add.F ([(⟨#[91]⟩:ByteArray)],o0_0,())).bind fun y1=>
  jn (S:=(List ByteArray)×Unit) (
  loopM (S:=Int×(List ByteArray)×Unit) (fun (x11,o0_0_0,_)=>
  (bif (decide (x11<(p1.length:Int))) then
  ck (ib x11 p1.length)<|
  let e2:tNodeT:=(gt p1 x11 tNode.z)
  (bif (e2.1==(0:Int)) then
  (strconv_Itoa.F (e2.2.1,())).bind fun y3=>
  ck (ca (⟨#[99]⟩:ByteArray) y3.1)<|
  let e4:ByteArray:=((⟨#[99]⟩:ByteArray)++y3.1)
  (ddl_printer_add.F ([e4],o0_0_0,())).bind fun y5=>
  let e6:Int:=(wr (x11+(1:Int)))
  il (e6,y5.1,())
  else
  (bif (e2.1==(1:Int)) then
  (ddl_constant.F (e2.2.2.1,e2.2.2.2.1,e2.2.2.2.2,())).bind fun y7=>
  (ddl_printer_add.F ([y7.1],o0_0_0,())).bind fun y8=>
  let e9:Int:=(wr (x11+(1:Int)))
  il (e9,y8.1,())
  else
  let e10:Int:=(wr (e2.1-(2:Int)))
  (ddl_word.F (e10,[(⟨#[43]⟩:ByteArray),(⟨#[45]⟩:ByteArray),(⟨#[42]⟩:ByteArray),(⟨#[61]⟩:ByteArray),(⟨#[60]⟩:ByteArray),(⟨#[97,110,100]⟩:ByteArray),(⟨#[111,114]⟩:ByteArray),(⟨#[110,111,116]⟩:ByteArray),(⟨#[110,117,108,108,32,63]⟩:ByteArray)],())).bind fun y11=>
  (ddl_printer_add.F ([y11.1],o0_0_0,())).bind fun y12=>
  let e13:Int:=(wr (x11+(1:Int)))
  il (e13,y12.1,())))
  else
  ir (.inl (o0_0_0,())))) ((0:Int),y1.1,())) fun (o0_0_0_14,_)=>
  (ddl_printer_add.F ([(⟨#[93]⟩:ByteArray)],o0_0_0_14,())).bind fun y15=>
  some (y15.1,())
noncomputable def ddl_printer_expr.F:=stk ddl_printer_expr.B
theorem ddl_printer_expr.eq:ddl_printer_expr.F=ddl_printer_expr.B:=stk_eq _
theorem ddl_printer_expr.k:Kk ddl_constant.s [] [] Tryz.f165 ddl_printer_expr.d ddl_printer_expr.B:={}
noncomputable def ddl_printer_expr.s:SpL:=ddl_printer_expr.d.e [] ddl_printer_expr.F::ddl_constant.s
theorem ddl_printer_expr.c:Ck ddl_printer_expr.s []:=cS ddl_constant.c ddl_printer_expr.k
/-! (*levee/ddl.printer).table -/
def ddl_printer_table.d:Fe:=⟨141,2,⟨[(0,.v false [.ptr 0 0]),(1,.v true [.str,.sl 43 tColumn,.sl 63 (.sl 77 tNode)])],[(0,true,.box 183 [.ref 1]),(1,true,.arr 9 .str)],[],2,[]⟩,⟨[(0,.tup [])],[(0,true,.box 183 [.ref 1001]),(1001,false,.arr 9 .str)],[],1002,[(0,0)]⟩,(.s none .n (.s none .n (.s none .n (.s none .n (.s none .n (.b (.l ⟨[(2,.v false [.ptr 0 0]),(23,.v false [.int .i64])],[(0,true,.box 181 [.ptr 1 0]),(1,true,.box 183 [.ref 2]),(2,false,.arr 9 .str)],[21,22],3,[]⟩ .n)))))))⟩
noncomputable def ddl_printer_table.l:InT:=[(161,[(2,162)],Tryz.f161,(.s none .n (.b (.l ⟨[(0,.v false [.ptr 0 0]),(8,.v false [.int .i64])],[(0,true,.box 183 [.ref 1]),(1,false,.arr 9 .str)],[2,7],2,[]⟩ (.s none .n (.s none .n (.s (some ⟨[(0,.v false [.ptr 0 0])],[(0,true,.box 183 [.ref 1]),(1,false,.arr 9 .str)],[2,7,8],2,[]⟩) .n .n))))))),(162,[],Tryz.f162,.n)]
noncomputable def ddl_printer_table.B:ByteArray×(List tColumnT)×(List (List tNodeT))×(List ByteArray)×Unit→Option ((List ByteArray)×Unit):=fun (p1_0,p1_1,p1_2,o0_0,_)=>
  (ddl_printer_add.F ([(⟨#[116,97,98,108,101]⟩:ByteArray),p1_0,(⟨#[40]⟩:ByteArray)],o0_0,())).bind fun y1=>
  loopM (S:=Int×(List ByteArray)×Unit) (fun (x8,o0_0_0,_)=>
  (bif (decide (x8<(p1_1.length:Int))) then
  jn (S:=(List ByteArray)×Unit) (
  (ddl_printer_addIf.F ((decide (x8>(0:Int))),[(⟨#[44]⟩:ByteArray)],o0_0_0,())).bind fun y2=>
  ck (ib x8 p1_1.length)<|
  let e3:tColumnT:=(gt p1_1 x8 tColumn.z)
  let e4:Int:=(wr (e3.2.1-(1:Int)))
  (ddl_word.F (e4,[(⟨#[98,111,111,108]⟩:ByteArray),(⟨#[105,110,116]⟩:ByteArray),(⟨#[116,101,120,116]⟩:ByteArray)],())).bind fun y5=>
  (ddl_printer_add.F ([e3.1,y5.1],y2.1,())).bind fun y6=>
  (ddl_printer_addIf.F (e3.2.2.1,[(⟨#[110,117,108,108]⟩:ByteArray)],y6.1,())).bind fun y7=>
  (ddl_printer_addIf.F (e3.2.2.2.1,[(⟨#[117,110,105,113,117,101]⟩:ByteArray)],y7.1,())).bind fun y8=>
  (ddl_word.F (e3.2.2.2.2.2,[(⟨#[114,101,115,116,114,105,99,116]⟩:ByteArray),(⟨#[99,97,115,99,97,100,101]⟩:ByteArray),(⟨#[115,101,116,110,117,108,108]⟩:ByteArray)],())).bind fun y9=>
  (ddl_printer_addIf.F ((!sq e3.2.2.2.2.1 (⟨#[]⟩:ByteArray)),[(⟨#[114,101,102]⟩:ByteArray),e3.2.2.2.2.1,y9.1],y8.1,())).bind fun y10=>
  il (y10.1,())) fun (o0_0_0_11,_)=>
  let e12:Int:=(wr (x8+(1:Int)))
  il (e12,o0_0_0_11,())
  else
  Option.map Sum.inr ((ddl_printer_add.F ([(⟨#[41]⟩:ByteArray)],o0_0_0,())).bind fun y13=>
  loopM (S:=Int×(List ByteArray)×Unit) (fun (x23,o2_0_0_0,_)=>
  (bif (decide (x23<(p1_2.length:Int))) then
  ck (ib x23 p1_2.length)<|
  let e14:(List tNodeT):=(gt p1_2 x23 [])
  (ddl_printer_add.F ([(⟨#[99,104,101,99,107]⟩:ByteArray)],o2_0_0_0,())).bind fun y15=>
  (ddl_printer_expr.F (e14,y15.1,())).bind fun y16=>
  let e17:Int:=(wr (x23+(1:Int)))
  il (e17,y16.1,())
  else
  ir (o2_0_0_0,()))) ((0:Int),y13.1,())))) ((0:Int),y1.1,())
noncomputable def ddl_printer_table.F:=stk ddl_printer_table.B
theorem ddl_printer_table.eq:ddl_printer_table.F=ddl_printer_table.B:=stk_eq _
theorem ddl_printer_table.k:Kk ddl_printer_expr.s [] ddl_printer_table.l Tryz.f141 ddl_printer_table.d ddl_printer_table.B:={}
noncomputable def ddl_printer_table.s:SpL:=ddl_printer_table.d.e [] ddl_printer_table.F::ddl_printer_expr.s
theorem ddl_printer_table.c:Ck ddl_printer_table.s []:=cS ddl_printer_expr.c ddl_printer_table.k
/-! (*levee/ddl.printer).view -/
def ddl_printer_view.d:Fe:=⟨142,2,⟨[(0,.v false [.ptr 0 0]),(1,.v true [.str,.str,.str,.int .i64,.int .i64,.sl 77 tNode,.sl 3 (.int .i64),.bool,.sl 103 tAgg])],[(0,true,.box 183 [.ref 1]),(1,true,.arr 9 .str)],[],2,[]⟩,⟨[(0,.tup [])],[(0,true,.box 183 [.ref 1001]),(1001,false,.arr 9 .str)],[],1002,[(0,0)]⟩,(.s none .n (.s none .n (.s none .n (.s (some ⟨[(2,.v false [.ptr 0 0])],[(0,true,.box 181 [.ptr 1 0]),(1,true,.box 183 [.ref 2]),(2,false,.arr 9 .str)],[3,4],3,[]⟩) .n (.s (some ⟨[(2,.v false [.ptr 0 0])],[(0,true,.box 181 [.ptr 1 0]),(1,true,.box 183 [.ref 2]),(2,false,.arr 9 .str)],[3,4],3,[]⟩) .n .n)))))⟩
noncomputable def ddl_printer_view.l:InT:=[(161,[(2,167)],Tryz.f161,(.s none .n (.b (.l ⟨[(0,.v false [.ptr 0 0]),(8,.v false [.int .i64])],[(0,true,.box 183 [.ref 1]),(1,false,.arr 9 .str)],[2,7],2,[]⟩ (.s none .n (.s none .n (.s (some ⟨[(0,.v false [.ptr 0 0])],[(0,true,.box 183 [.ref 1]),(1,false,.arr 9 .str)],[2,7,8],2,[]⟩) .n .n))))))),(161,[(2,168)],Tryz.f161,(.s none .n (.b (.l ⟨[(0,.v false [.ptr 0 0]),(8,.v false [.int .i64])],[(0,true,.box 183 [.ref 1]),(1,false,.arr 9 .str)],[2,7],2,[]⟩ (.s none .n (.s none .n (.s (some ⟨[(0,.v false [.ptr 0 0])],[(0,true,.box 183 [.ref 1]),(1,false,.arr 9 .str)],[2,7,8],2,[]⟩) .n .n))))))),(167,[],Tryz.f167,.n),(168,[],Tryz.f168,.n)]
noncomputable def ddl_printer_view.B:ByteArray×ByteArray×ByteArray×Int×Int×(List tNodeT)×(List Int)×Bool×(List tAggT)×(List ByteArray)×Unit→Option ((List ByteArray)×Unit):=fun (p1_0,p1_1,p1_2,p1_3,p1_4,p1_5,p1_6,p1_7,p1_8,o0_0,_)=>
  (ddl_printer_add.F ([(⟨#[118,105,101,119]⟩:ByteArray),p1_0,(⟨#[102,114,111,109]⟩:ByteArray),p1_1],o0_0,())).bind fun y1=>
  jn (S:=(List ByteArray)×Unit) (
  ck (ib (0:Int) 2)<|
  (strconv_Itoa.F (p1_3,())).bind fun y2=>
  ck (ib (1:Int) 2)<|
  (strconv_Itoa.F (p1_4,())).bind fun y3=>
  (ddl_printer_addIf.F ((!sq p1_2 (⟨#[]⟩:ByteArray)),[(⟨#[106,111,105,110]⟩:ByteArray),p1_2,(⟨#[111,110]⟩:ByteArray),y2.1,(⟨#[61]⟩:ByteArray),y3.1],y1.1,())).bind fun y4=>
  il (y4.1,())) fun (o2_0_0_0_5,_)=>
  jn (S:=(List ByteArray)×Unit) (
  (bif (decide ((p1_5.length:Int)>(0:Int))) then
  (ddl_printer_add.F ([(⟨#[119,104,101,114,101]⟩:ByteArray)],o2_0_0_0_5,())).bind fun y6=>
  (ddl_printer_expr.F (p1_5,y6.1,())).bind fun y7=>
  il (y7.1,())
  else
  il (o2_0_0_0_5,()))) fun (o2_0_0_0_8,_)=>
  (ddl_printer_add.F ([(⟨#[112,105,99,107]⟩:ByteArray)],o2_0_0_0_8,())).bind fun y9=>
  loopM (S:=Int×(List ByteArray)×Unit) (fun (x8,o0_0_0,_)=>
  (bif (decide (x8<(p1_6.length:Int))) then
  jn (S:=(List ByteArray)×Unit) (
  (ddl_printer_addIf.F ((decide (x8>(0:Int))),[(⟨#[44]⟩:ByteArray)],o0_0_0,())).bind fun y10=>
  ck (ib x8 p1_6.length)<|
  let e11:Int:=(gt p1_6 x8 (0:Int))
  (strconv_Itoa.F (e11,())).bind fun y12=>
  (ddl_printer_add.F ([y12.1],y10.1,())).bind fun y13=>
  il (y13.1,())) fun (o0_0_0_14,_)=>
  let e15:Int:=(wr (x8+(1:Int)))
  il (e15,o0_0_0_14,())
  else
  Option.map Sum.inr ((ddl_printer_addIf.F (p1_7,[(⟨#[103,114,111,117,112]⟩:ByteArray)],o0_0_0,())).bind fun y16=>
  loopM (S:=Int×(List ByteArray)×Unit) (fun (x8,o0_0_0,_)=>
  (bif (decide (x8<(p1_8.length:Int))) then
  jn (S:=(List ByteArray)×Unit) (
  (ddl_printer_addIf.F ((decide (x8>(0:Int))),[(⟨#[44]⟩:ByteArray)],o0_0_0,())).bind fun y17=>
  ck (ib x8 p1_8.length)<|
  let e18:tAggT:=(gt p1_8 x8 tAgg.z)
  (ddl_word.F (e18.1,[(⟨#[99,111,117,110,116]⟩:ByteArray),(⟨#[115,117,109]⟩:ByteArray),(⟨#[109,105,110]⟩:ByteArray),(⟨#[109,97,120]⟩:ByteArray)],())).bind fun y19=>
  (ddl_printer_add.F ([y19.1],y17.1,())).bind fun y20=>
  (strconv_Itoa.F (e18.2,())).bind fun y21=>
  (ddl_printer_addIf.F ((e18.1 !=(0:Int)),[y21.1],y20.1,())).bind fun y22=>
  il (y22.1,())) fun (o0_0_0_23,_)=>
  let e24:Int:=(wr (x8+(1:Int)))
  il (e24,o0_0_0_23,())
  else
  ir (o0_0_0,()))) ((0:Int),y16.1,())))) ((0:Int),y9.1,())
noncomputable def ddl_printer_view.F:=stk ddl_printer_view.B
theorem ddl_printer_view.eq:ddl_printer_view.F=ddl_printer_view.B:=stk_eq _
theorem ddl_printer_view.k:Kk ddl_printer_table.s [] ddl_printer_view.l Tryz.f142 ddl_printer_view.d ddl_printer_view.B:={}
noncomputable def ddl_printer_view.s:SpL:=ddl_printer_view.d.e [] ddl_printer_view.F::ddl_printer_table.s
theorem ddl_printer_view.c:Ck ddl_printer_view.s []:=cS ddl_printer_table.c ddl_printer_view.k
/-! (*levee/lex.scanner).peek -/
def lex_scanner_peek.d:Fe:=⟨226,2,⟨[(0,.v false [.ptr 0 0]),(1,.v false [.int .i64])],[(0,true,.box 239 [.str,.int .i64])],[],1,[]⟩,⟨[(0,.v false [.int .u8])],[(0,true,.box 239 [.str,.int .i64])],[],1001,[(0,0)]⟩,.n⟩
noncomputable def lex_scanner_peek.B:Int×ByteArray×Int×Unit→Option (Int×ByteArray×Int×Unit):=fun (p1,o0_0,o0_1,_)=>
  let e1:Int:=(wr (o0_1+p1))
  (bif (decide (e1≥(o0_0.size:Int))) then
  some ((0:Int),o0_0,o0_1,())
  else
  let e2:Int:=(wr (o0_1+p1))
  ck (ib e2 o0_0.size)<|
  let e3:Int:=(byteAt o0_0 (Int.toNat e2))
  some (e3,o0_0,o0_1,()))
noncomputable def lex_scanner_peek.F:=stk lex_scanner_peek.B
theorem lex_scanner_peek.eq:lex_scanner_peek.F=lex_scanner_peek.B:=stk_eq _
theorem lex_scanner_peek.k:Kk ddl_printer_view.s [] [] Tryz.f226 lex_scanner_peek.d lex_scanner_peek.B:={}
noncomputable def lex_scanner_peek.s:SpL:=lex_scanner_peek.d.e [] lex_scanner_peek.F::ddl_printer_view.s
theorem lex_scanner_peek.c:Ck lex_scanner_peek.s []:=cS ddl_printer_view.c lex_scanner_peek.k
/-! (*levee/lex.scanner).word -/
def lex_scanner_word.d:Fe:=⟨227,1,⟨[(0,.v false [.ptr 0 0])],[(0,true,.box 239 [.str,.int .i64])],[],1,[]⟩,⟨[(0,.tup [(true,[.int .i64,.str,.int .i64,.int .i64,.str]),(false,[.bool])])],[(0,true,.box 239 [.str,.int .i64])],[],1001,[(0,0)]⟩,.n⟩
noncomputable def lex_scanner_word.B:ByteArray×Int×Unit→Option (Int×ByteArray×Int×Int×ByteArray×Bool×ByteArray×Int×Unit):=fun (o0_0,o0_1,_)=>
  (lex_scanner_run.F ([(1:Int),(2:Int),(3:Int)],o0_0,o0_1,())).bind fun y1=>
  some ((0:Int),y1.1,(0:Int),(0:Int),(⟨#[]⟩:ByteArray),(decide ((y1.1.size:Int)≤(30:Int))),y1.2.1,y1.2.2.1,())
noncomputable def lex_scanner_word.F:=stk lex_scanner_word.B
theorem lex_scanner_word.eq:lex_scanner_word.F=lex_scanner_word.B:=stk_eq _
theorem lex_scanner_word.k:Kk lex_scanner_peek.s [] [] Tryz.f227 lex_scanner_word.d lex_scanner_word.B:={}
noncomputable def lex_scanner_word.s:SpL:=lex_scanner_word.d.e [] lex_scanner_word.F::lex_scanner_peek.s
theorem lex_scanner_word.c:Ck lex_scanner_word.s []:=cS lex_scanner_peek.c lex_scanner_word.k
/-! strconv.Atoi -/
def strconv_Atoi.d:Fe:=⟨242,1,⟨[(0,.v false [.str])],[],[],0,[]⟩,⟨[(0,.tup [(false,[.int .i64]),(false,[.ifc])])],[],[],1000,[]⟩,.n⟩
noncomputable def strconv_Atoi.B:TS strconv_Atoi.d.si→Option (TS strconv_Atoi.d.so):=atoiF
noncomputable def strconv_Atoi.F:=stk strconv_Atoi.B
theorem strconv_Atoi.eq:strconv_Atoi.F=strconv_Atoi.B:=stk_eq _
theorem strconv_Atoi.ok:SpecOk PP 242 ⟨1,strconv_Atoi.d.si,strconv_Atoi.d.so,strconv_Atoi.F⟩:=by
  rw [strconv_Atoi.eq]
  exact atoi_ok
noncomputable def strconv_Atoi.s:SpL:=strconv_Atoi.d.e [] strconv_Atoi.F::lex_scanner_word.s
theorem strconv_Atoi.c:Ck strconv_Atoi.s []:=CxOk.consS lex_scanner_word.c [] ⟨_,Tryz.func242,by kernel_rfl,by decide⟩ strconv_Atoi.ok
/-! (*levee/lex.scanner).number -/
def lex_scanner_number.d:Fe:=⟨228,1,⟨[(0,.v false [.ptr 0 0])],[(0,true,.box 239 [.str,.int .i64])],[],1,[]⟩,⟨[(0,.tup [(true,[.int .i64,.str,.int .i64,.int .i64,.str]),(false,[.bool])])],[(0,true,.box 239 [.str,.int .i64])],[],1001,[(0,0)]⟩,(.s none .n (.s none .n (.s (some ⟨[(0,.v false [.ptr 0 0]),(4,.v false [.str])],[(0,true,.box 239 [.str,.int .i64])],[2],1,[]⟩) .n .n)))⟩
noncomputable def lex_scanner_number.B:ByteArray×Int×Unit→Option (Int×ByteArray×Int×Int×ByteArray×Bool×ByteArray×Int×Unit):=fun (o0_0,o0_1,_)=>
  jn (S:=ByteArray×ByteArray×Int×Unit) (
  (lex_scanner_peek.F ((0:Int),o0_0,o0_1,())).bind fun y1=>
  (bif (y1.1==(45:Int)) then
  let e2:Int:=(wr (y1.2.2.1+(1:Int)))
  il ((⟨#[45]⟩:ByteArray),y1.2.1,e2,())
  else
  il ((⟨#[]⟩:ByteArray),y1.2.1,y1.2.2.1,()))) fun (x4_3,o0_0_0_3,o0_0_1_3,_)=>
  (lex_scanner_run.F ([(2:Int)],o0_0_0_3,o0_0_1_3,())).bind fun y4=>
  ck (ca x4_3 y4.1)<|
  let e5:ByteArray:=(x4_3++y4.1)
  (strconv_Atoi.F (e5,())).bind fun y6=>
  (bif y6.2.1 then
  (strconv_Itoa.F (y6.1,())).bind fun y7=>
  some ((1:Int),(⟨#[]⟩:ByteArray),(2:Int),y6.1,(⟨#[]⟩:ByteArray),(sq y7.1 e5),y4.2.1,y4.2.2.1,())
  else
  some ((1:Int),(⟨#[]⟩:ByteArray),(2:Int),y6.1,(⟨#[]⟩:ByteArray),false,y4.2.1,y4.2.2.1,()))
noncomputable def lex_scanner_number.F:=stk lex_scanner_number.B
theorem lex_scanner_number.eq:lex_scanner_number.F=lex_scanner_number.B:=stk_eq _
theorem lex_scanner_number.k:Kk strconv_Atoi.s [] [] Tryz.f228 lex_scanner_number.d lex_scanner_number.B:={}
noncomputable def lex_scanner_number.s:SpL:=lex_scanner_number.d.e [] lex_scanner_number.F::strconv_Atoi.s
theorem lex_scanner_number.c:Ck lex_scanner_number.s []:=cS strconv_Atoi.c lex_scanner_number.k
/-! (*strings.Builder).String -/
def strings_Builder_String.d:Fe:=⟨171,1,⟨[(0,.v false [.ptr 0 0])],[(0,true,.box 205 [.np 0,.ref 1]),(1,true,.arr 5 (.int .u8))],[],2,[]⟩,⟨[(0,.v false [.str])],[],[],1000,[]⟩,.n⟩
noncomputable def strings_Builder_String.B:TS strings_Builder_String.d.si→Option (TS strings_Builder_String.d.so):=fun (bs,_)=>if (∀x∈bs,0≤x∧x<256) then some (bytesOf bs,()) else none
noncomputable def strings_Builder_String.F:=stk strings_Builder_String.B
theorem strings_Builder_String.eq:strings_Builder_String.F=strings_Builder_String.B:=stk_eq _
theorem strings_Builder_String.ok:SpecOk PP 171 ⟨1,strings_Builder_String.d.si,strings_Builder_String.d.so,strings_Builder_String.F⟩:=by
  rw [strings_Builder_String.eq]
  exact string_ok
noncomputable def strings_Builder_String.s:SpL:=strings_Builder_String.d.e [] strings_Builder_String.F::lex_scanner_number.s
theorem strings_Builder_String.c:Ck strings_Builder_String.s []:=CxOk.consS lex_scanner_number.c [] ⟨_,Tryz.func171,by kernel_rfl,by decide⟩ strings_Builder_String.ok
/-! (*strings.Builder).copyCheck -/
def strings_Builder_copyCheck.d:Fe:=⟨198,1,⟨[(0,.v false [.ptr 0 0])],[(0,true,.box 205 [.np 0,.ref 1]),(1,true,.arr 5 (.int .u8))],[],2,[]⟩,⟨[(0,.tup [])],[(0,true,.box 205 [.np 0,.ref 1000]),(1000,true,.arr 5 (.int .u8))],[],1001,[]⟩,.n⟩
noncomputable def strings_Builder_copyCheck.B:TS strings_Builder_copyCheck.d.si→Option (TS strings_Builder_copyCheck.d.so):=fun (bs,_)=>some (bs,())
noncomputable def strings_Builder_copyCheck.F:=stk strings_Builder_copyCheck.B
theorem strings_Builder_copyCheck.eq:strings_Builder_copyCheck.F=strings_Builder_copyCheck.B:=stk_eq _
theorem strings_Builder_copyCheck.ok:SpecOk PP 198 ⟨1,strings_Builder_copyCheck.d.si,strings_Builder_copyCheck.d.so,strings_Builder_copyCheck.F⟩:=by
  rw [strings_Builder_copyCheck.eq]
  exact check_ok
noncomputable def strings_Builder_copyCheck.s:SpL:=strings_Builder_copyCheck.d.e [] strings_Builder_copyCheck.F::strings_Builder_String.s
theorem strings_Builder_copyCheck.c:Ck strings_Builder_copyCheck.s []:=CxOk.consS strings_Builder_String.c [] ⟨_,Tryz.func198,by kernel_rfl,by decide⟩ strings_Builder_copyCheck.ok
/-! (*strings.Builder).WriteByte -/
def strings_Builder_WriteByte.d:Fe:=⟨243,2,⟨[(0,.v false [.ptr 0 0]),(1,.v false [.int .u8])],[(0,true,.box 205 [.np 0,.ref 1]),(1,true,.arr 5 (.int .u8))],[],2,[]⟩,⟨[(0,.v false [.ifc])],[(0,true,.box 205 [.np 0,.ref 1001]),(1001,false,.arr 5 (.int .u8))],[],1002,[(0,0)]⟩,.n⟩
noncomputable def strings_Builder_WriteByte.B:Int×(List Int)×Unit→Option (Bool×(List Int)×Unit):=fun (p1,o0_1,_)=>
  (strings_Builder_copyCheck.F (o0_1,())).bind fun y1=>
  ck (Nat.ble (y1.1.length+ [p1].length) 140737488355328)<|
  some (true,(y1.1++ [p1]),())
noncomputable def strings_Builder_WriteByte.F:=stk strings_Builder_WriteByte.B
theorem strings_Builder_WriteByte.eq:strings_Builder_WriteByte.F=strings_Builder_WriteByte.B:=stk_eq _
theorem strings_Builder_WriteByte.k:Kk strings_Builder_copyCheck.s [] [] Tryz.f243 strings_Builder_WriteByte.d strings_Builder_WriteByte.B:={}
noncomputable def strings_Builder_WriteByte.s:SpL:=strings_Builder_WriteByte.d.e [] strings_Builder_WriteByte.F::strings_Builder_copyCheck.s
theorem strings_Builder_WriteByte.c:Ck strings_Builder_WriteByte.s []:=cS strings_Builder_copyCheck.c strings_Builder_WriteByte.k
/-! (*levee/lex.scanner).text -/
def lex_scanner_text.d:Fe:=⟨229,1,⟨[(0,.v false [.ptr 0 0])],[(0,true,.box 239 [.str,.int .i64])],[],1,[]⟩,⟨[(0,.tup [(true,[.int .i64,.str,.int .i64,.int .i64,.str]),(false,[.bool])])],[(0,true,.box 239 [.str,.int .i64])],[],1001,[(0,0)]⟩,(.s none .n (.s none .n (.s (some ⟨[],[(0,true,.box 239 [.str,.int .i64]),(1,true,.box 205 [.np 1,.ref 2]),(2,false,.arr 5 (.int .u8))],[2],3,[(0,0),(1,1001)]⟩) (.s none .n (.b (.l ⟨[(0,.v false [.ptr 0 0]),(4,.v false [.ptr 1 0])],[(0,true,.box 239 [.str,.int .i64]),(1,true,.box 205 [.np 1,.ref 2]),(2,false,.arr 5 (.int .u8))],[2],3,[]⟩ (.s none .n (.s (some ⟨[(0,.v false [.ptr 0 0]),(4,.v false [.ptr 1 0])],[(0,true,.box 239 [.str,.int .i64]),(1,true,.box 205 [.np 1,.ref 2]),(2,false,.arr 5 (.int .u8))],[2],3,[]⟩) .n .n))))) .n)))⟩
noncomputable def lex_scanner_text.B:ByteArray×Int×Unit→Option (Int×ByteArray×Int×Int×ByteArray×Bool×ByteArray×Int×Unit):=fun (o0_0,o0_1,_)=>
  jn (S:=ByteArray×Int×(List Int)×Unit) (
  let e1:Int:=(wr (o0_1+(1:Int)))
  loopM (S:=ByteArray×Int×(List Int)×Unit) (fun (o0_0_0,o0_0_1,o4_0_1,_)=>
  (bif (decide (o0_0_1<(o0_0_0.size:Int))) then
  jn (S:=ByteArray×Int×(List Int)×Unit) (
  (lex_scanner_peek.F ((0:Int),o0_0_0,o0_0_1,())).bind fun y2=>
  (bif (y2.1==(39:Int)) then
  let e3:Int:=(wr (y2.2.2.1+(1:Int)))
  (lex_scanner_peek.F ((0:Int),y2.2.1,e3,())).bind fun y4=>
  (bif (y4.1 !=(39:Int)) then
  (strings_Builder_String.F (o4_0_1,())).bind fun y5=>
  (value_May.F ((3:Int),(0:Int),y5.1,())).bind fun y6=>
  ir (.inr (.inr ((1:Int),(⟨#[]⟩:ByteArray),(3:Int),(0:Int),y5.1,y6.1,y4.2.1,y4.2.2.1,())))
  else
  (bif (decide (y4.2.2.1≥(y4.2.1.size:Int))) then
  (strings_Builder_String.F (o4_0_1,())).bind fun y7=>
  (value_May.F ((3:Int),(0:Int),y7.1,())).bind fun y8=>
  ir (.inr (.inr ((1:Int),(⟨#[]⟩:ByteArray),(3:Int),(0:Int),y7.1,y8.1,y4.2.1,y4.2.2.1,())))
  else
  (strings_Builder_WriteByte.F (y2.1,o4_0_1,())).bind fun y9=>
  il (y4.2.1,y4.2.2.1,y9.2.1,())))
  else
  (strings_Builder_WriteByte.F (y2.1,o4_0_1,())).bind fun y10=>
  il (y2.2.1,y2.2.2.1,y10.2.1,()))) fun (o0_0_0_11,o0_0_1_11,o4_0_1_11,_)=>
  let e12:Int:=(wr (o0_0_1_11+(1:Int)))
  il (o0_0_0_11,e12,o4_0_1_11,())
  else
  ir (.inl (o0_0_0,o0_0_1,o4_0_1,())))) (o0_0,e1,[],())) fun (oin_0_0_13,oin_0_1_13,oin_1001_1_13,_)=>
  some ((0:Int),(⟨#[]⟩:ByteArray),(0:Int),(0:Int),(⟨#[]⟩:ByteArray),false,oin_0_0_13,oin_0_1_13,())
noncomputable def lex_scanner_text.F:=stk lex_scanner_text.B
theorem lex_scanner_text.eq:lex_scanner_text.F=lex_scanner_text.B:=stk_eq _
theorem lex_scanner_text.k:Kk strings_Builder_WriteByte.s [] [] Tryz.f229 lex_scanner_text.d lex_scanner_text.B:={}
noncomputable def lex_scanner_text.s:SpL:=lex_scanner_text.d.e [] lex_scanner_text.F::strings_Builder_WriteByte.s
theorem lex_scanner_text.c:Ck lex_scanner_text.s []:=cS strings_Builder_WriteByte.c lex_scanner_text.k
/-! (*levee/lex.scanner).token -/
def lex_scanner_token.d:Fe:=⟨201,1,⟨[(0,.v false [.ptr 0 0])],[(0,true,.box 239 [.str,.int .i64])],[],1,[]⟩,⟨[(0,.tup [(true,[.int .i64,.str,.int .i64,.int .i64,.str]),(false,[.bool])])],[(0,true,.box 239 [.str,.int .i64])],[],1001,[(0,0)]⟩,(.s none .n (.s none .n (.s none (.s none .n (.b (.s none .n (.c .n (.s (some ⟨[(0,.v false [.ptr 0 0]),(18,.v false [.bool])],[(0,true,.box 239 [.str,.int .i64])],[2,5],1,[]⟩) .n .n))))) .n)))⟩
noncomputable def lex_scanner_token.B:ByteArray×Int×Unit→Option (Int×ByteArray×Int×Int×ByteArray×Bool×ByteArray×Int×Unit):=fun (o0_0,o0_1,_)=>
  (lex_scanner_peek.F ((0:Int),o0_0,o0_1,())).bind fun y1=>
  (lex_of.F (y1.1,())).bind fun y2=>
  (bif (y2.1==(1:Int)) then
  (lex_scanner_word.F (y1.2.1,y1.2.2.1,())).bind fun y3=>
  some (y3.1,y3.2.1,y3.2.2.1,y3.2.2.2.1,y3.2.2.2.2.1,y3.2.2.2.2.2.1,y3.2.2.2.2.2.2.1,y3.2.2.2.2.2.2.2.1,())
  else
  jn (S:=Bool×ByteArray×Int×Unit) (
  (bif (y2.1==(2:Int)) then
  il ((y2.1==(2:Int)),y1.2.1,y1.2.2.1,())
  else
  (bif (y1.1==(45:Int)) then
  (lex_scanner_peek.F ((1:Int),y1.2.1,y1.2.2.1,())).bind fun y4=>
  (lex_of.F (y4.1,())).bind fun y5=>
  il ((y5.1==(2:Int)),y4.2.1,y4.2.2.1,())
  else
  il (false,y1.2.1,y1.2.2.1,())))) fun (x18_6,o0_0_0_6,o0_0_1_6,_)=>
  (bif x18_6 then
  (lex_scanner_number.F (o0_0_0_6,o0_0_1_6,())).bind fun y7=>
  some (y7.1,y7.2.1,y7.2.2.1,y7.2.2.2.1,y7.2.2.2.2.1,y7.2.2.2.2.2.1,y7.2.2.2.2.2.2.1,y7.2.2.2.2.2.2.2.1,())
  else
  (bif (y2.1==(4:Int)) then
  (lex_scanner_text.F (o0_0_0_6,o0_0_1_6,())).bind fun y8=>
  some (y8.1,y8.2.1,y8.2.2.1,y8.2.2.2.1,y8.2.2.2.2.1,y8.2.2.2.2.2.1,y8.2.2.2.2.2.2.1,y8.2.2.2.2.2.2.2.1,())
  else
  let e9:Int:=(wr (o0_0_1_6+(1:Int)))
  let e10:Int:=(wr (e9-(1:Int)))
  ck (sb e10 e9 o0_0_0_6.size)<|
  let e11:ByteArray:=(o0_0_0_6.extract (Int.toNat e10) (Int.toNat e9))
  (strings_Contains.F ((⟨#[40,41,91,93,44,61,60,43,45,42,63]⟩:ByteArray),e11,())).bind fun y12=>
  some ((2:Int),e11,(0:Int),(0:Int),(⟨#[]⟩:ByteArray),y12.1,o0_0_0_6,e9,()))))
noncomputable def lex_scanner_token.F:=stk lex_scanner_token.B
theorem lex_scanner_token.eq:lex_scanner_token.F=lex_scanner_token.B:=stk_eq _
theorem lex_scanner_token.k:Kk lex_scanner_text.s [] [] Tryz.f201 lex_scanner_token.d lex_scanner_token.B:={}
noncomputable def lex_scanner_token.s:SpL:=lex_scanner_token.d.e [] lex_scanner_token.F::lex_scanner_text.s
theorem lex_scanner_token.c:Ck lex_scanner_token.s []:=cS lex_scanner_text.c lex_scanner_token.k
/-! levee/lex.Lex -/
end Go.Proofs.Ytnhiifengimfgaa
