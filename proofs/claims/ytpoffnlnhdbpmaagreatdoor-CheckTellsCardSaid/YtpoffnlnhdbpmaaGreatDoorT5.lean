import Derived.Test.YtpoffnlnhdbpmaaGreatDoorT4
set_option linter.all false
set_option linter.unusedVariables false
set_option linter.unusedSimpArgs false
set_option linter.unusedSectionVars false
set_option maxRecDepth 100000
namespace Go.Proofs.Ytpoffnlnhdbpmaa
open Go Lv Go.Proofs Go.RowKit Go.Shelf
variable [Lk]
noncomputable section
abbrev ap:=Int×(Int×ByteArray)
abbrev ar:Ty:=(.pair (.int .i64) (.pair (.int .i64) .str))
abbrev ak:=Int×(Int×ap)
abbrev bN:Ty:=(.pair (.int .i64) (.pair (.int .i64) ar))
abbrev aB:=ByteArray×(Int×(Bool×(Bool×(ByteArray×Int))))
abbrev aV:Ty:=(.pair .str (.pair (.int .i64) (.pair .bool (.pair .bool (.pair .str (.int .i64))))))
abbrev gD:=ByteArray×((List aB)×(List (List ak)))
abbrev iW:Ty:=(.pair .str (.pair (.sl 75 aV) (.sl 78 (.sl 126 bN))))
abbrev cU:=Int×Int
abbrev ep:Ty:=(.pair (.int .i64) (.int .i64))
abbrev Cp:=ByteArray×(ByteArray×(ByteArray×(cU×((List ak)×((List Int)×(Bool×(List cU)))))))
abbrev BL:Ty:=(.pair .str (.pair .str (.pair .str (.pair ep (.pair (.sl 126 bN) (.pair (.sl 3 (.int .i64)) (.pair .bool (.sl 156 ep))))))))
abbrev bL:=Int×(gD×Cp)
abbrev gF:Ty:=(.pair (.int .i64) (.pair iW BL))
abbrev aX:=Int×(ByteArray×ap)
abbrev dS:Ty:=(.pair (.int .i64) (.pair .str ar))
abbrev AA:Ty:=(.pair (.sl 195 dS) (.pair (.int .i64) .bool))
abbrev bO:=(List ap)×Int
abbrev cX:Ty:=(.pair (.sl 47 ar) (.int .i64))
abbrev bF:=ByteArray×(List bO)
abbrev eB:Ty:=(.pair .str (.sl 62 cX))
abbrev xd:=ByteArray×Int
abbrev sS:Ty:=(.pair .str (.int .i64))
abbrev yG:Ty:=(.pair .val (.sl 5 (.int .u8)))
abbrev Cq:Ty:=(.pair (.pair (.sl 3 (.int .i64)) .bool) (.sl 3 (.int .i64)))
abbrev yH:Ty:=(.pair iW (.pair (.sl 62 cX) (.sl 44 eB)))
abbrev uz:Ty:=(.pair (.pair (.sl 47 ar) .bool) (.sl 47 ar))
abbrev sT:=Int×xd
abbrev iu:Ty:=(.pair (.int .i64) sS)
noncomputable abbrev PP:=Tryz.prog
def tab0:List (Nat×TI):=[
 (3,⟨.int .i64,1,8,17592186044416,[.int .i64 0],some (.int .i64)⟩),
 (4,⟨.bool,1,1,140737488355328,[.bool false],some .bool⟩),
 (5,⟨.int .u8,1,1,140737488355328,[.int .u8 0],some (.int .u8)⟩),
 (9,⟨.str,1,16,8796093022208,[.string ⟨#[]⟩],some .str⟩),
 (20,⟨.ifc,1,16,8796093022208,[.nilIface],some .val⟩),
 (23,⟨.sl 84,1,24,5864062014805,[.slice none 0 0],some (.sl 84 gF)⟩),
 (24,⟨.sl 44,1,24,5864062014805,[.slice none 0 0],some (.sl 44 eB)⟩),
 (28,⟨.int .i64,1,8,17592186044416,[.int .i64 0],some (.int .i64)⟩),
 (30,⟨.st [(28,0),(9,1),(3,2)],3,32,4398046511104,[.int .i64 0,.string ⟨#[]⟩,.int .i64 0],some iu⟩),
 (35,⟨.sl 40,1,24,5864062014805,[.slice none 0 0],some (.sl 40 iW)⟩),
 (37,⟨.sl 75,1,24,5864062014805,[.slice none 0 0],some (.sl 75 aV)⟩),
 (38,⟨.sl 78,1,24,5864062014805,[.slice none 0 0],some (.sl 78 (.sl 126 bN))⟩),
 (40,⟨.st [(9,0),(37,1),(38,2)],3,64,2199023255552,[.string ⟨#[]⟩,.slice none 0 0,.slice none 0 0],some iW⟩),
 (42,⟨.sl 62,1,24,5864062014805,[.slice none 0 0],some (.sl 62 cX)⟩),
 (44,⟨.st [(9,0),(42,1)],2,40,3518437208883,[.string ⟨#[]⟩,.slice none 0 0],some eB⟩),
 (47,⟨.st [(3,0),(3,1),(9,2)],3,32,4398046511104,[.int .i64 0,.int .i64 0,.string ⟨#[]⟩],some ar⟩),
 (57,⟨.sl 47,1,24,5864062014805,[.slice none 0 0],some (.sl 47 ar)⟩),
 (58,⟨.sl 47,1,24,5864062014805,[.slice none 0 0],some (.sl 47 ar)⟩),
 (62,⟨.st [(58,0),(3,1)],2,32,4398046511104,[.slice none 0 0,.int .i64 0],some cX⟩),
 (71,⟨.sl 58,1,24,5864062014805,[.slice none 0 0],some (.sl 58 (.sl 47 ar))⟩),
 (75,⟨.st [(9,0),(3,1),(4,2),(4,3),(9,4),(3,5)],6,56,2513169434916,[.string ⟨#[]⟩,.int .i64 0,.bool false,.bool false,.string ⟨#[]⟩,.int .i64 0],some aV⟩),
 (76,⟨.arr 2 3,2,16,8796093022208,[.int .i64 0,.int .i64 0],some ep⟩),
 (78,⟨.sl 126,1,24,5864062014805,[.slice none 0 0],some (.sl 126 bN)⟩),
 (79,⟨.sl 3,1,24,5864062014805,[.slice none 0 0],some (.sl 3 (.int .i64))⟩),
 (80,⟨.sl 156,1,24,5864062014805,[.slice none 0 0],some (.sl 156 ep)⟩),
 (82,⟨.st [(9,0),(9,1),(9,2),(76,3),(78,5),(79,6),(4,7),(80,8)],9,144,977343669134,[.string ⟨#[]⟩,.string ⟨#[]⟩,.string ⟨#[]⟩,.int .i64 0,.int .i64 0,.slice none 0 0,.slice none 0 0,.bool false,.slice none 0 0],some BL⟩),
 (84,⟨.st [(3,0),(40,1),(82,4)],13,216,651562446089,[.int .i64 0,.string ⟨#[]⟩,.slice none 0 0,.slice none 0 0,.string ⟨#[]⟩,.string ⟨#[]⟩,.string ⟨#[]⟩,.int .i64 0,.int .i64 0,.slice none 0 0,.slice none 0 0,.bool false,.slice none 0 0],some gF⟩),
 (126,⟨.st [(3,0),(3,1),(47,2)],5,48,2932031007402,[.int .i64 0,.int .i64 0,.int .i64 0,.int .i64 0,.string ⟨#[]⟩],some bN⟩),
 (128,⟨.st [(40,0),(42,3),(24,4)],5,112,1256584717458,[.string ⟨#[]⟩,.slice none 0 0,.slice none 0 0,.slice none 0 0,.slice none 0 0],some yH⟩),
 (129,⟨.other,1,8,17592186044416,[.nilFunc],some .val⟩),
 (130,⟨.st [(129,0),(28,1)],2,16,8796093022208,[.nilFunc,.int .i64 0],some (.pair .val (.int .i64))⟩),
 (131,⟨.sl 130,1,24,5864062014805,[.slice none 0 0],some (.sl 130 (.pair .val (.int .i64)))⟩),
 (140,⟨.other,1,8,17592186044416,[.nilFunc],some .val⟩),
 (156,⟨.st [(3,0),(3,1)],2,16,8796093022208,[.int .i64 0,.int .i64 0],some ep⟩),
 (157,⟨.sl 9,1,24,5864062014805,[.slice none 0 0],some (.sl 9 .str)⟩),
 (158,⟨.sl 195,1,24,5864062014805,[.slice none 0 0],some (.sl 195 dS)⟩),
 (163,⟨.st [(158,0),(3,1),(4,2)],3,40,3518437208883,[.slice none 0 0,.int .i64 0,.bool false],some AA⟩),
 (171,⟨.map 47 4,1,8,17592186044416,[.map none],some .val⟩),
 (179,⟨.sl 4,1,24,5864062014805,[.slice none 0 0],some (.sl 4 .bool)⟩),
 (185,⟨.int .u64,1,8,17592186044416,[.int .u64 0],some (.int .u64)⟩),
 (195,⟨.st [(3,0),(9,1),(47,2)],5,56,2513169434916,[.int .i64 0,.string ⟨#[]⟩,.int .i64 0,.int .i64 0,.string ⟨#[]⟩],some dS⟩),
 (210,⟨.st [(57,0),(4,1)],2,32,4398046511104,[.slice none 0 0,.bool false],some (.pair (.sl 47 ar) .bool)⟩),
 (212,⟨.st [(210,0),(58,2)],3,56,2513169434916,[.slice none 0 0,.bool false,.slice none 0 0],some uz⟩),
 (222,⟨.int .u64,1,8,17592186044416,[.int .u64 0],some (.int .u64)⟩),
 (241,⟨.ptr,1,8,17592186044416,[.pointer none],some .val⟩),
 (243,⟨.st [(157,0)],1,24,5864062014805,[.slice none 0 0],some (.sl 9 .str)⟩),
 (261,⟨.sl 5,1,24,5864062014805,[.slice none 0 0],some (.sl 5 (.int .u8))⟩),
 (263,⟨.st [(260,0),(261,1)],2,32,4398046511104,[.pointer none,.slice none 0 0],some yG⟩),
 (265,⟨.ifc,1,16,8796093022208,[.nilIface],some .val⟩),
 (269,⟨.st [(28,0)],1,8,17592186044416,[.int .i64 0],some (.int .i64)⟩),
 (270,⟨.ptr,1,8,17592186044416,[.pointer none],some .val⟩),
 (272,⟨.st [(158,0)],1,24,5864062014805,[.slice none 0 0],some (.sl 195 dS)⟩),
 (282,⟨.st [(79,0),(4,1)],2,32,4398046511104,[.slice none 0 0,.bool false],some (.pair (.sl 3 (.int .i64)) .bool)⟩),
 (284,⟨.st [(282,0),(79,2)],3,56,2513169434916,[.slice none 0 0,.bool false,.slice none 0 0],some Cq⟩),
 (296,⟨.st [(9,0),(3,1)],2,24,5864062014805,[.string ⟨#[]⟩,.int .i64 0],some sS⟩),
 (298,⟨.int .i64,1,8,17592186044416,[.int .i64 0],some (.int .i64)⟩),
 (303,⟨.int .u32,1,4,35184372088832,[.int .u32 0],some (.int .u32)⟩),
 (309,⟨.map 9 47,1,8,17592186044416,[.map none],some .val⟩),
 (317,⟨.sl 298,1,24,5864062014805,[.slice none 0 0],some (.sl 298 (.int .i64))⟩),
 (331,⟨.map 9 3,1,8,17592186044416,[.map none],some .val⟩)]
def eqs0:List (Nat×Ty):=[(30,iu),(47,ar),(75,aV),(76,ep),(126,bN),(156,ep)]
theorem yI:gC PP (rI tab0):=rU (by kernel_rfl)
theorem Cr:qF PP (wT eqs0):=Al yI (by kernel_rfl)
theorem mixed:PP.follows .mixedOrders=true:=by kernel_rfl
noncomputable abbrev cx (s:SpL) (q:SqL):Cx:=⟨rI tab0,wT eqs0,ke s,269,jB q⟩
abbrev Ck (s:SpL) (q:SqL):Prop:=gT PP (cx s q)
abbrev Kk (s:SpL) (q:SqL) (l:InT) (f:Func) (d:Fe) (B:TS d.si→Option (TS d.so)):=Fk PP (cx s q) l f d B
abbrev Kp (s:SpL) (q:SqL) (l:InT) (f:Func) (d:Fe) (B:TS d.si→Option (TS d.so⊕Int)):=FkP PP (cx s q) l f d B
theorem zero:Ck [] []:=gT.nilP yI Cr
theorem cS {s:SpL} {q:SqL} (c:Ck s q) {l:InT} {f:Func} {d:Fe} {B:TS d.si→Option (TS d.so)} {key:List (Nat×AK)} (k:Kk s q l f d B):Ck (d.e key (stk B)::s) q:=gT.consS c key (nR k.fn k.fb).enters (k.ok c mixed)
theorem cP {s:SpL} {q:SqL} (c:Ck s q) {l:InT} {f:Func} {d:Fe} {B:TS d.si→Option (TS d.so⊕Int)} {key:List (Nat×AK)} (k:Kp s q l f d B):Ck s (d.p key (stk B)::q):=gT.consP c key (nR k.fn k.fb).enters (k.ok c mixed)
theorem cPa {s:SpL} {q:SqL} (c:Ck s q) {l:InT} {f:Func} {d:Fe} {b:AgF→TS d.si→Option (TS d.so⊕Int)} {key:List (Nat×AK)} (k:Kp s q l f d (b agT)) (h:b agT=b agI):Ck s (d.p key (stk (b agI))::q):=by
 rw [h] at k
 exact cP c k
def gI.d:Fe:=⟨71,1,⟨[(0,.v false [.sl 126 bN])],[],[],0,[]⟩,⟨[(0,.v false [.bool])],[],[],1000,[]⟩,(.s none .n (.s (some ⟨[],[],[0],0,[]⟩) (.s none .n (.b (.l ⟨[(3,.v false [.int .i64])],[],[0],0,[]⟩ .n))) .n))⟩
def gI.B:(List ak)×Unit→Option (Bool×Unit):=fun (p0,_)=>
 jn (S:=Unit) (
 aN (S:=Int×Unit) (fun (x3,_)=>
 (bif (decide (x3<(p0.length:Int))) then
 ck (ib x3 p0.length)<|
 let e1:ak:=(gt p0 x3 bN.z)
 (bif (decide ((e1.2.2.2.2.size:Int)>(1000:Int))) then
 ir (.inr (true,()))
 else
 let e2:Int:=(wr (x3+(1:Int)))
 il (e2,()))
 else
 ir (.inl (())))) ((0:Int),())) fun (_)=>
 some ((decide ((p0.length:Int)>(120:Int))),())
def gI.F:=stk gI.B
theorem gI.eq:gI.F=gI.B:=aq _
theorem gI.k:Kk [] [] [] Tryz.f71 gI.d gI.B:={}
def gI.s:SpL:=gI.d.e [] gI.F::[]
theorem gI.c:Ck gI.s []:=cS zero gI.k
def gL.d:Fe:=⟨38,1,⟨[(0,.v true [.int .i64,.str,.sl 75 aV,.sl 78 (.sl 126 bN),.str,.str,.str,.int .i64,.int .i64,.sl 126 bN,.sl 3 (.int .i64),.bool,.sl 156 ep])],[],[],0,[]⟩,⟨[(0,.v false [.bool])],[],[],1000,[]⟩,(.s none .n (.s none .n (.s (some ⟨[(3,.v false [.int .i64])],[],[1],0,[]⟩) (.s none .n (.b (.l ⟨[(3,.v false [.int .i64]),(4,.v false [.int .i64])],[],[1],0,[]⟩ .n))) (.s (some ⟨[],[],[1,3],0,[]⟩) (.s none .n (.b (.l ⟨[(5,.v false [.int .i64])],[],[1,3],0,[]⟩ .n))) .n))))⟩
def gL.B:Int×ByteArray×(List aB)×(List (List ak))×ByteArray×ByteArray×ByteArray×Int×Int×(List ak)×(List Int)×Bool×(List cU)×Unit→Option (Bool×Unit):=fun (p0_0,p0_1,p0_2,p0_3,p0_4,p0_5,p0_6,p0_7,p0_8,p0_9,p0_10,p0_11,p0_12,_)=>
 let e1:Int:=(wr ((p0_2.length:Int)+(p0_3.length:Int)))
 let e2:Int:=(wr (e1+(p0_10.length:Int)))
 let e3:Int:=(wr (e2+(p0_12.length:Int)))
 let e4:Int:=(wr (e3+(p0_9.length:Int)))
 jn (S:=Int×Unit) (
 aN (S:=Int×Int×Unit) (fun (x3,x4,_)=>
 (bif (decide (x4<(p0_3.length:Int))) then
 ck (ib x4 p0_3.length)<|
 let e5:(List ak):=(gt p0_3 x4 [])
 let e6:Int:=(wr (x3+(e5.length:Int)))
 ck (ib x4 p0_3.length)<|
 let e7:(List ak):=(gt p0_3 x4 [])
 (gI.F (e7,())).bind fun y8=>
 (bif y8.1 then
 ir (.inr (true,()))
 else
 let e9:Int:=(wr (x4+(1:Int)))
 il (e6,e9,()))
 else
 ir (.inl (x3,())))) (e4,(0:Int),())) fun (x3_10,_)=>
 jn (S:=Unit) (
 aN (S:=Int×Unit) (fun (x5,_)=>
 (bif (decide (x5<(p0_2.length:Int))) then
 ck (ib x5 p0_2.length)<|
 let e11:aB:=(gt p0_2 x5 aV.z)
 (bif (decide ((e11.1.size:Int)>(100:Int))) then
 ir (.inr (true,()))
 else
 ck (ib x5 p0_2.length)<|
 let e12:aB:=(gt p0_2 x5 aV.z)
 (bif (decide ((e12.2.2.2.2.1.size:Int)>(100:Int))) then
 ir (.inr (true,()))
 else
 let e13:Int:=(wr (x5+(1:Int)))
 il (e13,())))
 else
 ir (.inl (())))) ((0:Int),())) fun (_)=>
 (bif (decide (x3_10>(400:Int))) then
 some (true,())
 else
 (gI.F (p0_9,())).bind fun y15=>
 (bif y15.1 then
 some (true,())
 else
 (bif (decide ((p0_1.size:Int)>(100:Int))) then
 some (true,())
 else
 (bif (decide ((p0_4.size:Int)>(100:Int))) then
 some (true,())
 else
 (bif (decide ((p0_5.size:Int)>(100:Int))) then
 some (true,())
 else
 some ((decide ((p0_6.size:Int)>(100:Int))),()))))))
def gL.F:=stk gL.B
theorem gL.eq:gL.F=gL.B:=aq _
theorem gL.k:Kk gI.s [] [] Tryz.f38 gL.d gL.B:={}
def gL.s:SpL:=gL.d.e [] gL.F::gI.s
theorem gL.c:Ck gL.s []:=cS gI.c gL.k
def dT.d:Fe:=⟨130,1,⟨[(0,.v false [.int .u64])],[],[],0,[]⟩,⟨[(0,.v false [.str])],[],[],1000,[]⟩,(.s none .n (.s none .n (.s (some ⟨[(0,.v false [.int .u64]),(3,.v false [.str])],[],[],0,[]⟩) (.b (.l ⟨[(0,.v false [.int .u64]),(3,.v false [.str])],[],[],0,[]⟩ .n)) .n)))⟩
def dT.B:Int×Unit→Option (ByteArray×Unit):=fun (p0,_)=>
 jn (S:=Int×ByteArray×Unit) (
 aN (S:=Int×ByteArray×Unit) (fun (x0,x3,_)=>
 (bif (decide (x0>(9:Int))) then
 ck (!decide ((10:Int)=0))<|
 let e1:Int:=(Int.tmod x0 (10:Int))
 ck (!decide ((10:Int)=0))<|
 let e2:Int:=(Int.tmod x0 (10:Int))
 let e3:Int:=(IntKind.u64.wrap (e2+(1:Int)))
 ck (sb e1 e3 (⟨#[48,49,50,51,52,53,54,55,56,57]⟩:ByteArray).size)<|
 let e4:ByteArray:=((⟨#[48,49,50,51,52,53,54,55,56,57]⟩:ByteArray).extract (Int.toNat e1) (Int.toNat e3))
 ck (ca e4 x3)<|
 let e5:ByteArray:=(e4++x3)
 ck (!decide ((10:Int)=0))<|
 let e6:Int:=(IntKind.u64.wrap (Int.tdiv x0 (10:Int)))
 il (e6,e5,())
 else
 ir (.inl (x0,x3,())))) (p0,(⟨#[]⟩:ByteArray),())) fun (x0_7,x3_7,_)=>
 let e8:Int:=(IntKind.u64.wrap (x0_7+(1:Int)))
 ck (sb x0_7 e8 (⟨#[48,49,50,51,52,53,54,55,56,57]⟩:ByteArray).size)<|
 let e9:ByteArray:=((⟨#[48,49,50,51,52,53,54,55,56,57]⟩:ByteArray).extract (Int.toNat x0_7) (Int.toNat e8))
 ck (ca e9 x3_7)<|
 let e10:ByteArray:=(e9++x3_7)
 some (e10,())
def dT.F:=stk dT.B
theorem dT.eq:dT.F=dT.B:=aq _
theorem dT.k:Kk gL.s [] [] Tryz.f130 dT.d dT.B:={}
def dT.s:SpL:=dT.d.e [] dT.F::gL.s
theorem dT.c:Ck dT.s []:=cS gL.c dT.k
def de.d:Fe:=⟨91,1,⟨[(0,.v false [.int .i64])],[],[],0,[]⟩,⟨[(0,.v false [.str])],[],[],1000,[]⟩,.n⟩
def de.B:Int×Unit→Option (ByteArray×Unit):=fun (p0,_)=>
 (bif (decide (p0<(0:Int))) then
 let e1:Int:=(wr (p0+(1:Int)))
 let e2:Int:=(IntKind.u64.wrap ((IntKind.u64.wrap ((wr (0-e1))))+(1:Int)))
 (dT.F (e2,())).bind fun y3=>
 ck (ca (⟨#[45]⟩:ByteArray) y3.1)<|
 let e4:ByteArray:=((⟨#[45]⟩:ByteArray)++y3.1)
 some (e4,())
 else
 (dT.F ((IntKind.u64.wrap (p0)),())).bind fun y5=>
 some (y5.1,()))
def de.F:=stk de.B
theorem de.eq:de.F=de.B:=aq _
theorem de.k:Kk dT.s [] [] Tryz.f91 de.d de.B:={}
def de.s:SpL:=de.d.e [] de.F::dT.s
theorem de.c:Ck de.s []:=cS dT.c de.k
def dQ.d:Fe:=⟨121,1,⟨[(0,.v true [.int .i64,.int .i64,.str])],[],[],0,[]⟩,⟨[(0,.v false [.bool])],[],[],1000,[]⟩,(.s none .n (.s none (.s (some ⟨[(10,.v false [.bool])],[],[1],0,[]⟩) .n .n) .n))⟩
def dQ.B:Int×Int×ByteArray×Unit→Option (Bool×Unit):=fun (p0_0,p0_1,p0_2,_)=>
 jn (S:=Bool×Unit) (
 (bif (p0_0==(0:Int)) then
 il (true,())
 else
 il ((p0_0==(1:Int)),()))) fun (x10_1,_)=>
 (bif x10_1 then
 (bif (sq p0_2 (⟨#[]⟩:ByteArray)) then
 (bif (decide (p0_1≥(0:Int))) then
 some ((decide (p0_1≤p0_0)),())
 else
 some (false,()))
 else
 some (false,()))
 else
 (bif (p0_0==(2:Int)) then
 some ((sq p0_2 (⟨#[]⟩:ByteArray)),())
 else
 (bif (p0_0==(3:Int)) then
 (bif (p0_1==(0:Int)) then
 some ((decide ((p0_2.size:Int)≤(1000:Int))),())
 else
 some (false,()))
 else
 some (false,()))))
def dQ.F:=stk dQ.B
theorem dQ.eq:dQ.F=dQ.B:=aq _
theorem dQ.k:Kk de.s [] [] Tryz.f121 dQ.d dQ.B:={}
def dQ.s:SpL:=dQ.d.e [] dQ.F::de.s
theorem dQ.c:Ck dQ.s []:=cS de.c dQ.k
def eD.d:Fe:=⟨129,1,⟨[(0,.v true [.int .i64,.int .i64,.str])],[],[],0,[]⟩,⟨[(0,.v false [.str])],[],[],1000,[]⟩,(.s none .n (.s none (.s none .n (.b (.s none .n (.c .n (.s none .n (.c .n (.s none .n (.c .n (.s none .n (.c (.s none .n (.s (some ⟨[(3,.v false [.str])],[],[],0,[]⟩) (.s none .n (.b (.l ⟨[(3,.v false [.str]),(4,.v false [.int .i64])],[],[1],0,[]⟩ .n))) .n)) .n)))))))))) .n))⟩
def eD.B:Int×Int×ByteArray×Unit→Option (ByteArray×Unit):=fun (p0_0,p0_1,p0_2,_)=>
 (bif (p0_0==(0:Int)) then
 some ((⟨#[110,117,108,108]⟩:ByteArray),())
 else
 (bif (p0_0==(1:Int)) then
 (bif (p0_1==(0:Int)) then
 some ((⟨#[102,97,108,115,101]⟩:ByteArray),())
 else
 some ((⟨#[116,114,117,101]⟩:ByteArray),()))
 else
 (bif (p0_0==(2:Int)) then
 (de.F (p0_1,())).bind fun y1=>
 some (y1.1,())
 else
 (bif (p0_0==(3:Int)) then
 jn (S:=ByteArray×Unit) (
 aN (S:=ByteArray×Int×Unit) (fun (x3,x4,_)=>
 (bif (decide (x4<(p0_2.size:Int))) then
 ck (ib x4 p0_2.size)<|
 let e2:Int:=(bM p0_2 (Int.toNat x4))
 (bif (e2==(39:Int)) then
 ck (ca x3 (⟨#[39]⟩:ByteArray))<|
 let e3:ByteArray:=(x3++(⟨#[39]⟩:ByteArray))
 let e4:Int:=(wr (x4+(1:Int)))
 ck (sb x4 e4 p0_2.size)<|
 let e5:ByteArray:=(p0_2.extract (Int.toNat x4) (Int.toNat e4))
 ck (ca e3 e5)<|
 let e6:ByteArray:=(e3++e5)
 let e7:Int:=(wr (x4+(1:Int)))
 il (e6,e7,())
 else
 let e8:Int:=(wr (x4+(1:Int)))
 ck (sb x4 e8 p0_2.size)<|
 let e9:ByteArray:=(p0_2.extract (Int.toNat x4) (Int.toNat e8))
 ck (ca x3 e9)<|
 let e10:ByteArray:=(x3++e9)
 let e11:Int:=(wr (x4+(1:Int)))
 il (e10,e11,()))
 else
 ir (.inl (x3,())))) ((⟨#[39]⟩:ByteArray),(0:Int),())) fun (x3_12,_)=>
 ck (ca x3_12 (⟨#[39]⟩:ByteArray))<|
 let e13:ByteArray:=(x3_12++(⟨#[39]⟩:ByteArray))
 some (e13,())
 else
 some ((⟨#[63]⟩:ByteArray),())))))
def eD.F:=stk eD.B
theorem eD.eq:eD.F=eD.B:=aq _
theorem eD.k:Kk dQ.s [] [] Tryz.f129 eD.d eD.B:={}
def eD.s:SpL:=eD.d.e [] eD.F::dQ.s
theorem eD.c:Ck eD.s []:=cS dQ.c eD.k
def ff.d:Fe:=⟨188,1,⟨[(0,.v false [.sl 126 bN])],[],[],0,[]⟩,⟨[(0,.v false [.str])],[],[],1000,[]⟩,(.s none .n (.s none .n (.s none .n (.s none (.s none .n (.b (.l ⟨[(4,.v false [.str]),(5,.v false [.int .i64])],[],[0,3],0,[]⟩ (.s none .n (.s none (.b (.s (some ⟨[(4,.v false [.str])],[],[0,3,5],0,[]⟩) .n .n)) .n))))) .n))))⟩
def ff.B:(List ak)×Unit→Option (ByteArray×Unit):=fun (p0,_)=>
 aN (S:=ByteArray×Int×Unit) (fun (x4,x5,_)=>
 (bif (decide (x5<(p0.length:Int))) then
 jn (S:=ByteArray×Unit) (
 (bif (decide (x5>(0:Int))) then
 ck (ca x4 (⟨#[32]⟩:ByteArray))<|
 let e1:ByteArray:=(x4++(⟨#[32]⟩:ByteArray))
 il (e1,())
 else
 il (x4,()))) fun (x4_2,_)=>
 ck (ib x5 p0.length)<|
 let e3:ak:=(gt p0 x5 bN.z)
 (bif (e3.1==(0:Int)) then
 (de.F (e3.2.1,())).bind fun y4=>
 ck (ca (⟨#[99]⟩:ByteArray) y4.1)<|
 let e5:ByteArray:=((⟨#[99]⟩:ByteArray)++y4.1)
 ck (ca x4_2 e5)<|
 let e6:ByteArray:=(x4_2++e5)
 let e7:Int:=(wr (x5+(1:Int)))
 il (e6,e7,())
 else
 (bif (e3.1==(1:Int)) then
 (eD.F (e3.2.2.1,e3.2.2.2.1,e3.2.2.2.2,())).bind fun y8=>
 ck (ca x4_2 y8.1)<|
 let e9:ByteArray:=(x4_2++y8.1)
 let e10:Int:=(wr (x5+(1:Int)))
 il (e9,e10,())
 else
 (bif (decide (e3.1<(0:Int))) then
 ck (ca x4_2 (⟨#[63]⟩:ByteArray))<|
 let e11:ByteArray:=(x4_2++(⟨#[63]⟩:ByteArray))
 let e12:Int:=(wr (x5+(1:Int)))
 il (e11,e12,())
 else
 (bif (decide (e3.1>(10:Int))) then
 ck (ca x4_2 (⟨#[63]⟩:ByteArray))<|
 let e13:ByteArray:=(x4_2++(⟨#[63]⟩:ByteArray))
 let e14:Int:=(wr (x5+(1:Int)))
 il (e13,e14,())
 else
 ck (ib e3.1 [(⟨#[]⟩:ByteArray),(⟨#[]⟩:ByteArray),(⟨#[43]⟩:ByteArray),(⟨#[45]⟩:ByteArray),(⟨#[42]⟩:ByteArray),(⟨#[61]⟩:ByteArray),(⟨#[60]⟩:ByteArray),(⟨#[97,110,100]⟩:ByteArray),(⟨#[111,114]⟩:ByteArray),(⟨#[110,111,116]⟩:ByteArray),(⟨#[110,117,108,108,63]⟩:ByteArray)].length)<|
 let e15:ByteArray:=(List.getD [(⟨#[]⟩:ByteArray),(⟨#[]⟩:ByteArray),(⟨#[43]⟩:ByteArray),(⟨#[45]⟩:ByteArray),(⟨#[42]⟩:ByteArray),(⟨#[61]⟩:ByteArray),(⟨#[60]⟩:ByteArray),(⟨#[97,110,100]⟩:ByteArray),(⟨#[111,114]⟩:ByteArray),(⟨#[110,111,116]⟩:ByteArray),(⟨#[110,117,108,108,63]⟩:ByteArray)] (Int.toNat e3.1) (⟨#[]⟩:ByteArray))
 ck (ca x4_2 e15)<|
 let e16:ByteArray:=(x4_2++e15)
 let e17:Int:=(wr (x5+(1:Int)))
 il (e16,e17,())))))
 else
 ir (x4,()))) ((⟨#[]⟩:ByteArray),(0:Int),())
def ff.F:=stk ff.B
theorem ff.eq:ff.F=ff.B:=aq _
theorem ff.k:Kk eD.s [] [] Tryz.f188 ff.d ff.B:={}
def ff.s:SpL:=ff.d.e [] ff.F::eD.s
theorem ff.c:Ck ff.s []:=cS eD.c ff.k
def dp.d:Fe:=⟨142,1,⟨[(0,.v true [.int .i64,.int .i64,.int .i64,.int .i64,.str])],[],[],0,[]⟩,⟨[(0,.v false [.str])],[],[],1000,[]⟩,.n⟩
def dp.B:Int×Int×Int×Int×ByteArray×Unit→Option (ByteArray×Unit):=fun (p0_0,p0_1,p0_2,p0_3,p0_4,_)=>
 (bif (p0_0==(10:Int)) then
 some ((⟨#[110,117,108,108,32,63]⟩:ByteArray),())
 else
 (bif (p0_0==(1:Int)) then
 (bif (decide (p0_2<(2:Int))) then
 (dQ.F (p0_2,p0_3,p0_4,())).bind fun y1=>
 (bif (!y1.1) then
 some ((⟨#[33]⟩:ByteArray),())
 else
 (ff.F ([(p0_0,(p0_1,(p0_2,(p0_3,p0_4))))],())).bind fun y2=>
 some (y2.1,()))
 else
 (ff.F ([(p0_0,(p0_1,(p0_2,(p0_3,p0_4))))],())).bind fun y3=>
 some (y3.1,()))
 else
 (ff.F ([(p0_0,(p0_1,(p0_2,(p0_3,p0_4))))],())).bind fun y4=>
 some (y4.1,())))
def dp.F:=stk dp.B
theorem dp.eq:dp.F=dp.B:=aq _
theorem dp.k:Kk ff.s [] [] Tryz.f142 dp.d dp.B:={}
def dp.s:SpL:=dp.d.e [] dp.F::ff.s
theorem dp.c:Ck dp.s []:=cS ff.c dp.k
def dg.d:Fe:=⟨107,1,⟨[(0,.v false [.sl 126 bN])],[],[],0,[]⟩,⟨[(0,.v false [.str])],[],[],1000,[]⟩,(.s none .n (.s none .n (.s (some ⟨[(3,.v false [.str])],[],[],0,[]⟩) (.s none .n (.b (.l ⟨[(3,.v false [.str]),(4,.v false [.int .i64])],[],[0],0,[]⟩ .n))) .n)))⟩
def dg.B:(List ak)×Unit→Option (ByteArray×Unit):=fun (p0,_)=>
 jn (S:=ByteArray×Unit) (
 aN (S:=ByteArray×Int×Unit) (fun (x3,x4,_)=>
 (bif (decide (x4<(p0.length:Int))) then
 ck (ib x4 p0.length)<|
 let e1:ak:=(gt p0 x4 bN.z)
 (dp.F (e1.1,e1.2.1,e1.2.2.1,e1.2.2.2.1,e1.2.2.2.2,())).bind fun y2=>
 ck (ca (⟨#[32]⟩:ByteArray) y2.1)<|
 let e3:ByteArray:=((⟨#[32]⟩:ByteArray)++y2.1)
 ck (ca x3 e3)<|
 let e4:ByteArray:=(x3++e3)
 let e5:Int:=(wr (x4+(1:Int)))
 il (e4,e5,())
 else
 ir (.inl (x3,())))) ((⟨#[32,91]⟩:ByteArray),(0:Int),())) fun (x3_6,_)=>
 ck (ca x3_6 (⟨#[32,93]⟩:ByteArray))<|
 let e7:ByteArray:=(x3_6++(⟨#[32,93]⟩:ByteArray))
 some (e7,())
def dg.F:=stk dg.B
theorem dg.eq:dg.F=dg.B:=aq _
theorem dg.k:Kk dp.s [] [] Tryz.f107 dg.d dg.B:={}
def dg.s:SpL:=dg.d.e [] dg.F::dp.s
theorem dg.c:Ck dg.s []:=cS dp.c dg.k
def fg.d:Fe:=⟨108,2,⟨[(0,.v false [.int .i64]),(1,.v false [.sl 9 .str])],[],[],0,[]⟩,⟨[(0,.v false [.str])],[],[],1000,[]⟩,.n⟩
def fg.B:Int×(List ByteArray)×Unit→Option (ByteArray×Unit):=fun (p0,p1,_)=>
 (bif (decide (p0<(0:Int))) then
 some ((⟨#[33]⟩:ByteArray),())
 else
 (bif (decide (p0≥(p1.length:Int))) then
 some ((⟨#[33]⟩:ByteArray),())
 else
 ck (ib p0 p1.length)<|
 let e1:ByteArray:=(gt p1 p0 (⟨#[]⟩:ByteArray))
 some (e1,())))
def fg.F:=stk fg.B
theorem fg.eq:fg.F=fg.B:=aq _
theorem fg.k:Kk dg.s [] [] Tryz.f108 fg.d fg.B:={}
def fg.s:SpL:=fg.d.e [] fg.F::dg.s
theorem fg.c:Ck fg.s []:=cS dg.c fg.k
def dq.d:Fe:=⟨72,1,⟨[(0,.v true [.str,.str,.str,.int .i64,.int .i64,.sl 126 bN,.sl 3 (.int .i64),.bool,.sl 156 ep])],[],[],0,[]⟩,⟨[(0,.v false [.str])],[],[],1000,[]⟩,(.s none .n (.s none .n (.s (some ⟨[(3,.v false [.str])],[],[1],0,[]⟩) .n (.s (some ⟨[(3,.v false [.str])],[],[1],0,[]⟩) .n (.s none .n (.s (some ⟨[(3,.v false [.str])],[],[1],0,[]⟩) (.s none .n (.b (.l ⟨[(3,.v false [.str]),(4,.v false [.int .i64])],[],[1],0,[]⟩ .n))) (.s (some ⟨[(3,.v false [.str])],[],[1],0,[]⟩) .n (.s none (.s none .n (.b (.l ⟨[(3,.v false [.str]),(5,.v false [.int .i64])],[],[1],0,[]⟩ (.s none .n (.s none (.b (.s (some ⟨[(3,.v false [.str])],[],[1,5],0,[]⟩) .n .n)) .n))))) .n))))))))⟩
def dq.B:ByteArray×ByteArray×ByteArray×Int×Int×(List ak)×(List Int)×Bool×(List cU)×Unit→Option (ByteArray×Unit):=fun (p0_0,p0_1,p0_2,p0_3,p0_4,p0_5,p0_6,p0_7,p0_8,_)=>
 ck (ca (⟨#[118,105,101,119,32]⟩:ByteArray) p0_0)<|
 let e1:ByteArray:=((⟨#[118,105,101,119,32]⟩:ByteArray)++p0_0)
 ck (ca e1 (⟨#[32,102,114,111,109,32]⟩:ByteArray))<|
 let e2:ByteArray:=(e1++(⟨#[32,102,114,111,109,32]⟩:ByteArray))
 ck (ca e2 p0_1)<|
 let e3:ByteArray:=(e2++p0_1)
 jn (S:=ByteArray×Unit) (
 (bif (!sq p0_2 (⟨#[]⟩:ByteArray)) then
 ck (ca (⟨#[32,106,111,105,110,32]⟩:ByteArray) p0_2)<|
 let e4:ByteArray:=((⟨#[32,106,111,105,110,32]⟩:ByteArray)++p0_2)
 ck (ca e4 (⟨#[32,111,110,32]⟩:ByteArray))<|
 let e5:ByteArray:=(e4++(⟨#[32,111,110,32]⟩:ByteArray))
 ck (ib (0:Int) 2)<|
 (de.F (p0_3,())).bind fun y6=>
 ck (ca e5 y6.1)<|
 let e7:ByteArray:=(e5++y6.1)
 ck (ca e7 (⟨#[32,61,32]⟩:ByteArray))<|
 let e8:ByteArray:=(e7++(⟨#[32,61,32]⟩:ByteArray))
 ck (ib (1:Int) 2)<|
 (de.F (p0_4,())).bind fun y9=>
 ck (ca e8 y9.1)<|
 let e10:ByteArray:=(e8++y9.1)
 ck (ca e3 e10)<|
 let e11:ByteArray:=(e3++e10)
 il (e11,())
 else
 il (e3,()))) fun (x3_12,_)=>
 jn (S:=ByteArray×Unit) (
 (bif (decide ((p0_5.length:Int)>(0:Int))) then
 (dg.F (p0_5,())).bind fun y13=>
 ck (ca (⟨#[32,119,104,101,114,101]⟩:ByteArray) y13.1)<|
 let e14:ByteArray:=((⟨#[32,119,104,101,114,101]⟩:ByteArray)++y13.1)
 ck (ca x3_12 e14)<|
 let e15:ByteArray:=(x3_12++e14)
 il (e15,())
 else
 il (x3_12,()))) fun (x3_16,_)=>
 ck (ca x3_16 (⟨#[32,112,105,99,107]⟩:ByteArray))<|
 let e17:ByteArray:=(x3_16++(⟨#[32,112,105,99,107]⟩:ByteArray))
 jn (S:=ByteArray×Unit) (
 aN (S:=ByteArray×Int×Unit) (fun (x3,x4,_)=>
 (bif (decide (x4<(p0_6.length:Int))) then
 (bif (decide (x4>(0:Int))) then
 ck (ca x3 (⟨#[32,44]⟩:ByteArray))<|
 let e18:ByteArray:=(x3++(⟨#[32,44]⟩:ByteArray))
 ck (ib x4 p0_6.length)<|
 let e19:Int:=(gt p0_6 x4 (0:Int))
 (de.F (e19,())).bind fun y20=>
 ck (ca (⟨#[32]⟩:ByteArray) y20.1)<|
 let e21:ByteArray:=((⟨#[32]⟩:ByteArray)++y20.1)
 ck (ca e18 e21)<|
 let e22:ByteArray:=(e18++e21)
 let e23:Int:=(wr (x4+(1:Int)))
 il (e22,e23,())
 else
 ck (ib x4 p0_6.length)<|
 let e24:Int:=(gt p0_6 x4 (0:Int))
 (de.F (e24,())).bind fun y25=>
 ck (ca (⟨#[32]⟩:ByteArray) y25.1)<|
 let e26:ByteArray:=((⟨#[32]⟩:ByteArray)++y25.1)
 ck (ca x3 e26)<|
 let e27:ByteArray:=(x3++e26)
 let e28:Int:=(wr (x4+(1:Int)))
 il (e27,e28,()))
 else
 ir (.inl (x3,())))) (e17,(0:Int),())) fun (x3_29,_)=>
 jn (S:=ByteArray×Unit) (
 (bif p0_7 then
 ck (ca x3_29 (⟨#[32,103,114,111,117,112]⟩:ByteArray))<|
 let e30:ByteArray:=(x3_29++(⟨#[32,103,114,111,117,112]⟩:ByteArray))
 il (e30,())
 else
 il (x3_29,()))) fun (x3_31,_)=>
 aN (S:=ByteArray×Int×Unit) (fun (x3,x5,_)=>
 (bif (decide (x5<(p0_8.length:Int))) then
 jn (S:=ByteArray×Unit) (
 (bif (decide (x5>(0:Int))) then
 ck (ca x3 (⟨#[32,44]⟩:ByteArray))<|
 let e32:ByteArray:=(x3++(⟨#[32,44]⟩:ByteArray))
 il (e32,())
 else
 il (x3,()))) fun (x3_33,_)=>
 ck (ib x5 p0_8.length)<|
 let e34:cU:=(gt p0_8 x5 ep.z)
 (fg.F (e34.1,[(⟨#[99,111,117,110,116]⟩:ByteArray),(⟨#[115,117,109]⟩:ByteArray),(⟨#[109,105,110]⟩:ByteArray),(⟨#[109,97,120]⟩:ByteArray)],())).bind fun y35=>
 ck (ca (⟨#[32]⟩:ByteArray) y35.1)<|
 let e36:ByteArray:=((⟨#[32]⟩:ByteArray)++y35.1)
 ck (ca x3_33 e36)<|
 let e37:ByteArray:=(x3_33++e36)
 ck (ib x5 p0_8.length)<|
 let e38:cU:=(gt p0_8 x5 ep.z)
 (bif (e38.1 !=(0:Int)) then
 ck (ib x5 p0_8.length)<|
 let e39:cU:=(gt p0_8 x5 ep.z)
 (de.F (e39.2,())).bind fun y40=>
 ck (ca (⟨#[32]⟩:ByteArray) y40.1)<|
 let e41:ByteArray:=((⟨#[32]⟩:ByteArray)++y40.1)
 ck (ca e37 e41)<|
 let e42:ByteArray:=(e37++e41)
 let e43:Int:=(wr (x5+(1:Int)))
 il (e42,e43,())
 else
 let e44:Int:=(wr (x5+(1:Int)))
 il (e37,e44,()))
 else
 ir (x3,()))) (x3_31,(0:Int),())
def dq.F:=stk dq.B
theorem dq.eq:dq.F=dq.B:=aq _
theorem dq.k:Kk fg.s [] [] Tryz.f72 dq.d dq.B:={}
def dq.s:SpL:=dq.d.e [] dq.F::fg.s
theorem dq.c:Ck dq.s []:=cS fg.c dq.k
def cQ.d:Fe:=⟨73,1,⟨[(0,.v true [.str,.sl 75 aV,.sl 78 (.sl 126 bN)])],[],[],0,[]⟩,⟨[(0,.v false [.str])],[],[],1000,[]⟩,(.s none .n (.s none .n (.s (some ⟨[(3,.v false [.str])],[],[1],0,[]⟩) (.s none .n (.b (.l ⟨[(3,.v false [.str]),(4,.v false [.int .i64])],[],[1],0,[]⟩ (.s none .n (.s none (.b (.s none .n (.s (some ⟨[(3,.v false [.str])],[],[1,4,5],0,[]⟩) .n (.s none .n (.s (some ⟨[(3,.v false [.str])],[],[1,4,5],0,[]⟩) .n (.s (some ⟨[(3,.v false [.str])],[],[1,4,5],0,[]⟩) .n .n)))))) .n))))) (.s none .n (.s none (.s none .n (.b (.l ⟨[(3,.v false [.str]),(6,.v false [.int .i64])],[],[1],0,[]⟩ .n))) .n)))))⟩
def cQ.B:ByteArray×(List aB)×(List (List ak))×Unit→Option (ByteArray×Unit):=fun (p0_0,p0_1,p0_2,_)=>
 ck (ca (⟨#[116,97,98,108,101,32]⟩:ByteArray) p0_0)<|
 let e1:ByteArray:=((⟨#[116,97,98,108,101,32]⟩:ByteArray)++p0_0)
 ck (ca e1 (⟨#[32,40]⟩:ByteArray))<|
 let e2:ByteArray:=(e1++(⟨#[32,40]⟩:ByteArray))
 jn (S:=ByteArray×Unit) (
 aN (S:=ByteArray×Int×Unit) (fun (x3,x4,_)=>
 (bif (decide (x4<(p0_1.length:Int))) then
 ck (ib x4 p0_1.length)<|
 let e3:aB:=(gt p0_1 x4 aV.z)
 jn (S:=ByteArray×Unit) (
 (bif (decide (x4>(0:Int))) then
 ck (ca x3 (⟨#[32,44]⟩:ByteArray))<|
 let e4:ByteArray:=(x3++(⟨#[32,44]⟩:ByteArray))
 il (e4,())
 else
 il (x3,()))) fun (x3_5,_)=>
 ck (ca (⟨#[32]⟩:ByteArray) e3.1)<|
 let e6:ByteArray:=((⟨#[32]⟩:ByteArray)++e3.1)
 ck (ca e6 (⟨#[32]⟩:ByteArray))<|
 let e7:ByteArray:=(e6++(⟨#[32]⟩:ByteArray))
 let e8:Int:=(wr (e3.2.1-(1:Int)))
 (fg.F (e8,[(⟨#[98,111,111,108]⟩:ByteArray),(⟨#[105,110,116]⟩:ByteArray),(⟨#[116,101,120,116]⟩:ByteArray)],())).bind fun y9=>
 ck (ca e7 y9.1)<|
 let e10:ByteArray:=(e7++y9.1)
 ck (ca x3_5 e10)<|
 let e11:ByteArray:=(x3_5++e10)
 jn (S:=ByteArray×Unit) (
 (bif e3.2.2.1 then
 ck (ca e11 (⟨#[32,110,117,108,108]⟩:ByteArray))<|
 let e12:ByteArray:=(e11++(⟨#[32,110,117,108,108]⟩:ByteArray))
 il (e12,())
 else
 il (e11,()))) fun (x3_13,_)=>
 jn (S:=ByteArray×Unit) (
 (bif e3.2.2.2.1 then
 ck (ca x3_13 (⟨#[32,117,110,105,113,117,101]⟩:ByteArray))<|
 let e14:ByteArray:=(x3_13++(⟨#[32,117,110,105,113,117,101]⟩:ByteArray))
 il (e14,())
 else
 il (x3_13,()))) fun (x3_15,_)=>
 (bif (!sq e3.2.2.2.2.1 (⟨#[]⟩:ByteArray)) then
 ck (ca (⟨#[32,114,101,102,32]⟩:ByteArray) e3.2.2.2.2.1)<|
 let e16:ByteArray:=((⟨#[32,114,101,102,32]⟩:ByteArray)++e3.2.2.2.2.1)
 ck (ca e16 (⟨#[32]⟩:ByteArray))<|
 let e17:ByteArray:=(e16++(⟨#[32]⟩:ByteArray))
 (fg.F (e3.2.2.2.2.2,[(⟨#[114,101,115,116,114,105,99,116]⟩:ByteArray),(⟨#[99,97,115,99,97,100,101]⟩:ByteArray),(⟨#[115,101,116,110,117,108,108]⟩:ByteArray)],())).bind fun y18=>
 ck (ca e17 y18.1)<|
 let e19:ByteArray:=(e17++y18.1)
 ck (ca x3_15 e19)<|
 let e20:ByteArray:=(x3_15++e19)
 let e21:Int:=(wr (x4+(1:Int)))
 il (e20,e21,())
 else
 let e22:Int:=(wr (x4+(1:Int)))
 il (x3_15,e22,()))
 else
 ir (.inl (x3,())))) (e2,(0:Int),())) fun (x3_23,_)=>
 ck (ca x3_23 (⟨#[32,41]⟩:ByteArray))<|
 let e24:ByteArray:=(x3_23++(⟨#[32,41]⟩:ByteArray))
 aN (S:=ByteArray×Int×Unit) (fun (x3,x6,_)=>
 (bif (decide (x6<(p0_2.length:Int))) then
 ck (ib x6 p0_2.length)<|
 let e25:(List ak):=(gt p0_2 x6 [])
 (dg.F (e25,())).bind fun y26=>
 ck (ca (⟨#[32,99,104,101,99,107]⟩:ByteArray) y26.1)<|
 let e27:ByteArray:=((⟨#[32,99,104,101,99,107]⟩:ByteArray)++y26.1)
 ck (ca x3 e27)<|
 let e28:ByteArray:=(x3++e27)
 let e29:Int:=(wr (x6+(1:Int)))
 il (e28,e29,())
 else
 ir (x3,()))) (e24,(0:Int),())
def cQ.F:=stk cQ.B
theorem cQ.eq:cQ.F=cQ.B:=aq _
theorem cQ.k:Kk dq.s [] [] Tryz.f73 cQ.d cQ.B:={}
def cQ.s:SpL:=cQ.d.e [] cQ.F::dq.s
theorem cQ.c:Ck cQ.s []:=cS dq.c cQ.k
def fP.d:Fe:=⟨143,1,⟨[(0,.v false [.int .u8])],[],[],0,[]⟩,⟨[(0,.v false [.bool])],[],[],1000,[]⟩,(.s none .n (.s none .n (.s none (.s none .n (.b (.l ⟨[(4,.v false [.int .i64])],[],[0,3],0,[]⟩ .n))) .n)))⟩
def fP.B:Int×Unit→Option (Bool×Unit):=fun (p0,_)=>
 aN (S:=Int×Unit) (fun (x4,_)=>
 (bif (decide (x4<((⟨#[40,41,91,93,44,61,60,43,45,42,63]⟩:ByteArray).size:Int))) then
 ck (ib x4 (⟨#[40,41,91,93,44,61,60,43,45,42,63]⟩:ByteArray).size)<|
 let e1:Int:=(bM (⟨#[40,41,91,93,44,61,60,43,45,42,63]⟩:ByteArray) (Int.toNat x4))
 (bif (e1==p0) then
 ir (true,())
 else
 let e2:Int:=(wr (x4+(1:Int)))
 il (e2,()))
 else
 ir (false,()))) ((0:Int),())
def fP.F:=stk fP.B
theorem fP.eq:fP.F=fP.B:=aq _
theorem fP.k:Kk cQ.s [] [] Tryz.f143 fP.d fP.B:={}
def fP.s:SpL:=fP.d.e [] fP.F::cQ.s
theorem fP.c:Ck fP.s []:=cS cQ.c fP.k
def eu.d:Fe:=⟨144,1,⟨[(0,.v false [.int .u8])],[],[],0,[]⟩,⟨[(0,.v false [.bool])],[],[],1000,[]⟩,.n⟩
def eu.B:Int×Unit→Option (Bool×Unit):=fun (p0,_)=>
 (bif (decide (p0≥(97:Int))) then
 some ((decide (p0≤(122:Int))),())
 else
 some (false,()))
def eu.F:=stk eu.B
theorem eu.eq:eu.F=eu.B:=aq _
theorem eu.k:Kk fP.s [] [] Tryz.f144 eu.d eu.B:={}
def eu.s:SpL:=eu.d.e [] eu.F::fP.s
theorem eu.c:Ck eu.s []:=cS fP.c eu.k
def eR.d:Fe:=⟨147,1,⟨[(0,.v false [.int .u8])],[],[],0,[]⟩,⟨[(0,.v false [.bool])],[],[],1000,[]⟩,.n⟩
def eR.B:Int×Unit→Option (Bool×Unit):=fun (p0,_)=>
 (bif (decide (p0≥(48:Int))) then
 some ((decide (p0≤(57:Int))),())
 else
 some (false,()))
def eR.F:=stk eR.B
theorem eR.eq:eR.F=eR.B:=aq _
theorem eR.k:Kk eu.s [] [] Tryz.f147 eR.d eR.B:={}
def eR.s:SpL:=eR.d.e [] eR.F::eu.s
theorem eR.c:Ck eR.s []:=cS eu.c eR.k
def eI.d:Fe:=⟨145,1,⟨[(0,.v false [.int .u8])],[],[],0,[]⟩,⟨[(0,.v false [.bool])],[],[],1000,[]⟩,.n⟩
def eI.B:Int×Unit→Option (Bool×Unit):=fun (p0,_)=>
 (eu.F (p0,())).bind fun y1=>
 (bif y1.1 then
 some (true,())
 else
 (eR.F (p0,())).bind fun y2=>
 (bif y2.1 then
 some (true,())
 else
 some ((p0==(95:Int)),())))
def eI.F:=stk eI.B
theorem eI.eq:eI.F=eI.B:=aq _
theorem eI.k:Kk eR.s [] [] Tryz.f145 eI.d eI.B:={}
def eI.s:SpL:=eI.d.e [] eI.F::eR.s
theorem eI.c:Ck eI.s []:=cS eR.c eI.k
def fm.d:Fe:=⟨146,1,⟨[(0,.v false [.str])],[],[],0,[]⟩,⟨[(0,.v false [.bool])],[],[],1000,[]⟩,(.s none .n (.s (some ⟨[],[],[0],0,[]⟩) (.s none .n (.b (.l ⟨[(3,.v false [.int .i64])],[],[0],0,[]⟩ .n))) .n))⟩
def fm.B:ByteArray×Unit→Option (Bool×Unit):=fun (p0,_)=>
 jn (S:=Unit) (
 aN (S:=Int×Unit) (fun (x3,_)=>
 (bif (decide (x3<(p0.size:Int))) then
 ck (ib x3 p0.size)<|
 let e1:Int:=(bM p0 (Int.toNat x3))
 (eI.F (e1,())).bind fun y2=>
 (bif (!y2.1) then
 ir (.inr (false,()))
 else
 let e3:Int:=(wr (x3+(1:Int)))
 il (e3,()))
 else
 ir (.inl (())))) ((0:Int),())) fun (_)=>
 (bif (decide ((p0.size:Int)≥(1:Int))) then
 (bif (decide ((p0.size:Int)≤(30:Int))) then
 ck (ib (0:Int) p0.size)<|
 let e5:Int:=(bM p0 0)
 (eu.F (e5,())).bind fun y6=>
 some (y6.1,())
 else
 some (false,()))
 else
 some (false,()))
def fm.F:=stk fm.B
theorem fm.eq:fm.F=fm.B:=aq _
theorem fm.k:Kk eI.s [] [] Tryz.f146 fm.d fm.B:={}
def fm.s:SpL:=fm.d.e [] fm.F::eI.s
theorem fm.c:Ck fm.s []:=cS eI.c fm.k
def d8.d:Fe:=⟨37,1,⟨[(0,.v false [.int .i64])],[],[],0,[]⟩,⟨[(0,.v true [.int .i64,.int .i64,.str])],[],[],1000,[]⟩,.n⟩
def d8.B:Int×Unit→Option (Int×Int×ByteArray×Unit):=fun (p0,_)=>
 some ((2:Int),p0,(⟨#[]⟩:ByteArray),())
def d8.F:=stk d8.B
theorem d8.eq:d8.F=d8.B:=aq _
theorem d8.k:Kk fm.s [] [] Tryz.f37 d8.d d8.B:={}
def d8.s:SpL:=d8.d.e [] d8.F::fm.s
theorem d8.c:Ck d8.s []:=cS fm.c d8.k
def eS.d:Fe:=⟨168,2,⟨[(0,.v true [.int .i64,.int .i64,.str]),(1,.v true [.int .i64,.int .i64,.str])],[],[],0,[]⟩,⟨[(0,.v false [.bool])],[],[],1000,[]⟩,.n⟩
def eS.B:Int×Int×ByteArray×Int×Int×ByteArray×Unit→Option (Bool×Unit):=fun (p0_0,p0_1,p0_2,p1_0,p1_1,p1_2,_)=>
 (bif (p0_0==(0:Int)) then
 some (true,())
 else
 some ((p1_0==(0:Int)),()))
def eS.F:=stk eS.B
theorem eS.eq:eS.F=eS.B:=aq _
theorem eS.k:Kk d8.s [] [] Tryz.f168 eS.d eS.B:={}
def eS.s:SpL:=eS.d.e [] eS.F::d8.s
theorem eS.c:Ck eS.s []:=cS d8.c eS.k
def fQ.d:Fe:=⟨197,2,⟨[(0,.v true [.int .i64,.int .i64,.str]),(1,.v true [.int .i64,.int .i64,.str])],[],[],0,[]⟩,⟨[(0,.v false [.bool])],[],[],1000,[]⟩,.n⟩
def fQ.B:Int×Int×ByteArray×Int×Int×ByteArray×Unit→Option (Bool×Unit):=fun (p0_0,p0_1,p0_2,p1_0,p1_1,p1_2,_)=>
 (bif (p0_0==(2:Int)) then
 some ((p1_0==(2:Int)),())
 else
 some (false,()))
def fQ.F:=stk fQ.B
theorem fQ.eq:fQ.F=fQ.B:=aq _
theorem fQ.k:Kk eS.s [] [] Tryz.f197 fQ.d fQ.B:={}
def fQ.s:SpL:=fQ.d.e [] fQ.F::eS.s
theorem fQ.c:Ck fQ.s []:=cS eS.c fQ.k
def ez.d:Fe:=⟨199,0,⟨[],[],[],0,[]⟩,⟨[(0,.v false [.int .i64])],[],[],1000,[]⟩,.n⟩
def ez.B:Unit→Option (Int×Unit):=fun (_)=>
 some ((-9223372036854775808:Int),())
def ez.F:=stk ez.B
theorem ez.eq:ez.F=ez.B:=aq _
theorem ez.k:Kk fQ.s [] [] Tryz.f199 ez.d ez.B:={}
def ez.s:SpL:=ez.d.e [] ez.F::fQ.s
theorem ez.c:Ck ez.s []:=cS fQ.c ez.k
def fB.d:Fe:=⟨164,2,⟨[(0,.v true [.int .i64,.int .i64,.str]),(1,.v true [.int .i64,.int .i64,.str])],[],[],0,[]⟩,⟨[(0,.tup [(true,[.int .i64,.int .i64,.str]),(false,[.bool])])],[],[],1000,[]⟩,(.s none .n (.s none .n (.s none .n (.s (some ⟨[],[],[2,3,4],0,[]⟩) .n (.s none (.s (some ⟨[(44,.v false [.bool])],[],[2,3,4],0,[]⟩) .n .n) .n)))))⟩
def fB.B:Int×Int×ByteArray×Int×Int×ByteArray×Unit→Option (Int×Int×ByteArray×Bool×Unit):=fun (p0_0,p0_1,p0_2,p1_0,p1_1,p1_2,_)=>
 (eS.F (p0_0,p0_1,p0_2,p1_0,p1_1,p1_2,())).bind fun y1=>
 (bif y1.1 then
 some ((0:Int),(0:Int),(⟨#[]⟩:ByteArray),true,())
 else
 (fQ.F (p0_0,p0_1,p0_2,p1_0,p1_1,p1_2,())).bind fun y2=>
 (bif (!y2.1) then
 some ((0:Int),(0:Int),(⟨#[]⟩:ByteArray),false,())
 else
 jn (S:=Unit) (
 (bif (p0_1==(0:Int)) then
 (d8.F ((0:Int),())).bind fun y3=>
 ir (y3.1,y3.2.1,y3.2.2.1,true,())
 else
 (bif (p1_1==(0:Int)) then
 (d8.F ((0:Int),())).bind fun y4=>
 ir (y4.1,y4.2.1,y4.2.2.1,true,())
 else
 il (())))) fun (_)=>
 jn (S:=Bool×Unit) (
 (bif (p0_1==(-1:Int)) then
 (ez.F (())).bind fun y6=>
 (bif (p1_1==y6.1) then
 il (true,())
 else
 (bif (p1_1==(-1:Int)) then
 (ez.F (())).bind fun y7=>
 il ((p0_1==y7.1),())
 else
 il (false,())))
 else
 (bif (p1_1==(-1:Int)) then
 (ez.F (())).bind fun y8=>
 il ((p0_1==y8.1),())
 else
 il (false,())))) fun (x44_9,_)=>
 (bif x44_9 then
 some ((0:Int),(0:Int),(⟨#[]⟩:ByteArray),false,())
 else
 let e10:Int:=(wr (p0_1*p1_1))
 ck (!decide (p1_1=0))<|
 let e11:Int:=(wr (Int.tdiv e10 p1_1))
 (bif (e11 !=p0_1) then
 some ((0:Int),(0:Int),(⟨#[]⟩:ByteArray),false,())
 else
 ck (!decide (p1_1=0))<|
 let e12:Int:=(Int.tmod e10 p1_1)
 (bif (e12 !=(0:Int)) then
 some ((0:Int),(0:Int),(⟨#[]⟩:ByteArray),false,())
 else
 (d8.F (e10,())).bind fun y13=>
 some (y13.1,y13.2.1,y13.2.2.1,true,()))))))
def fB.F:=stk fB.B
theorem fB.eq:fB.F=fB.B:=aq _
theorem fB.k:Kk ez.s [] [] Tryz.f164 fB.d fB.B:={}
def fB.s:SpL:=fB.d.e [] fB.F::ez.s
theorem fB.c:Ck fB.s []:=cS ez.c fB.k
def gi.d:Fe:=⟨198,0,⟨[],[],[],0,[]⟩,⟨[(0,.v false [.int .i64])],[],[],1000,[]⟩,.n⟩
def gi.B:Unit→Option (Int×Unit):=fun (_)=>
 some ((9223372036854775807:Int),())
def gi.F:=stk gi.B
theorem gi.eq:gi.F=gi.B:=aq _
theorem gi.k:Kk fB.s [] [] Tryz.f198 gi.d gi.B:={}
def gi.s:SpL:=gi.d.e [] gi.F::fB.s
theorem gi.c:Ck gi.s []:=cS fB.c gi.k
def fC.d:Fe:=⟨162,2,⟨[(0,.v true [.int .i64,.int .i64,.str]),(1,.v true [.int .i64,.int .i64,.str])],[],[],0,[]⟩,⟨[(0,.tup [(true,[.int .i64,.int .i64,.str]),(false,[.bool])])],[],[],1000,[]⟩,(.s none .n (.s none .n (.s none (.s (some ⟨[(41,.v false [.bool])],[],[2,3,4],0,[]⟩) .n .n) .n)))⟩
def fC.B:Int×Int×ByteArray×Int×Int×ByteArray×Unit→Option (Int×Int×ByteArray×Bool×Unit):=fun (p0_0,p0_1,p0_2,p1_0,p1_1,p1_2,_)=>
 (eS.F (p0_0,p0_1,p0_2,p1_0,p1_1,p1_2,())).bind fun y1=>
 (bif y1.1 then
 some ((0:Int),(0:Int),(⟨#[]⟩:ByteArray),true,())
 else
 jn (S:=Bool×Unit) (
 (fQ.F (p0_0,p0_1,p0_2,p1_0,p1_1,p1_2,())).bind fun y2=>
 (bif (!y2.1) then
 il (true,())
 else
 (bif (decide (p1_1>(0:Int))) then
 (gi.F (())).bind fun y3=>
 let e4:Int:=(wr (y3.1-p1_1))
 (bif (decide (p0_1>e4)) then
 il (true,())
 else
 (bif (decide (p1_1<(0:Int))) then
 (ez.F (())).bind fun y5=>
 let e6:Int:=(wr (y5.1-p1_1))
 il ((decide (p0_1<e6)),())
 else
 il (false,())))
 else
 (bif (decide (p1_1<(0:Int))) then
 (ez.F (())).bind fun y7=>
 let e8:Int:=(wr (y7.1-p1_1))
 il ((decide (p0_1<e8)),())
 else
 il (false,()))))) fun (x41_9,_)=>
 (bif x41_9 then
 some ((0:Int),(0:Int),(⟨#[]⟩:ByteArray),false,())
 else
 let e10:Int:=(wr (p0_1+p1_1))
 (d8.F (e10,())).bind fun y11=>
 some (y11.1,y11.2.1,y11.2.2.1,true,())))
def fC.F:=stk fC.B
theorem fC.eq:fC.F=fC.B:=aq _
theorem fC.k:Kk gi.s [] [] Tryz.f162 fC.d fC.B:={}
def fC.s:SpL:=fC.d.e [] fC.F::gi.s
theorem fC.c:Ck fC.s []:=cS gi.c fC.k
def fD.d:Fe:=⟨163,2,⟨[(0,.v true [.int .i64,.int .i64,.str]),(1,.v true [.int .i64,.int .i64,.str])],[],[],0,[]⟩,⟨[(0,.tup [(true,[.int .i64,.int .i64,.str]),(false,[.bool])])],[],[],1000,[]⟩,(.s none .n (.s none .n (.s none (.s (some ⟨[(41,.v false [.bool])],[],[2,3,4],0,[]⟩) .n .n) .n)))⟩
def fD.B:Int×Int×ByteArray×Int×Int×ByteArray×Unit→Option (Int×Int×ByteArray×Bool×Unit):=fun (p0_0,p0_1,p0_2,p1_0,p1_1,p1_2,_)=>
 (eS.F (p0_0,p0_1,p0_2,p1_0,p1_1,p1_2,())).bind fun y1=>
 (bif y1.1 then
 some ((0:Int),(0:Int),(⟨#[]⟩:ByteArray),true,())
 else
 jn (S:=Bool×Unit) (
 (fQ.F (p0_0,p0_1,p0_2,p1_0,p1_1,p1_2,())).bind fun y2=>
 (bif (!y2.1) then
 il (true,())
 else
 (bif (decide (p1_1<(0:Int))) then
 (gi.F (())).bind fun y3=>
 let e4:Int:=(wr (y3.1+p1_1))
 (bif (decide (p0_1>e4)) then
 il (true,())
 else
 (bif (decide (p1_1>(0:Int))) then
 (ez.F (())).bind fun y5=>
 let e6:Int:=(wr (y5.1+p1_1))
 il ((decide (p0_1<e6)),())
 else
 il (false,())))
 else
 (bif (decide (p1_1>(0:Int))) then
 (ez.F (())).bind fun y7=>
 let e8:Int:=(wr (y7.1+p1_1))
 il ((decide (p0_1<e8)),())
 else
 il (false,()))))) fun (x41_9,_)=>
 (bif x41_9 then
 some ((0:Int),(0:Int),(⟨#[]⟩:ByteArray),false,())
 else
 let e10:Int:=(wr (p0_1-p1_1))
 (d8.F (e10,())).bind fun y11=>
 some (y11.1,y11.2.1,y11.2.2.1,true,())))
def fD.F:=stk fD.B
theorem fD.eq:fD.F=fD.B:=aq _
theorem fD.k:Kk fC.s [] [] Tryz.f163 fD.d fD.B:={}
def fD.s:SpL:=fD.d.e [] fD.F::fC.s
theorem fD.c:Ck fD.s []:=cS fC.c fD.k
def dD.d:Fe:=⟨148,1,⟨[(0,.v false [.str])],[],[],0,[]⟩,⟨[(0,.tup [(false,[.int .i64]),(false,[.bool])])],[],[],1000,[]⟩,(.s none .n (.s none .n (.s none .n (.s none .n (.s (some ⟨[(5,.v false [.ptr 0 0]),(6,.v false [.bool])],[(0,true,.box 47 [.int .i64,.int .i64,.str])],[0],1,[]⟩) (.s none .n (.b (.l ⟨[(5,.v false [.ptr 0 0]),(6,.v false [.bool]),(7,.v false [.int .i64])],[(0,true,.box 47 [.int .i64,.int .i64,.str])],[0,4],1,[]⟩ (.s none .n (.s (some ⟨[(5,.v false [.ptr 0 0]),(6,.v false [.bool])],[(0,true,.box 47 [.int .i64,.int .i64,.str])],[0,4,7],1,[]⟩) .n .n))))) .n)))))⟩
def dD.B:ByteArray×Unit→Option (Int×Bool×Unit):=fun (p0,_)=>
 ck (ib (0:Int) p0.size)<|
 let e1:Int:=(bM p0 0)
 jn (S:=Bool×Int×Int×ByteArray×Unit) (
 aN (S:=Bool×Int×Int×Int×ByteArray×Unit) (fun (x6,x7,o5_0_0,o5_0_1,o5_0_2,_)=>
 (bif (decide (x7<(p0.size:Int))) then
 jn (S:=Bool×Int×Int×ByteArray×Unit) (
 ck (ib x7 p0.size)<|
 let e2:Int:=(bM p0 (Int.toNat x7))
 (bif (e2==(45:Int)) then
 il (x6,o5_0_0,o5_0_1,o5_0_2,())
 else
 ck (ib x7 p0.size)<|
 let e3:Int:=(bM p0 (Int.toNat x7))
 let e4:Int:=(IntKind.u8.wrap (e3-(48:Int)))
 (d8.F ((wr (e4)),())).bind fun y5=>
 (d8.F ((10:Int),())).bind fun y6=>
 (fB.F (o5_0_0,o5_0_1,o5_0_2,y6.1,y6.2.1,y6.2.2.1,())).bind fun y7=>
 (fC.F (y7.1,y7.2.1,y7.2.2.1,y5.1,y5.2.1,y5.2.2.1,())).bind fun y8=>
 (bif (e1==(45:Int)) then
 (fD.F (y7.1,y7.2.1,y7.2.2.1,y5.1,y5.2.1,y5.2.2.1,())).bind fun y9=>
 (bif x6 then
 (bif y7.2.2.2.1 then
 il (y9.2.2.2.1,y9.1,y9.2.1,y9.2.2.1,())
 else
 il (false,y9.1,y9.2.1,y9.2.2.1,()))
 else
 il (false,y9.1,y9.2.1,y9.2.2.1,()))
 else
 (bif x6 then
 (bif y7.2.2.2.1 then
 il (y8.2.2.2.1,y8.1,y8.2.1,y8.2.2.1,())
 else
 il (false,y8.1,y8.2.1,y8.2.2.1,()))
 else
 il (false,y8.1,y8.2.1,y8.2.2.1,()))))) fun (x6_10,o5_0_0_10,o5_0_1_10,o5_0_2_10,_)=>
 let e11:Int:=(wr (x7+(1:Int)))
 il (x6_10,e11,o5_0_0_10,o5_0_1_10,o5_0_2_10,())
 else
 ir (.inl (x6,o5_0_0,o5_0_1,o5_0_2,())))) (true,(0:Int),(2:Int),(0:Int),(⟨#[]⟩:ByteArray),())) fun (x6_12,o5_0_0_12,o5_0_1_12,o5_0_2_12,_)=>
 (bif x6_12 then
 (de.F (o5_0_1_12,())).bind fun y13=>
 some (o5_0_1_12,(sq y13.1 p0),())
 else
 some (o5_0_1_12,false,()))
def dD.F:=stk dD.B
theorem dD.eq:dD.F=dD.B:=aq _
theorem dD.k:Kk fD.s [] [] Tryz.f148 dD.d dD.B:={}
def dD.s:SpL:=dD.d.e [] dD.F::fD.s
theorem dD.c:Ck dD.s []:=cS fD.c dD.k
def fF.d:Fe:=⟨149,2,⟨[(0,.v false [.str]),(1,.v false [.int .i64])],[],[],0,[]⟩,⟨[(0,.tup [(false,[.str]),(false,[.int .i64]),(false,[.bool])])],[],[],1000,[]⟩,(.s none .n (.s none .n (.s none .n (.s none (.b (.l ⟨[(7,.v false [.str]),(8,.v false [.int .i64])],[],[0],0,[]⟩ .n)) .n))))⟩
def fF.B:ByteArray×Int×Unit→Option (ByteArray×Int×Bool×Unit):=fun (p0,p1,_)=>
 let e1:Int:=(wr (p1+(1:Int)))
 aN (S:=ByteArray×Int×Unit) (fun (x7,x8,_)=>
 (bif (decide (x8<(p0.size:Int))) then
 ck (ib x8 p0.size)<|
 let e2:Int:=(bM p0 (Int.toNat x8))
 (bif (e2 !=(39:Int)) then
 let e3:Int:=(wr (x8+(1:Int)))
 ck (sb x8 e3 p0.size)<|
 let e4:ByteArray:=(p0.extract (Int.toNat x8) (Int.toNat e3))
 ck (ca x7 e4)<|
 let e5:ByteArray:=(x7++e4)
 let e6:Int:=(wr (x8+(1:Int)))
 il (e5,e6,())
 else
 let e7:Int:=(wr (x8+(1:Int)))
 (bif (decide (e7<(p0.size:Int))) then
 let e8:Int:=(wr (x8+(1:Int)))
 ck (ib e8 p0.size)<|
 let e9:Int:=(bM p0 (Int.toNat e8))
 (bif (e9==(39:Int)) then
 ck (ca x7 (⟨#[39]⟩:ByteArray))<|
 let e10:ByteArray:=(x7++(⟨#[39]⟩:ByteArray))
 let e11:Int:=(wr (x8+(2:Int)))
 il (e10,e11,())
 else
 let e12:Int:=(wr (x8+(1:Int)))
 ir (x7,e12,(decide ((x7.size:Int)≤(1000:Int))),()))
 else
 let e13:Int:=(wr (x8+(1:Int)))
 ir (x7,e13,(decide ((x7.size:Int)≤(1000:Int))),())))
 else
 ir ((⟨#[]⟩:ByteArray),(0:Int),false,()))) ((⟨#[]⟩:ByteArray),e1,())
def fF.F:=stk fF.B
theorem fF.eq:fF.F=fF.B:=aq _
theorem fF.k:Kk dD.s [] [] Tryz.f149 fF.d fF.B:={}
def fF.s:SpL:=fF.d.e [] fF.F::dD.s
theorem fF.c:Ck fF.s []:=cS dD.c fF.k
def gg.d:Fe:=⟨109,1,⟨[(0,.v false [.str])],[],[],0,[]⟩,⟨[(0,.tup [(false,[.ref 1000]),(false,[.int .i64])])],[(1000,false,.arr 195 dS)],[],1001,[]⟩,(.s none .n (.s none .n (.s none .n (.s none .n (.s none (.b (.l ⟨[(4,.v false [.ref 0]),(5,.v false [.int .i64])],[(0,false,.arr 195 dS)],[0],1,[]⟩ (.s none .n (.b (.s none .n (.s none .n (.s none .n (.s none .n (.s none .n (.s (some ⟨[(7,.v false [.int .i64]),(8,.v false [.ptr 0 0]),(9,.v false [.bool])],[(0,true,.box 195 [.int .i64,.str,.int .i64,.int .i64,.str])],[0,4],1,[]⟩) (.s none .n (.c (.s (some ⟨[(7,.v false [.int .i64])],[],[0,4,5,8],0,[]⟩) (.b (.l ⟨[(7,.v false [.int .i64])],[],[0,4,5,8],0,[]⟩ .n)) .n) (.s (some ⟨[(80,.v false [.bool])],[],[0,4,5,6,7,8,9],0,[]⟩) .n (.c (.s (some ⟨[(7,.v false [.int .i64])],[],[0,4,5,8],0,[]⟩) (.b (.l ⟨[(7,.v false [.int .i64])],[],[0,4,5,8],0,[]⟩ .n)) .n) .n)))) .n)))))))))) .n)))))⟩
def gg.B:ByteArray×Unit→Option (Int×(List aX)×Unit):=fun (p0,_)=>
 (bif (decide ((p0.size:Int)>(20000:Int))) then
 some ((60:Int),[],())
 else
 aN (S:=Int×(List aX)×Unit) (fun (x5,o4_0,_)=>
 (bif (decide (x5<(p0.size:Int))) then
 ck (ib x5 p0.size)<|
 let e1:Int:=(bM p0 (Int.toNat x5))
 let e2:Int:=(wr (x5+(1:Int)))
 ck (sb x5 e2 p0.size)<|
 let e3:ByteArray:=(p0.extract (Int.toNat x5) (Int.toNat e2))
 (fP.F (e1,())).bind fun y4=>
 (bif (e1==(32:Int)) then
 let e5:Int:=(wr (x5+(1:Int)))
 il (e5,o4_0,())
 else
 jn (S:=Int×Bool×Int×ByteArray×Int×Int×ByteArray×Unit) (
 (eu.F (e1,())).bind fun y6=>
 (bif y6.1 then
 jn (S:=Int×Unit) (
 aN (S:=Int×Unit) (fun (x7',_)=>
 (bif (decide (x7'<(p0.size:Int))) then
 ck (ib x7' p0.size)<|
 let e7:Int:=(bM p0 (Int.toNat x7'))
 (eI.F (e7,())).bind fun y8=>
 (bif y8.1 then
 let e9:Int:=(wr (x7'+(1:Int)))
 il (e9,())
 else
 ir (.inl (x7',())))
 else
 ir (.inl (x7',())))) (e2,())) fun (x7_10,_)=>
 ck (sb x5 x7_10 p0.size)<|
 let e11:ByteArray:=(p0.extract (Int.toNat x5) (Int.toNat x7_10))
 ck (sb x5 x7_10 p0.size)<|
 let e12:ByteArray:=(p0.extract (Int.toNat x5) (Int.toNat x7_10))
 (fm.F (e12,())).bind fun y13=>
 il (x7_10,y13.1,(0:Int),e11,(0:Int),(0:Int),(⟨#[]⟩:ByteArray),())
 else
 jn (S:=Bool×Unit) (
 (eR.F (e1,())).bind fun y14=>
 (bif y14.1 then
 il (true,())
 else
 (bif (e1==(45:Int)) then
 (bif (decide (e2<(p0.size:Int))) then
 ck (ib e2 p0.size)<|
 let e15:Int:=(bM p0 (Int.toNat e2))
 (eR.F (e15,())).bind fun y16=>
 il (y16.1,())
 else
 il (false,()))
 else
 il (false,())))) fun (x80_17,_)=>
 (bif x80_17 then
 jn (S:=Int×Unit) (
 aN (S:=Int×Unit) (fun (x7',_)=>
 (bif (decide (x7'<(p0.size:Int))) then
 ck (ib x7' p0.size)<|
 let e18:Int:=(bM p0 (Int.toNat x7'))
 (eR.F (e18,())).bind fun y19=>
 (bif y19.1 then
 let e20:Int:=(wr (x7'+(1:Int)))
 il (e20,())
 else
 ir (.inl (x7',())))
 else
 ir (.inl (x7',())))) (e2,())) fun (x7_21,_)=>
 ck (sb x5 x7_21 p0.size)<|
 let e22:ByteArray:=(p0.extract (Int.toNat x5) (Int.toNat x7_21))
 (dD.F (e22,())).bind fun y23=>
 (d8.F (y23.1,())).bind fun y24=>
 il (x7_21,y23.2.1,(1:Int),(⟨#[]⟩:ByteArray),y24.1,y24.2.1,y24.2.2.1,())
 else
 (bif (e1==(39:Int)) then
 (fF.F (p0,x5,())).bind fun y25=>
 il (y25.2.1,y25.2.2.1,(1:Int),(⟨#[]⟩:ByteArray),(3:Int),(0:Int),y25.1,())
 else
 il (e2,y4.1,(2:Int),e3,(0:Int),(0:Int),(⟨#[]⟩:ByteArray),()))))) fun (x7_26,x9_26,o8_0_0_26,o8_0_1_26,o8_0_2_26,o8_0_3_26,o8_0_4_26,_)=>
 (bif (!x9_26) then
 ir ((60:Int),[],())
 else
 ck (Nat.ble (o4_0.length+ [(o8_0_0_26,(o8_0_1_26,(o8_0_2_26,(o8_0_3_26,o8_0_4_26))))].length) 2513169434916)<|
 il (x7_26,(o4_0++ [(o8_0_0_26,(o8_0_1_26,(o8_0_2_26,(o8_0_3_26,o8_0_4_26))))]),())))
 else
 ir ((0:Int),o4_0,()))) ((0:Int),([]:List aX),()))
def gg.F:=stk gg.B
theorem gg.eq:gg.F=gg.B:=aq _
theorem gg.k:Kk fF.s [] [] Tryz.f109 gg.d gg.B:={}
def gg.s:SpL:=gg.d.e [] gg.F::fF.s
theorem gg.c:Ck gg.s []:=cS fF.c gg.k
def cH.d:Fe:=⟨156,2,⟨[(0,.v false [.ptr 0 0]),(1,.v false [.str])],[(0,true,.box 163 [.sl 195 dS,.int .i64,.bool])],[],1,[]⟩,⟨[(0,.v false [.bool])],[(0,true,.box 163 [.sl 195 dS,.int .i64,.bool])],[],1001,[(0,0)]⟩,.n⟩
def cH.B:ByteArray×(List aX)×Int×Bool×Unit→Option (Bool×(List aX)×Int×Bool×Unit):=fun (p1,o0_0,o0_1,o0_2,_)=>
 (bif (decide (o0_1<(o0_0.length:Int))) then
 ck (ib o0_1 o0_0.length)<|
 let e1:aX:=(gt o0_0 o0_1 dS.z)
 (bif (e1.1 !=(1:Int)) then
 ck (ib o0_1 o0_0.length)<|
 let e2:aX:=(gt o0_0 o0_1 dS.z)
 some ((sq e2.2.1 p1),o0_0,o0_1,o0_2,())
 else
 some (false,o0_0,o0_1,o0_2,()))
 else
 some (false,o0_0,o0_1,o0_2,()))
def cH.F:=stk cH.B
theorem cH.eq:cH.F=cH.B:=aq _
theorem cH.k:Kk gg.s [] [] Tryz.f156 cH.d cH.B:={}
def cH.s:SpL:=cH.d.e [] cH.F::gg.s
theorem cH.c:Ck cH.s []:=cS gg.c cH.k
def aR.d:Fe:=⟨150,2,⟨[(0,.v false [.ptr 0 0]),(1,.v false [.str])],[(0,true,.box 163 [.sl 195 dS,.int .i64,.bool])],[],1,[]⟩,⟨[(0,.v false [.bool])],[(0,true,.box 163 [.sl 195 dS,.int .i64,.bool])],[],1001,[(0,0)]⟩,.n⟩
def aR.B:ByteArray×(List aX)×Int×Bool×Unit→Option (Bool×(List aX)×Int×Bool×Unit):=fun (p1,o0_0,o0_1,o0_2,_)=>
 (cH.F (p1,o0_0,o0_1,o0_2,())).bind fun y1=>
 (bif y1.1 then
 let e2:Int:=(wr (y1.2.2.1+(1:Int)))
 some (true,y1.2.1,e2,y1.2.2.2.1,())
 else
 some (false,y1.2.1,y1.2.2.1,y1.2.2.2.1,()))
def aR.F:=stk aR.B
theorem aR.eq:aR.F=aR.B:=aq _
theorem aR.k:Kk cH.s [] [] Tryz.f150 aR.d aR.B:={}
def aR.s:SpL:=aR.d.e [] aR.F::cH.s
theorem aR.c:Ck aR.s []:=cS cH.c aR.k
def cq.d:Fe:=⟨110,2,⟨[(0,.v false [.ptr 0 0]),(1,.v false [.sl 9 .str])],[(0,true,.box 163 [.sl 195 dS,.int .i64,.bool])],[],1,[]⟩,⟨[(0,.v false [.int .i64])],[(0,true,.box 163 [.sl 195 dS,.int .i64,.bool])],[],1001,[(0,0)]⟩,(.s none .n (.s (some ⟨[(0,.v false [.ptr 0 0])],[(0,true,.box 163 [.sl 195 dS,.int .i64,.bool])],[],1,[]⟩) (.s none .n (.b (.l ⟨[(0,.v false [.ptr 0 0]),(5,.v false [.int .i64])],[(0,true,.box 163 [.sl 195 dS,.int .i64,.bool])],[1],1,[]⟩ .n))) .n))⟩
def cq.B:(List ByteArray)×(List aX)×Int×Bool×Unit→Option (Int×(List aX)×Int×Bool×Unit):=fun (p1,o0_0,o0_1,o0_2,_)=>
 jn (S:=(List aX)×Int×Bool×Unit) (
 aN (S:=Int×(List aX)×Int×Bool×Unit) (fun (x5,o0_0_0,o0_0_1,o0_0_2,_)=>
 (bif (decide (x5<(p1.length:Int))) then
 ck (ib x5 p1.length)<|
 let e1:ByteArray:=(gt p1 x5 (⟨#[]⟩:ByteArray))
 (aR.F (e1,o0_0_0,o0_0_1,o0_0_2,())).bind fun y2=>
 (bif y2.1 then
 ir (.inr (x5,y2.2.1,y2.2.2.1,y2.2.2.2.1,()))
 else
 let e3:Int:=(wr (x5+(1:Int)))
 il (e3,y2.2.1,y2.2.2.1,y2.2.2.2.1,()))
 else
 ir (.inl (o0_0_0,o0_0_1,o0_0_2,())))) ((0:Int),o0_0,o0_1,o0_2,())) fun (o0_0_0_4,o0_0_1_4,o0_0_2_4,_)=>
 some ((0:Int),o0_0_0_4,o0_0_1_4,false,())
def cq.F:=stk cq.B
theorem cq.eq:cq.F=cq.B:=aq _
theorem cq.k:Kk aR.s [] [] Tryz.f110 cq.d cq.B:={}
def cq.s:SpL:=cq.d.e [] cq.F::aR.s
theorem cq.c:Ck cq.s []:=cS aR.c cq.k
def bC.d:Fe:=⟨189,1,⟨[(0,.v false [.ptr 0 0])],[(0,true,.box 163 [.sl 195 dS,.int .i64,.bool])],[],1,[]⟩,⟨[(0,.v true [.int .i64,.str,.int .i64,.int .i64,.str])],[(0,true,.box 163 [.sl 195 dS,.int .i64,.bool])],[],1001,[(0,0)]⟩,.n⟩
def bC.B:(List aX)×Int×Bool×Unit→Option (Int×ByteArray×Int×Int×ByteArray×(List aX)×Int×Bool×Unit):=fun (o0_0,o0_1,o0_2,_)=>
 (bif (decide (o0_1≥(o0_0.length:Int))) then
 some ((-1:Int),(⟨#[]⟩:ByteArray),(0:Int),(0:Int),(⟨#[]⟩:ByteArray),o0_0,o0_1,false,())
 else
 let e1:Int:=(wr (o0_1+(1:Int)))
 let e2:Int:=(wr (e1-(1:Int)))
 ck (ib e2 o0_0.length)<|
 let e3:aX:=(gt o0_0 e2 dS.z)
 some (e3.1,e3.2.1,e3.2.2.1,e3.2.2.2.1,e3.2.2.2.2,o0_0,e1,o0_2,()))
def bC.F:=stk bC.B
theorem bC.eq:bC.F=bC.B:=aq _
theorem bC.k:Kk cq.s [] [] Tryz.f189 bC.d bC.B:={}
def bC.s:SpL:=bC.d.e [] bC.F::cq.s
theorem bC.c:Ck bC.s []:=cS cq.c bC.k
def dG.d:Fe:=⟨212,1,⟨[(0,.v false [.str])],[],[],0,[]⟩,⟨[(0,.v false [.bool])],[],[],1000,[]⟩,(.s none .n (.s none .n (.s none (.s none .n (.b (.l ⟨[(4,.v false [.int .i64])],[],[0,3],0,[]⟩ .n))) .n)))⟩
def dG.B:ByteArray×Unit→Option (Bool×Unit):=fun (p0,_)=>
 aN (S:=Int×Unit) (fun (x4,_)=>
 (bif (decide (x4<([(⟨#[116,97,98,108,101]⟩:ByteArray),(⟨#[99,104,101,99,107]⟩:ByteArray),(⟨#[118,105,101,119]⟩:ByteArray),(⟨#[102,114,111,109]⟩:ByteArray),(⟨#[106,111,105,110]⟩:ByteArray),(⟨#[111,110]⟩:ByteArray),(⟨#[119,104,101,114,101]⟩:ByteArray),(⟨#[112,105,99,107]⟩:ByteArray),(⟨#[103,114,111,117,112]⟩:ByteArray),(⟨#[98,111,111,108]⟩:ByteArray),(⟨#[105,110,116]⟩:ByteArray),(⟨#[116,101,120,116]⟩:ByteArray),(⟨#[110,117,108,108]⟩:ByteArray),(⟨#[117,110,105,113,117,101]⟩:ByteArray),(⟨#[114,101,102]⟩:ByteArray),(⟨#[114,101,115,116,114,105,99,116]⟩:ByteArray),(⟨#[99,97,115,99,97,100,101]⟩:ByteArray),(⟨#[115,101,116,110,117,108,108]⟩:ByteArray),(⟨#[99,111,117,110,116]⟩:ByteArray),(⟨#[115,117,109]⟩:ByteArray),(⟨#[109,105,110]⟩:ByteArray),(⟨#[109,97,120]⟩:ByteArray),(⟨#[116,114,117,101]⟩:ByteArray),(⟨#[102,97,108,115,101]⟩:ByteArray),(⟨#[97,110,100]⟩:ByteArray),(⟨#[111,114]⟩:ByteArray),(⟨#[110,111,116]⟩:ByteArray)].length:Int))) then
 ck (ib x4 [(⟨#[116,97,98,108,101]⟩:ByteArray),(⟨#[99,104,101,99,107]⟩:ByteArray),(⟨#[118,105,101,119]⟩:ByteArray),(⟨#[102,114,111,109]⟩:ByteArray),(⟨#[106,111,105,110]⟩:ByteArray),(⟨#[111,110]⟩:ByteArray),(⟨#[119,104,101,114,101]⟩:ByteArray),(⟨#[112,105,99,107]⟩:ByteArray),(⟨#[103,114,111,117,112]⟩:ByteArray),(⟨#[98,111,111,108]⟩:ByteArray),(⟨#[105,110,116]⟩:ByteArray),(⟨#[116,101,120,116]⟩:ByteArray),(⟨#[110,117,108,108]⟩:ByteArray),(⟨#[117,110,105,113,117,101]⟩:ByteArray),(⟨#[114,101,102]⟩:ByteArray),(⟨#[114,101,115,116,114,105,99,116]⟩:ByteArray),(⟨#[99,97,115,99,97,100,101]⟩:ByteArray),(⟨#[115,101,116,110,117,108,108]⟩:ByteArray),(⟨#[99,111,117,110,116]⟩:ByteArray),(⟨#[115,117,109]⟩:ByteArray),(⟨#[109,105,110]⟩:ByteArray),(⟨#[109,97,120]⟩:ByteArray),(⟨#[116,114,117,101]⟩:ByteArray),(⟨#[102,97,108,115,101]⟩:ByteArray),(⟨#[97,110,100]⟩:ByteArray),(⟨#[111,114]⟩:ByteArray),(⟨#[110,111,116]⟩:ByteArray)].length)<|
 let e1:ByteArray:=(List.getD [(⟨#[116,97,98,108,101]⟩:ByteArray),(⟨#[99,104,101,99,107]⟩:ByteArray),(⟨#[118,105,101,119]⟩:ByteArray),(⟨#[102,114,111,109]⟩:ByteArray),(⟨#[106,111,105,110]⟩:ByteArray),(⟨#[111,110]⟩:ByteArray),(⟨#[119,104,101,114,101]⟩:ByteArray),(⟨#[112,105,99,107]⟩:ByteArray),(⟨#[103,114,111,117,112]⟩:ByteArray),(⟨#[98,111,111,108]⟩:ByteArray),(⟨#[105,110,116]⟩:ByteArray),(⟨#[116,101,120,116]⟩:ByteArray),(⟨#[110,117,108,108]⟩:ByteArray),(⟨#[117,110,105,113,117,101]⟩:ByteArray),(⟨#[114,101,102]⟩:ByteArray),(⟨#[114,101,115,116,114,105,99,116]⟩:ByteArray),(⟨#[99,97,115,99,97,100,101]⟩:ByteArray),(⟨#[115,101,116,110,117,108,108]⟩:ByteArray),(⟨#[99,111,117,110,116]⟩:ByteArray),(⟨#[115,117,109]⟩:ByteArray),(⟨#[109,105,110]⟩:ByteArray),(⟨#[109,97,120]⟩:ByteArray),(⟨#[116,114,117,101]⟩:ByteArray),(⟨#[102,97,108,115,101]⟩:ByteArray),(⟨#[97,110,100]⟩:ByteArray),(⟨#[111,114]⟩:ByteArray),(⟨#[110,111,116]⟩:ByteArray)] (Int.toNat x4) (⟨#[]⟩:ByteArray))
 (bif (sq e1 p0) then
 ir (true,())
 else
 let e2:Int:=(wr (x4+(1:Int)))
 il (e2,()))
 else
 ir (false,()))) ((0:Int),())
def dG.F:=stk dG.B
theorem dG.eq:dG.F=dG.B:=aq _
theorem dG.k:Kk bC.s [] [] Tryz.f212 dG.d dG.B:={}
def dG.s:SpL:=dG.d.e [] dG.F::bC.s
theorem dG.c:Ck dG.s []:=cS bC.c dG.k
def fG.d:Fe:=⟨190,1,⟨[(0,.v false [.str])],[],[],0,[]⟩,⟨[(0,.v false [.bool])],[],[],1000,[]⟩,.n⟩
def fG.B:ByteArray×Unit→Option (Bool×Unit):=fun (p0,_)=>
 (fm.F (p0,())).bind fun y1=>
 (bif y1.1 then
 (dG.F (p0,())).bind fun y2=>
 some ((!y2.1),())
 else
 some (false,()))
def fG.F:=stk fG.B
theorem fG.eq:fG.F=fG.B:=aq _
theorem fG.k:Kk dG.s [] [] Tryz.f190 fG.d fG.B:={}
def fG.s:SpL:=fG.d.e [] fG.F::dG.s
theorem fG.c:Ck fG.s []:=cS dG.c fG.k
def bV.d:Fe:=⟨151,1,⟨[(0,.v false [.ptr 0 0])],[(0,true,.box 163 [.sl 195 dS,.int .i64,.bool])],[],1,[]⟩,⟨[(0,.v false [.str])],[(0,true,.box 163 [.sl 195 dS,.int .i64,.bool])],[],1001,[(0,0)]⟩,.n⟩
def bV.B:(List aX)×Int×Bool×Unit→Option (ByteArray×(List aX)×Int×Bool×Unit):=fun (o0_0,o0_1,o0_2,_)=>
 (bC.F (o0_0,o0_1,o0_2,())).bind fun y1=>
 (bif (y1.1 !=(0:Int)) then
 some (y1.2.1,y1.2.2.2.2.2.1,y1.2.2.2.2.2.2.1,false,())
 else
 (fG.F (y1.2.1,())).bind fun y2=>
 (bif (!y2.1) then
 some (y1.2.1,y1.2.2.2.2.2.1,y1.2.2.2.2.2.2.1,false,())
 else
 some (y1.2.1,y1.2.2.2.2.2.1,y1.2.2.2.2.2.2.1,y1.2.2.2.2.2.2.2.1,())))
def bV.F:=stk bV.B
theorem bV.eq:bV.F=bV.B:=aq _
theorem bV.k:Kk fG.s [] [] Tryz.f151 bV.d bV.B:={}
def bV.s:SpL:=bV.d.e [] bV.F::fG.s
theorem bV.c:Ck bV.s []:=cS fG.c bV.k
def bP.d:Fe:=⟨152,2,⟨[(0,.v false [.ptr 0 0]),(1,.v false [.str])],[(0,true,.box 163 [.sl 195 dS,.int .i64,.bool])],[],1,[]⟩,⟨[(0,.tup [])],[(0,true,.box 163 [.sl 195 dS,.int .i64,.bool])],[],1001,[(0,0)]⟩,.n⟩
def bP.B:ByteArray×(List aX)×Int×Bool×Unit→Option ((List aX)×Int×Bool×Unit):=fun (p1,o0_0,o0_1,o0_2,_)=>
 (aR.F (p1,o0_0,o0_1,o0_2,())).bind fun y1=>
 (bif (!y1.1) then
 some (y1.2.1,y1.2.2.1,false,())
 else
 some (y1.2.1,y1.2.2.1,y1.2.2.2.1,()))
def bP.F:=stk bP.B
theorem bP.eq:bP.F=bP.B:=aq _
theorem bP.k:Kk bV.s [] [] Tryz.f152 bP.d bP.B:={}
def bP.s:SpL:=bP.d.e [] bP.F::bV.s
theorem bP.c:Ck bP.s []:=cS bV.c bP.k
def bQ.d:Fe:=⟨153,1,⟨[(0,.v false [.ptr 0 0])],[(0,true,.box 163 [.sl 195 dS,.int .i64,.bool])],[],1,[]⟩,⟨[(0,.v true [.str,.int .i64,.bool,.bool,.str,.int .i64])],[(0,true,.box 163 [.sl 195 dS,.int .i64,.bool])],[],1001,[(0,0)]⟩,.n⟩
def bQ.B:(List aX)×Int×Bool×Unit→Option (ByteArray×Int×Bool×Bool×ByteArray×Int×(List aX)×Int×Bool×Unit):=fun (o0_0,o0_1,o0_2,_)=>
 (bV.F (o0_0,o0_1,o0_2,())).bind fun y1=>
 (cq.F ([(⟨#[98,111,111,108]⟩:ByteArray),(⟨#[105,110,116]⟩:ByteArray),(⟨#[116,101,120,116]⟩:ByteArray)],y1.2.1,y1.2.2.1,y1.2.2.2.1,())).bind fun y2=>
 let e3:Int:=(wr ((1:Int)+y2.1))
 (aR.F ((⟨#[110,117,108,108]⟩:ByteArray),y2.2.1,y2.2.2.1,y2.2.2.2.1,())).bind fun y4=>
 (aR.F ((⟨#[117,110,105,113,117,101]⟩:ByteArray),y4.2.1,y4.2.2.1,y4.2.2.2.1,())).bind fun y5=>
 (aR.F ((⟨#[114,101,102]⟩:ByteArray),y5.2.1,y5.2.2.1,y5.2.2.2.1,())).bind fun y6=>
 (bif y6.1 then
 (bV.F (y6.2.1,y6.2.2.1,y6.2.2.2.1,())).bind fun y7=>
 (cq.F ([(⟨#[114,101,115,116,114,105,99,116]⟩:ByteArray),(⟨#[99,97,115,99,97,100,101]⟩:ByteArray),(⟨#[115,101,116,110,117,108,108]⟩:ByteArray)],y7.2.1,y7.2.2.1,y7.2.2.2.1,())).bind fun y8=>
 some (y1.1,e3,y4.1,y5.1,y7.1,y8.1,y8.2.1,y8.2.2.1,y8.2.2.2.1,())
 else
 some (y1.1,e3,y4.1,y5.1,(⟨#[]⟩:ByteArray),(0:Int),y6.2.1,y6.2.2.1,y6.2.2.2.1,()))
def bQ.F:=stk bQ.B
theorem bQ.eq:bQ.F=bQ.B:=aq _
theorem bQ.k:Kk bP.s [] [] Tryz.f153 bQ.d bQ.B:={}
def bQ.s:SpL:=bQ.d.e [] bQ.F::bP.s
theorem bQ.c:Ck bQ.s []:=cS bP.c bQ.k
def cY.d:Fe:=⟨83,1,⟨[(0,.v false [.bool])],[],[],0,[]⟩,⟨[(0,.v true [.int .i64,.int .i64,.str])],[],[],1000,[]⟩,.n⟩
def cY.B:Bool×Unit→Option (Int×Int×ByteArray×Unit):=fun (p0,_)=>
 (bif p0 then
 some ((1:Int),(1:Int),(⟨#[]⟩:ByteArray),())
 else
 some ((1:Int),(0:Int),(⟨#[]⟩:ByteArray),()))
def cY.F:=stk cY.B
theorem cY.eq:cY.F=cY.B:=aq _
theorem cY.k:Kk bQ.s [] [] Tryz.f83 cY.d cY.B:={}
def cY.s:SpL:=cY.d.e [] cY.F::bQ.s
theorem cY.c:Ck cY.s []:=cS bQ.c cY.k
def ct.d:Fe:=⟨191,1,⟨[(0,.v false [.ptr 0 0])],[(0,true,.box 163 [.sl 195 dS,.int .i64,.bool])],[],1,[]⟩,⟨[(0,.v true [.int .i64,.int .i64,.int .i64,.int .i64,.str])],[(0,true,.box 163 [.sl 195 dS,.int .i64,.bool])],[],1001,[(0,0)]⟩,(.s none .n (.s none .n (.s none .n (.s none .n (.s none .n (.s (some ⟨[(0,.v false [.ptr 0 0])],[(0,true,.box 163 [.sl 195 dS,.int .i64,.bool])],[2],1,[]⟩) (.s none .n (.b (.l ⟨[(0,.v false [.ptr 0 0]),(4,.v false [.int .i64])],[(0,true,.box 163 [.sl 195 dS,.int .i64,.bool])],[2,3],1,[]⟩ .n))) (.s none .n (.s none .n (.s (some ⟨[],[],[0,2],0,[]⟩) (.s none .n (.b (.l ⟨[(6,.v false [.int .i64])],[],[0,2,5],0,[]⟩ .n))) .n)))))))))⟩
def ct.B:(List aX)×Int×Bool×Unit→Option (Int×Int×Int×Int×ByteArray×(List aX)×Int×Bool×Unit):=fun (o0_0,o0_1,o0_2,_)=>
 (aR.F ((⟨#[110,117,108,108]⟩:ByteArray),o0_0,o0_1,o0_2,())).bind fun y1=>
 (bif y1.1 then
 (aR.F ((⟨#[63]⟩:ByteArray),y1.2.1,y1.2.2.1,y1.2.2.2.1,())).bind fun y2=>
 (bif y2.1 then
 some ((10:Int),(0:Int),(0:Int),(0:Int),(⟨#[]⟩:ByteArray),y2.2.1,y2.2.2.1,y2.2.2.2.1,())
 else
 some ((1:Int),(0:Int),(0:Int),(0:Int),(⟨#[]⟩:ByteArray),y2.2.1,y2.2.2.1,y2.2.2.2.1,()))
 else
 (aR.F ((⟨#[116,114,117,101]⟩:ByteArray),y1.2.1,y1.2.2.1,y1.2.2.2.1,())).bind fun y3=>
 (bif y3.1 then
 (cY.F (true,())).bind fun y4=>
 some ((1:Int),(0:Int),y4.1,y4.2.1,y4.2.2.1,y3.2.1,y3.2.2.1,y3.2.2.2.1,())
 else
 (aR.F ((⟨#[102,97,108,115,101]⟩:ByteArray),y3.2.1,y3.2.2.1,y3.2.2.2.1,())).bind fun y5=>
 (bif y5.1 then
 (cY.F (false,())).bind fun y6=>
 some ((1:Int),(0:Int),y6.1,y6.2.1,y6.2.2.1,y5.2.1,y5.2.2.1,y5.2.2.2.1,())
 else
 jn (S:=(List aX)×Int×Bool×Unit) (
 aN (S:=Int×(List aX)×Int×Bool×Unit) (fun (x4,o0_0_0,o0_0_1,o0_0_2,_)=>
 (bif (decide (x4<(8:Int))) then
 ck (ib x4 [(⟨#[43]⟩:ByteArray),(⟨#[45]⟩:ByteArray),(⟨#[42]⟩:ByteArray),(⟨#[61]⟩:ByteArray),(⟨#[60]⟩:ByteArray),(⟨#[97,110,100]⟩:ByteArray),(⟨#[111,114]⟩:ByteArray),(⟨#[110,111,116]⟩:ByteArray)].length)<|
 let e7:ByteArray:=(List.getD [(⟨#[43]⟩:ByteArray),(⟨#[45]⟩:ByteArray),(⟨#[42]⟩:ByteArray),(⟨#[61]⟩:ByteArray),(⟨#[60]⟩:ByteArray),(⟨#[97,110,100]⟩:ByteArray),(⟨#[111,114]⟩:ByteArray),(⟨#[110,111,116]⟩:ByteArray)] (Int.toNat x4) (⟨#[]⟩:ByteArray))
 (aR.F (e7,o0_0_0,o0_0_1,o0_0_2,())).bind fun y8=>
 (bif y8.1 then
 let e9:Int:=(wr ((2:Int)+x4))
 ir (.inr (e9,(0:Int),(0:Int),(0:Int),(⟨#[]⟩:ByteArray),y8.2.1,y8.2.2.1,y8.2.2.2.1,()))
 else
 let e10:Int:=(wr (x4+(1:Int)))
 il (e10,y8.2.1,y8.2.2.1,y8.2.2.2.1,()))
 else
 ir (.inl (o0_0_0,o0_0_1,o0_0_2,())))) ((0:Int),y5.2.1,y5.2.2.1,y5.2.2.2.1,())) fun (o0_0_0_11,o0_0_1_11,o0_0_2_11,_)=>
 (bC.F (o0_0_0_11,o0_0_1_11,o0_0_2_11,())).bind fun y12=>
 (bif (y12.1==(1:Int)) then
 some ((1:Int),(0:Int),y12.2.2.1,y12.2.2.2.1,y12.2.2.2.2.1,y12.2.2.2.2.2.1,y12.2.2.2.2.2.2.1,y12.2.2.2.2.2.2.2.1,())
 else
 jn (S:=Unit) (
 aN (S:=Int×Unit) (fun (x6,_)=>
 (bif (decide (x6<(100:Int))) then
 (bif (y12.1==(0:Int)) then
 (de.F (x6,())).bind fun y13=>
 ck (ca (⟨#[99]⟩:ByteArray) y13.1)<|
 let e14:ByteArray:=((⟨#[99]⟩:ByteArray)++y13.1)
 (bif (sq y12.2.1 e14) then
 ir (.inr ((0:Int),x6,(0:Int),(0:Int),(⟨#[]⟩:ByteArray),y12.2.2.2.2.2.1,y12.2.2.2.2.2.2.1,y12.2.2.2.2.2.2.2.1,()))
 else
 let e15:Int:=(wr (x6+(1:Int)))
 il (e15,()))
 else
 let e16:Int:=(wr (x6+(1:Int)))
 il (e16,()))
 else
 ir (.inl (())))) ((0:Int),())) fun (_)=>
 some ((0:Int),(0:Int),(0:Int),(0:Int),(⟨#[]⟩:ByteArray),y12.2.2.2.2.2.1,y12.2.2.2.2.2.2.1,false,())))))
def ct.F:=stk ct.B
theorem ct.eq:ct.F=ct.B:=aq _
theorem ct.k:Kk cY.s [] [] Tryz.f191 ct.d ct.B:={}
def ct.s:SpL:=ct.d.e [] ct.F::cY.s
theorem ct.c:Ck ct.s []:=cS cY.c ct.k
def cf.d:Fe:=⟨154,1,⟨[(0,.v false [.ptr 0 0])],[(0,true,.box 163 [.sl 195 dS,.int .i64,.bool])],[],1,[]⟩,⟨[(0,.v false [.ref 1001])],[(0,true,.box 163 [.sl 195 dS,.int .i64,.bool]),(1001,false,.arr 126 bN)],[],1002,[(0,0)]⟩,(.s none .n (.s none .n (.s none .n (.s none (.b (.l ⟨[(0,.v false [.ptr 1 0]),(3,.v false [.ref 0])],[(0,false,.arr 126 bN),(1,true,.box 163 [.sl 195 dS,.int .i64,.bool])],[],2,[]⟩ .n)) .n))))⟩
def cf.B:(List aX)×Int×Bool×Unit→Option ((List aX)×Int×Bool×(List ak)×Unit):=fun (o0_0,o0_1,o0_2,_)=>
 (bP.F ((⟨#[91]⟩:ByteArray),o0_0,o0_1,o0_2,())).bind fun y1=>
 aN (S:=(List ak)×(List aX)×Int×Bool×Unit) (fun (o3_0,o0_0_0,o0_0_1,o0_0_2,_)=>
 (bif o0_0_2 then
 (aR.F ((⟨#[93]⟩:ByteArray),o0_0_0,o0_0_1,o0_0_2,())).bind fun y2=>
 (bif (!y2.1) then
 (ct.F (y2.2.1,y2.2.2.1,y2.2.2.2.1,())).bind fun y3=>
 ck (Nat.ble (o3_0.length+ [(y3.1,(y3.2.1,(y3.2.2.1,(y3.2.2.2.1,y3.2.2.2.2.1))))].length) 2932031007402)<|
 (bif (decide (((o3_0++ [(y3.1,(y3.2.1,(y3.2.2.1,(y3.2.2.2.1,y3.2.2.2.2.1))))]).length:Int)>(100:Int))) then
 il ((o3_0++ [(y3.1,(y3.2.1,(y3.2.2.1,(y3.2.2.2.1,y3.2.2.2.2.1))))]),y3.2.2.2.2.2.1,y3.2.2.2.2.2.2.1,false,())
 else
 il ((o3_0++ [(y3.1,(y3.2.1,(y3.2.2.1,(y3.2.2.2.1,y3.2.2.2.2.1))))]),y3.2.2.2.2.2.1,y3.2.2.2.2.2.2.1,y3.2.2.2.2.2.2.2.1,()))
 else
 ir (y2.2.1,y2.2.2.1,y2.2.2.2.1,o3_0,()))
 else
 ir (o0_0_0,o0_0_1,o0_0_2,o3_0,()))) (([]:List ak),y1.1,y1.2.1,y1.2.2.1,())
def cf.F:=stk cf.B
theorem cf.eq:cf.F=cf.B:=aq _
theorem cf.k:Kk ct.s [] [] Tryz.f154 cf.d cf.B:={}
def cf.s:SpL:=cf.d.e [] cf.F::ct.s
theorem cf.c:Ck cf.s []:=cS ct.c cf.k
def b8.d:Fe:=⟨111,1,⟨[(0,.v false [.ptr 0 0])],[(0,true,.box 163 [.sl 195 dS,.int .i64,.bool])],[],1,[]⟩,⟨[(0,.v true [.str,.ref 1001,.ref 1002])],[(0,true,.box 163 [.sl 195 dS,.int .i64,.bool]),(1001,false,.arr 75 aV),(1002,false,.arr 78 (.sl 126 bN))],[],1003,[(0,0)]⟩,(.s none .n (.s none .n (.s none .n (.s none .n (.s (some ⟨[(0,.v false [.ptr 0 0]),(3,.v false [.ptr 1 0])],[(0,true,.box 163 [.sl 195 dS,.int .i64,.bool]),(1,true,.box 40 [.str,.ref 2,.ref 3]),(2,false,.arr 75 aV),(3,false,.arr 78 (.sl 126 bN))],[2],4,[]⟩) (.b (.l ⟨[(0,.v false [.ptr 0 0]),(3,.v false [.ptr 1 0])],[(0,true,.box 163 [.sl 195 dS,.int .i64,.bool]),(1,true,.box 40 [.str,.ref 2,.ref 3]),(2,false,.arr 75 aV),(3,false,.arr 78 (.sl 126 bN))],[2],4,[]⟩ .n)) (.s none .n (.s (some ⟨[(0,.v false [.ptr 0 0]),(3,.v false [.ptr 1 0])],[(0,true,.box 163 [.sl 195 dS,.int .i64,.bool]),(1,true,.box 40 [.str,.ref 2,.ref 3]),(2,false,.arr 75 aV),(3,false,.arr 78 (.sl 126 bN))],[2],4,[]⟩) (.b (.l ⟨[(0,.v false [.ptr 0 0]),(3,.v false [.ptr 1 0])],[(0,true,.box 163 [.sl 195 dS,.int .i64,.bool]),(1,true,.box 40 [.str,.ref 2,.ref 3]),(2,false,.arr 75 aV),(3,false,.arr 78 (.sl 126 bN))],[2],4,[]⟩ .n)) .n)))))))⟩
def b8.B:(List aX)×Int×Bool×Unit→Option (ByteArray×(List aX)×Int×Bool×(List aB)×(List (List ak))×Unit):=fun (o0_0,o0_1,o0_2,_)=>
 (bV.F (o0_0,o0_1,o0_2,())).bind fun y1=>
 (bP.F ((⟨#[40]⟩:ByteArray),y1.2.1,y1.2.2.1,y1.2.2.2.1,())).bind fun y2=>
 (bQ.F (y2.1,y2.2.1,y2.2.2.1,())).bind fun y3=>
 ck (Nat.ble [(y3.1,(y3.2.1,(y3.2.2.1,(y3.2.2.2.1,(y3.2.2.2.2.1,y3.2.2.2.2.2.1)))))].length 2513169434916)<|
 jn (S:=(List aX)×Int×Bool×ByteArray×(List aB)×(List (List ak))×Unit) (
 aN (S:=(List aX)×Int×Bool×ByteArray×(List aB)×(List (List ak))×Unit) (fun (o0_0_0,o0_0_1,o0_0_2,o3_0_0,o3_0_1,o3_0_2,_)=>
 (bif o0_0_2 then
 (aR.F ((⟨#[44]⟩:ByteArray),o0_0_0,o0_0_1,o0_0_2,())).bind fun y4=>
 (bif y4.1 then
 (bQ.F (y4.2.1,y4.2.2.1,y4.2.2.2.1,())).bind fun y5=>
 ck (Nat.ble (o3_0_1.length+ [(y5.1,(y5.2.1,(y5.2.2.1,(y5.2.2.2.1,(y5.2.2.2.2.1,y5.2.2.2.2.2.1)))))].length) 2513169434916)<|
 il (y5.2.2.2.2.2.2.1,y5.2.2.2.2.2.2.2.1,y5.2.2.2.2.2.2.2.2.1,o3_0_0,(o3_0_1++ [(y5.1,(y5.2.1,(y5.2.2.1,(y5.2.2.2.1,(y5.2.2.2.2.1,y5.2.2.2.2.2.1)))))]),o3_0_2,())
 else
 ir (.inl (y4.2.1,y4.2.2.1,y4.2.2.2.1,o3_0_0,o3_0_1,o3_0_2,())))
 else
 ir (.inl (o0_0_0,o0_0_1,o0_0_2,o3_0_0,o3_0_1,o3_0_2,())))) (y3.2.2.2.2.2.2.1,y3.2.2.2.2.2.2.2.1,y3.2.2.2.2.2.2.2.2.1,y1.1,[(y3.1,(y3.2.1,(y3.2.2.1,(y3.2.2.2.1,(y3.2.2.2.2.1,y3.2.2.2.2.2.1)))))],[],())) fun (o0_0_0_6,o0_0_1_6,o0_0_2_6,o3_0_0_6,o3_0_1_6,o3_0_2_6,_)=>
 (bP.F ((⟨#[41]⟩:ByteArray),o0_0_0_6,o0_0_1_6,o0_0_2_6,())).bind fun y7=>
 jn (S:=(List aX)×Int×Bool×ByteArray×(List aB)×(List (List ak))×Unit) (
 aN (S:=(List aX)×Int×Bool×ByteArray×(List aB)×(List (List ak))×Unit) (fun (o0_0_0,o0_0_1,o0_0_2,o3_0_0,o3_0_1,o3_0_2,_)=>
 (bif o0_0_2 then
 (aR.F ((⟨#[99,104,101,99,107]⟩:ByteArray),o0_0_0,o0_0_1,o0_0_2,())).bind fun y8=>
 (bif y8.1 then
 (cf.F (y8.2.1,y8.2.2.1,y8.2.2.2.1,())).bind fun y9=>
 ck (Nat.ble (o3_0_2.length+ [y9.2.2.2.1].length) 5864062014805)<|
 il (y9.1,y9.2.1,y9.2.2.1,o3_0_0,o3_0_1,(o3_0_2++ [y9.2.2.2.1]),())
 else
 ir (.inl (y8.2.1,y8.2.2.1,y8.2.2.2.1,o3_0_0,o3_0_1,o3_0_2,())))
 else
 ir (.inl (o0_0_0,o0_0_1,o0_0_2,o3_0_0,o3_0_1,o3_0_2,())))) (y7.1,y7.2.1,y7.2.2.1,o3_0_0_6,o3_0_1_6,o3_0_2_6,())) fun (o0_0_0_10,o0_0_1_10,o0_0_2_10,o3_0_0_10,o3_0_1_10,o3_0_2_10,_)=>
 (bif (decide ((o3_0_1_10.length:Int)>(40:Int))) then
 some (o3_0_0_10,o0_0_0_10,o0_0_1_10,false,o3_0_1_10,o3_0_2_10,())
 else
 (bif (decide ((o3_0_2_10.length:Int)>(40:Int))) then
 some (o3_0_0_10,o0_0_0_10,o0_0_1_10,false,o3_0_1_10,o3_0_2_10,())
 else
 some (o3_0_0_10,o0_0_0_10,o0_0_1_10,o0_0_2_10,o3_0_1_10,o3_0_2_10,())))
def b8.F:=stk b8.B
theorem b8.eq:b8.F=b8.B:=aq _
theorem b8.k:Kk cf.s [] [] Tryz.f111 b8.d b8.B:={}
def b8.s:SpL:=b8.d.e [] b8.F::cf.s
theorem b8.c:Ck b8.s []:=cS cf.c b8.k
def ci.d:Fe:=⟨155,1,⟨[(0,.v false [.ptr 0 0])],[(0,true,.box 163 [.sl 195 dS,.int .i64,.bool])],[],1,[]⟩,⟨[(0,.v false [.int .i64])],[(0,true,.box 163 [.sl 195 dS,.int .i64,.bool])],[],1001,[(0,0)]⟩,(.s none .n (.s none .n (.s none (.s (some ⟨[(26,.v false [.bool])],[],[0,3],0,[]⟩) .n .n) .n)))⟩
def ci.B:(List aX)×Int×Bool×Unit→Option (Int×(List aX)×Int×Bool×Unit):=fun (o0_0,o0_1,o0_2,_)=>
 (bC.F (o0_0,o0_1,o0_2,())).bind fun y1=>
 jn (S:=Bool×Unit) (
 (bif (y1.1 !=(1:Int)) then
 il (true,())
 else
 (bif (y1.2.2.1 !=(2:Int)) then
 il (true,())
 else
 (bif (decide (y1.2.2.2.1<(0:Int))) then
 il (true,())
 else
 il ((decide (y1.2.2.2.1>(99:Int))),()))))) fun (x26_2,_)=>
 (bif x26_2 then
 some (y1.2.2.2.1,y1.2.2.2.2.2.1,y1.2.2.2.2.2.2.1,false,())
 else
 some (y1.2.2.2.1,y1.2.2.2.2.2.1,y1.2.2.2.2.2.2.1,y1.2.2.2.2.2.2.2.1,()))
def ci.F:=stk ci.B
theorem ci.eq:ci.F=ci.B:=aq _
theorem ci.k:Kk b8.s [] [] Tryz.f155 ci.d ci.B:={}
def ci.s:SpL:=ci.d.e [] ci.F::b8.s
theorem ci.c:Ck ci.s []:=cS b8.c ci.k
def cz.d:Fe:=⟨157,1,⟨[(0,.v false [.ptr 0 0])],[(0,true,.box 163 [.sl 195 dS,.int .i64,.bool])],[],1,[]⟩,⟨[(0,.v true [.int .i64,.int .i64])],[(0,true,.box 163 [.sl 195 dS,.int .i64,.bool])],[],1001,[(0,0)]⟩,.n⟩
def cz.B:(List aX)×Int×Bool×Unit→Option (Int×Int×(List aX)×Int×Bool×Unit):=fun (o0_0,o0_1,o0_2,_)=>
 (cq.F ([(⟨#[99,111,117,110,116]⟩:ByteArray),(⟨#[115,117,109]⟩:ByteArray),(⟨#[109,105,110]⟩:ByteArray),(⟨#[109,97,120]⟩:ByteArray)],o0_0,o0_1,o0_2,())).bind fun y1=>
 (bif (y1.1 !=(0:Int)) then
 (ci.F (y1.2.1,y1.2.2.1,y1.2.2.2.1,())).bind fun y2=>
 some (y1.1,y2.1,y2.2.1,y2.2.2.1,y2.2.2.2.1,())
 else
 some (y1.1,(0:Int),y1.2.1,y1.2.2.1,y1.2.2.2.1,()))
def cz.F:=stk cz.B
theorem cz.eq:cz.F=cz.B:=aq _
theorem cz.k:Kk ci.s [] [] Tryz.f157 cz.d cz.B:={}
def cz.s:SpL:=cz.d.e [] cz.F::ci.s
theorem cz.c:Ck cz.s []:=cS ci.c cz.k
def cu.d:Fe:=⟨112,1,⟨[(0,.v false [.ptr 0 0])],[(0,true,.box 163 [.sl 195 dS,.int .i64,.bool])],[],1,[]⟩,⟨[(0,.v true [.str,.str,.str,.int .i64,.int .i64,.ref 1001,.ref 1002,.bool,.ref 1003])],[(0,true,.box 163 [.sl 195 dS,.int .i64,.bool]),(1001,false,.arr 126 bN),(1002,false,.arr 3 (.int .i64)),(1003,false,.arr 156 ep)],[],1004,[(0,0)]⟩,(.s none .n (.s none .n (.s none .n (.s none .n (.s (some ⟨[(0,.v false [.ptr 0 0]),(3,.v false [.ptr 1 0])],[(0,true,.box 163 [.sl 195 dS,.int .i64,.bool]),(1,true,.box 82 [.str,.str,.str,.int .i64,.int .i64,.ref 2,.ref 3,.bool,.ref 4]),(2,false,.arr 126 bN),(3,false,.arr 3 (.int .i64)),(4,false,.arr 156 ep)],[2],5,[]⟩) .n (.s (some ⟨[(0,.v false [.ptr 0 0]),(3,.v false [.ptr 1 0])],[(0,true,.box 163 [.sl 195 dS,.int .i64,.bool]),(1,true,.box 82 [.str,.str,.str,.int .i64,.int .i64,.ref 2,.ref 3,.bool,.ref 4]),(2,false,.arr 126 bN),(3,false,.arr 3 (.int .i64)),(4,false,.arr 156 ep)],[2],5,[]⟩) .n (.s none .n (.s (some ⟨[(0,.v false [.ptr 0 0]),(3,.v false [.ptr 1 0])],[(0,true,.box 163 [.sl 195 dS,.int .i64,.bool]),(1,true,.box 82 [.str,.str,.str,.int .i64,.int .i64,.ref 2,.ref 3,.bool,.ref 4]),(2,false,.arr 126 bN),(3,false,.arr 3 (.int .i64)),(4,false,.arr 156 ep)],[2],5,[]⟩) (.s (some ⟨[(0,.v false [.ptr 0 0]),(52,.v false [.bool])],[(0,true,.box 163 [.sl 195 dS,.int .i64,.bool])],[2,3],1,[]⟩) .n (.c (.s none .n (.b (.l ⟨[(0,.v false [.ptr 0 0]),(3,.v false [.ptr 1 0])],[(0,true,.box 163 [.sl 195 dS,.int .i64,.bool]),(1,true,.box 82 [.str,.str,.str,.int .i64,.int .i64,.ref 2,.ref 3,.bool,.ref 4]),(2,false,.arr 126 bN),(3,false,.arr 3 (.int .i64)),(4,false,.arr 156 ep)],[2],5,[]⟩ .n))) .n)) (.s none .n (.s (some ⟨[(0,.v false [.ptr 0 0]),(3,.v false [.ptr 1 0])],[(0,true,.box 163 [.sl 195 dS,.int .i64,.bool]),(1,true,.box 82 [.str,.str,.str,.int .i64,.int .i64,.ref 2,.ref 3,.bool,.ref 4]),(2,false,.arr 126 bN),(3,false,.arr 3 (.int .i64)),(4,false,.arr 156 ep)],[2],5,[]⟩) (.s (some ⟨[(91,.v false [.bool])],[],[0,2,3],0,[]⟩) .n (.c (.s none .n (.b (.l ⟨[(0,.v false [.ptr 0 0]),(3,.v false [.ptr 1 0])],[(0,true,.box 163 [.sl 195 dS,.int .i64,.bool]),(1,true,.box 82 [.str,.str,.str,.int .i64,.int .i64,.ref 2,.ref 3,.bool,.ref 4]),(2,false,.arr 126 bN),(3,false,.arr 3 (.int .i64)),(4,false,.arr 156 ep)],[2],5,[]⟩ .n))) .n)) .n))))))))))⟩
def cu.B:(List aX)×Int×Bool×Unit→Option (ByteArray×ByteArray×ByteArray×Int×Int×Bool×(List aX)×Int×Bool×(List ak)×(List Int)×(List cU)×Unit):=fun (o0_0,o0_1,o0_2,_)=>
 (bV.F (o0_0,o0_1,o0_2,())).bind fun y1=>
 (bP.F ((⟨#[102,114,111,109]⟩:ByteArray),y1.2.1,y1.2.2.1,y1.2.2.2.1,())).bind fun y2=>
 (bV.F (y2.1,y2.2.1,y2.2.2.1,())).bind fun y3=>
 jn (S:=(List aX)×Int×Bool×ByteArray×ByteArray×ByteArray×Int×Int×Bool×(List ak)×(List Int)×(List cU)×Unit) (
 (aR.F ((⟨#[106,111,105,110]⟩:ByteArray),y3.2.1,y3.2.2.1,y3.2.2.2.1,())).bind fun y4=>
 (bif y4.1 then
 (bV.F (y4.2.1,y4.2.2.1,y4.2.2.2.1,())).bind fun y5=>
 (bP.F ((⟨#[111,110]⟩:ByteArray),y5.2.1,y5.2.2.1,y5.2.2.2.1,())).bind fun y6=>
 (ci.F (y6.1,y6.2.1,y6.2.2.1,())).bind fun y7=>
 (bP.F ((⟨#[61]⟩:ByteArray),y7.2.1,y7.2.2.1,y7.2.2.2.1,())).bind fun y8=>
 (ci.F (y8.1,y8.2.1,y8.2.2.1,())).bind fun y9=>
 il (y9.2.1,y9.2.2.1,y9.2.2.2.1,y1.1,y3.1,y5.1,y7.1,y9.1,false,[],[],[],())
 else
 il (y4.2.1,y4.2.2.1,y4.2.2.2.1,y1.1,y3.1,(⟨#[]⟩:ByteArray),(0:Int),(0:Int),false,[],[],[],()))) fun (o0_0_0_10,o0_0_1_10,o0_0_2_10,o3_0_0_10,o3_0_1_10,o3_0_2_10,o3_0_3_10,o3_0_4_10,o3_0_7_10,o3_0_5_10,o3_0_6_10,o3_0_8_10,_)=>
 jn (S:=(List aX)×Int×Bool×ByteArray×ByteArray×ByteArray×Int×Int×Bool×(List ak)×(List Int)×(List cU)×Unit) (
 (aR.F ((⟨#[119,104,101,114,101]⟩:ByteArray),o0_0_0_10,o0_0_1_10,o0_0_2_10,())).bind fun y11=>
 (bif y11.1 then
 (cf.F (y11.2.1,y11.2.2.1,y11.2.2.2.1,())).bind fun y12=>
 il (y12.1,y12.2.1,y12.2.2.1,o3_0_0_10,o3_0_1_10,o3_0_2_10,o3_0_3_10,o3_0_4_10,o3_0_7_10,y12.2.2.2.1,o3_0_6_10,o3_0_8_10,())
 else
 il (y11.2.1,y11.2.2.1,y11.2.2.2.1,o3_0_0_10,o3_0_1_10,o3_0_2_10,o3_0_3_10,o3_0_4_10,o3_0_7_10,o3_0_5_10,o3_0_6_10,o3_0_8_10,()))) fun (o0_0_0_13,o0_0_1_13,o0_0_2_13,o3_0_0_13,o3_0_1_13,o3_0_2_13,o3_0_3_13,o3_0_4_13,o3_0_7_13,o3_0_5_13,o3_0_6_13,o3_0_8_13,_)=>
 (bP.F ((⟨#[112,105,99,107]⟩:ByteArray),o0_0_0_13,o0_0_1_13,o0_0_2_13,())).bind fun y14=>
 jn (S:=(List aX)×Int×Bool×ByteArray×ByteArray×ByteArray×Int×Int×Bool×(List ak)×(List Int)×(List cU)×Unit) (
 jn (S:=Bool×(List aX)×Int×Bool×Unit) (
 (bif (decide (y14.2.1<(y14.1.length:Int))) then
 (cH.F ((⟨#[103,114,111,117,112]⟩:ByteArray),y14.1,y14.2.1,y14.2.2.1,())).bind fun y15=>
 il ((!y15.1),y15.2.1,y15.2.2.1,y15.2.2.2.1,())
 else
 il (false,y14.1,y14.2.1,y14.2.2.1,()))) fun (x52_16,o0_0_0_16,o0_0_1_16,o0_0_2_16,_)=>
 (bif x52_16 then
 (ci.F (o0_0_0_16,o0_0_1_16,o0_0_2_16,())).bind fun y17=>
 ck (Nat.ble (o3_0_6_13.length+ [y17.1].length) 17592186044416)<|
 aN (S:=(List aX)×Int×Bool×ByteArray×ByteArray×ByteArray×Int×Int×Bool×(List ak)×(List Int)×(List cU)×Unit) (fun (o0_0_0,o0_0_1,o0_0_2,o3_0_0,o3_0_1,o3_0_2,o3_0_3,o3_0_4,o3_0_7,o3_0_5,o3_0_6,o3_0_8,_)=>
 (bif o0_0_2 then
 (aR.F ((⟨#[44]⟩:ByteArray),o0_0_0,o0_0_1,o0_0_2,())).bind fun y18=>
 (bif y18.1 then
 (ci.F (y18.2.1,y18.2.2.1,y18.2.2.2.1,())).bind fun y19=>
 ck (Nat.ble (o3_0_6.length+ [y19.1].length) 17592186044416)<|
 il (y19.2.1,y19.2.2.1,y19.2.2.2.1,o3_0_0,o3_0_1,o3_0_2,o3_0_3,o3_0_4,o3_0_7,o3_0_5,(o3_0_6++ [y19.1]),o3_0_8,())
 else
 ir (.inl (y18.2.1,y18.2.2.1,y18.2.2.2.1,o3_0_0,o3_0_1,o3_0_2,o3_0_3,o3_0_4,o3_0_7,o3_0_5,o3_0_6,o3_0_8,())))
 else
 ir (.inl (o0_0_0,o0_0_1,o0_0_2,o3_0_0,o3_0_1,o3_0_2,o3_0_3,o3_0_4,o3_0_7,o3_0_5,o3_0_6,o3_0_8,())))) (y17.2.1,y17.2.2.1,y17.2.2.2.1,o3_0_0_13,o3_0_1_13,o3_0_2_13,o3_0_3_13,o3_0_4_13,o3_0_7_13,o3_0_5_13,(o3_0_6_13++ [y17.1]),o3_0_8_13,())
 else
 il (o0_0_0_16,o0_0_1_16,o0_0_2_16,o3_0_0_13,o3_0_1_13,o3_0_2_13,o3_0_3_13,o3_0_4_13,o3_0_7_13,o3_0_5_13,o3_0_6_13,o3_0_8_13,()))) fun (o0_0_0_20,o0_0_1_20,o0_0_2_20,o3_0_0_20,o3_0_1_20,o3_0_2_20,o3_0_3_20,o3_0_4_20,o3_0_7_20,o3_0_5_20,o3_0_6_20,o3_0_8_20,_)=>
 (aR.F ((⟨#[103,114,111,117,112]⟩:ByteArray),o0_0_0_20,o0_0_1_20,o0_0_2_20,())).bind fun y21=>
 jn (S:=(List aX)×Int×Bool×ByteArray×ByteArray×ByteArray×Int×Int×Bool×(List ak)×(List Int)×(List cU)×Unit) (
 jn (S:=Bool×Unit) (
 (bif y21.1 then
 il ((decide (y21.2.2.1<(y21.2.1.length:Int))),())
 else
 il (false,()))) fun (x91_22,_)=>
 (bif x91_22 then
 (cz.F (y21.2.1,y21.2.2.1,y21.2.2.2.1,())).bind fun y23=>
 ck (Nat.ble (o3_0_8_20.length+ [(y23.1,y23.2.1)].length) 8796093022208)<|
 aN (S:=(List aX)×Int×Bool×ByteArray×ByteArray×ByteArray×Int×Int×Bool×(List ak)×(List Int)×(List cU)×Unit) (fun (o0_0_0,o0_0_1,o0_0_2,o3_0_0,o3_0_1,o3_0_2,o3_0_3,o3_0_4,o3_0_7,o3_0_5,o3_0_6,o3_0_8,_)=>
 (bif o0_0_2 then
 (aR.F ((⟨#[44]⟩:ByteArray),o0_0_0,o0_0_1,o0_0_2,())).bind fun y24=>
 (bif y24.1 then
 (cz.F (y24.2.1,y24.2.2.1,y24.2.2.2.1,())).bind fun y25=>
 ck (Nat.ble (o3_0_8.length+ [(y25.1,y25.2.1)].length) 8796093022208)<|
 il (y25.2.2.1,y25.2.2.2.1,y25.2.2.2.2.1,o3_0_0,o3_0_1,o3_0_2,o3_0_3,o3_0_4,o3_0_7,o3_0_5,o3_0_6,(o3_0_8++ [(y25.1,y25.2.1)]),())
 else
 ir (.inl (y24.2.1,y24.2.2.1,y24.2.2.2.1,o3_0_0,o3_0_1,o3_0_2,o3_0_3,o3_0_4,o3_0_7,o3_0_5,o3_0_6,o3_0_8,())))
 else
 ir (.inl (o0_0_0,o0_0_1,o0_0_2,o3_0_0,o3_0_1,o3_0_2,o3_0_3,o3_0_4,o3_0_7,o3_0_5,o3_0_6,o3_0_8,())))) (y23.2.2.1,y23.2.2.2.1,y23.2.2.2.2.1,o3_0_0_20,o3_0_1_20,o3_0_2_20,o3_0_3_20,o3_0_4_20,y21.1,o3_0_5_20,o3_0_6_20,(o3_0_8_20++ [(y23.1,y23.2.1)]),())
 else
 il (y21.2.1,y21.2.2.1,y21.2.2.2.1,o3_0_0_20,o3_0_1_20,o3_0_2_20,o3_0_3_20,o3_0_4_20,y21.1,o3_0_5_20,o3_0_6_20,o3_0_8_20,()))) fun (o0_0_0_26,o0_0_1_26,o0_0_2_26,o3_0_0_26,o3_0_1_26,o3_0_2_26,o3_0_3_26,o3_0_4_26,o3_0_7_26,o3_0_5_26,o3_0_6_26,o3_0_8_26,_)=>
 (bif (decide ((o3_0_6_26.length:Int)>(40:Int))) then
 some (o3_0_0_26,o3_0_1_26,o3_0_2_26,o3_0_3_26,o3_0_4_26,o3_0_7_26,o0_0_0_26,o0_0_1_26,false,o3_0_5_26,o3_0_6_26,o3_0_8_26,())
 else
 (bif (decide ((o3_0_8_26.length:Int)>(40:Int))) then
 some (o3_0_0_26,o3_0_1_26,o3_0_2_26,o3_0_3_26,o3_0_4_26,o3_0_7_26,o0_0_0_26,o0_0_1_26,false,o3_0_5_26,o3_0_6_26,o3_0_8_26,())
 else
 some (o3_0_0_26,o3_0_1_26,o3_0_2_26,o3_0_3_26,o3_0_4_26,o3_0_7_26,o0_0_0_26,o0_0_1_26,o0_0_2_26,o3_0_5_26,o3_0_6_26,o3_0_8_26,())))
def cu.F:=stk cu.B
theorem cu.eq:cu.F=cu.B:=aq _
theorem cu.k:Kk cz.s [] [] Tryz.f112 cu.d cu.B:={}
def cu.s:SpL:=cu.d.e [] cu.F::cz.s
theorem cu.c:Ck cu.s []:=cS cz.c cu.k
def eJ.d:Fe:=⟨74,1,⟨[(0,.v false [.str])],[],[],0,[]⟩,⟨[(0,.tup [(true,[.int .i64,.str,.ref 1000,.ref 1001,.str,.str,.str,.int .i64,.int .i64,.ref 1002,.ref 1003,.bool,.ref 1004]),(false,[.int .i64])])],[(1000,false,.arr 75 aV),(1001,false,.arr 78 (.sl 126 bN)),(1002,false,.arr 126 bN),(1003,false,.arr 3 (.int .i64)),(1004,false,.arr 156 ep)],[],1005,[]⟩,(.s none .n (.s none .n (.s none .n (.s none .n (.s none .n (.s (some ⟨[(6,.v false [.ptr 0 0]),(7,.v false [.ptr 1 0])],[(0,true,.box 163 [.sl 195 dS,.int .i64,.bool]),(1,true,.box 84 [.int .i64,.str,.ref 2,.ref 3,.str,.str,.str,.int .i64,.int .i64,.ref 4,.ref 5,.bool,.ref 6]),(2,false,.arr 75 aV),(3,false,.arr 78 (.sl 126 bN)),(4,false,.arr 126 bN),(5,false,.arr 3 (.int .i64)),(6,false,.arr 156 ep)],[2,4],7,[]⟩) (.s (some ⟨[(32,.v false [.bool])],[],[2,4,6,7],0,[]⟩) .n .n) .n))))))⟩
def eJ.B:ByteArray×Unit→Option (Int×ByteArray×ByteArray×ByteArray×ByteArray×Int×Int×Bool×Int×(List aB)×(List (List ak))×(List ak)×(List Int)×(List cU)×Unit):=fun (p0,_)=>
 (gg.F (p0,())).bind fun y1=>
 (bif (y1.1 !=(0:Int)) then
 some ((0:Int),(⟨#[]⟩:ByteArray),(⟨#[]⟩:ByteArray),(⟨#[]⟩:ByteArray),(⟨#[]⟩:ByteArray),(0:Int),(0:Int),false,y1.1,[],[],[],[],[],())
 else
 (cq.F ([(⟨#[116,97,98,108,101]⟩:ByteArray),(⟨#[118,105,101,119]⟩:ByteArray)],y1.2.1,(0:Int),true,())).bind fun y2=>
 jn (S:=(List aX)×Int×Bool×Int×ByteArray×ByteArray×ByteArray×ByteArray×Int×Int×Bool×(List aB)×(List (List ak))×(List ak)×(List Int)×(List cU)×Unit) (
 jn (S:=Bool×Unit) (
 (bif y2.2.2.2.1 then
 il ((y2.1==(0:Int)),())
 else
 il (false,()))) fun (x32_3,_)=>
 (bif x32_3 then
 (b8.F (y2.2.1,y2.2.2.1,y2.2.2.2.1,())).bind fun y4=>
 il (y4.2.1,y4.2.2.1,y4.2.2.2.1,y2.1,y4.1,(⟨#[]⟩:ByteArray),(⟨#[]⟩:ByteArray),(⟨#[]⟩:ByteArray),(0:Int),(0:Int),false,y4.2.2.2.2.1,y4.2.2.2.2.2.1,[],[],[],())
 else
 (bif y2.2.2.2.1 then
 (cu.F (y2.2.1,y2.2.2.1,y2.2.2.2.1,())).bind fun y5=>
 il (y5.2.2.2.2.2.2.1,y5.2.2.2.2.2.2.2.1,y5.2.2.2.2.2.2.2.2.1,y2.1,(⟨#[]⟩:ByteArray),y5.1,y5.2.1,y5.2.2.1,y5.2.2.2.1,y5.2.2.2.2.1,y5.2.2.2.2.2.1,[],[],y5.2.2.2.2.2.2.2.2.2.1,y5.2.2.2.2.2.2.2.2.2.2.1,y5.2.2.2.2.2.2.2.2.2.2.2.1,())
 else
 il (y2.2.1,y2.2.2.1,y2.2.2.2.1,y2.1,(⟨#[]⟩:ByteArray),(⟨#[]⟩:ByteArray),(⟨#[]⟩:ByteArray),(⟨#[]⟩:ByteArray),(0:Int),(0:Int),false,[],[],[],[],[],())))) fun (o6_0_0_6,o6_0_1_6,o6_0_2_6,o7_0_0_6,o7_0_1_6,o7_0_4_6,o7_0_5_6,o7_0_6_6,o7_0_7_6,o7_0_8_6,o7_0_11_6,o7_0_2_6,o7_0_3_6,o7_0_9_6,o7_0_10_6,o7_0_12_6,_)=>
 (bif (!o6_0_2_6) then
 some ((0:Int),(⟨#[]⟩:ByteArray),(⟨#[]⟩:ByteArray),(⟨#[]⟩:ByteArray),(⟨#[]⟩:ByteArray),(0:Int),(0:Int),false,(70:Int),[],[],[],[],[],())
 else
 (bif (decide (o6_0_1_6<(y1.2.1.length:Int))) then
 some ((0:Int),(⟨#[]⟩:ByteArray),(⟨#[]⟩:ByteArray),(⟨#[]⟩:ByteArray),(⟨#[]⟩:ByteArray),(0:Int),(0:Int),false,(70:Int),[],[],[],[],[],())
 else
 some (o7_0_0_6,o7_0_1_6,o7_0_4_6,o7_0_5_6,o7_0_6_6,o7_0_7_6,o7_0_8_6,o7_0_11_6,(0:Int),o7_0_2_6,o7_0_3_6,o7_0_9_6,o7_0_10_6,o7_0_12_6,()))))
def eJ.F:=stk eJ.B
theorem eJ.eq:eJ.F=eJ.B:=aq _
theorem eJ.k:Kk cu.s [] [] Tryz.f74 eJ.d eJ.B:={}
def eJ.s:SpL:=eJ.d.e [] eJ.F::cu.s
theorem eJ.c:Ck eJ.s []:=cS cu.c eJ.k
def fp.d:Fe:=⟨158,2,⟨[(0,.v false [.sl 126 bN]),(1,.v false [.sl 126 bN])],[],[],0,[]⟩,⟨[(0,.v false [.bool])],[],[],1000,[]⟩,(.s none .n (.s none .n (.s none (.s none .n (.b (.l ⟨[(5,.v false [.int .i64])],[],[0,1],0,[]⟩ .n))) .n)))⟩
def fp.B:(List ak)×(List ak)×Unit→Option (Bool×Unit):=fun (p0,p1,_)=>
 (bif ((p0.length:Int) !=(p1.length:Int)) then
 some (false,())
 else
 aN (S:=Int×Unit) (fun (x5,_)=>
 (bif (decide (x5<(p0.length:Int))) then
 ck (ib x5 p0.length)<|
 let e1:ak:=(gt p0 x5 bN.z)
 ck (ib x5 p1.length)<|
 let e2:ak:=(gt p1 x5 bN.z)
 (bif (!(Ty.eq bN e1 e2)) then
 ir (false,())
 else
 let e3:Int:=(wr (x5+(1:Int)))
 il (e3,()))
 else
 ir (true,()))) ((0:Int),()))
def fp.F:=stk fp.B
theorem fp.eq:fp.F=fp.B:=aq _
theorem fp.k:Kk eJ.s [] [] Tryz.f158 fp.d fp.B:={}
def fp.s:SpL:=fp.d.e [] fp.F::eJ.s
theorem fp.c:Ck fp.s []:=cS eJ.c fp.k
def cR.d:Fe:=⟨113,2,⟨[(0,.v true [.str,.sl 75 aV,.sl 78 (.sl 126 bN)]),(1,.v true [.str,.sl 75 aV,.sl 78 (.sl 126 bN)])],[],[],0,[]⟩,⟨[(0,.v false [.bool])],[],[],1000,[]⟩,(.s none .n (.s (some ⟨[],[],[2,3],0,[]⟩) .n (.s (some ⟨[],[],[2,3],0,[]⟩) (.s none .n (.b (.l ⟨[(5,.v false [.int .i64])],[],[2,3],0,[]⟩ .n))) (.s none (.s none .n (.b (.l ⟨[(6,.v false [.int .i64])],[],[2,3],0,[]⟩ .n))) .n))))⟩
def cR.B:ByteArray×(List aB)×(List (List ak))×ByteArray×(List aB)×(List (List ak))×Unit→Option (Bool×Unit):=fun (p0_0,p0_1,p0_2,p1_0,p1_1,p1_2,_)=>
 jn (S:=Unit) (
 (bif (!sq p0_0 p1_0) then
 ir (false,())
 else
 (bif ((p0_1.length:Int) !=(p1_1.length:Int)) then
 ir (false,())
 else
 (bif ((p0_2.length:Int) !=(p1_2.length:Int)) then
 ir (false,())
 else
 il (()))))) fun (_)=>
 jn (S:=Unit) (
 aN (S:=Int×Unit) (fun (x5,_)=>
 (bif (decide (x5<(p0_1.length:Int))) then
 ck (ib x5 p0_1.length)<|
 let e2:aB:=(gt p0_1 x5 aV.z)
 ck (ib x5 p1_1.length)<|
 let e3:aB:=(gt p1_1 x5 aV.z)
 (bif (!(Ty.eq aV e2 e3)) then
 ir (.inr (false,()))
 else
 let e4:Int:=(wr (x5+(1:Int)))
 il (e4,()))
 else
 ir (.inl (())))) ((0:Int),())) fun (_)=>
 aN (S:=Int×Unit) (fun (x6,_)=>
 (bif (decide (x6<(p0_2.length:Int))) then
 ck (ib x6 p0_2.length)<|
 let e6:(List ak):=(gt p0_2 x6 [])
 ck (ib x6 p1_2.length)<|
 let e7:(List ak):=(gt p1_2 x6 [])
 (fp.F (e6,e7,())).bind fun y8=>
 (bif (!y8.1) then
 ir (false,())
 else
 let e9:Int:=(wr (x6+(1:Int)))
 il (e9,()))
 else
 ir (true,()))) ((0:Int),())
def cR.F:=stk cR.B
theorem cR.eq:cR.F=cR.B:=aq _
theorem cR.k:Kk fp.s [] [] Tryz.f113 cR.d cR.B:={}
def cR.s:SpL:=cR.d.e [] cR.F::fp.s
theorem cR.c:Ck cR.s []:=cS fp.c cR.k
def fR.d:Fe:=⟨159,2,⟨[(0,.v false [.sl 3 (.int .i64)]),(1,.v false [.sl 3 (.int .i64)])],[],[],0,[]⟩,⟨[(0,.v false [.bool])],[],[],1000,[]⟩,(.s none .n (.s none .n (.s none (.s none .n (.b (.l ⟨[(5,.v false [.int .i64])],[],[0,1],0,[]⟩ .n))) .n)))⟩
def fR.B:(List Int)×(List Int)×Unit→Option (Bool×Unit):=fun (p0,p1,_)=>
 (bif ((p0.length:Int) !=(p1.length:Int)) then
 some (false,())
 else
 aN (S:=Int×Unit) (fun (x5,_)=>
 (bif (decide (x5<(p0.length:Int))) then
 ck (ib x5 p0.length)<|
 let e1:Int:=(gt p0 x5 (0:Int))
 ck (ib x5 p1.length)<|
 let e2:Int:=(gt p1 x5 (0:Int))
 (bif (e1 !=e2) then
 ir (false,())
 else
 let e3:Int:=(wr (x5+(1:Int)))
 il (e3,()))
 else
 ir (true,()))) ((0:Int),()))
def fR.F:=stk fR.B
theorem fR.eq:fR.F=fR.B:=aq _
theorem fR.k:Kk cR.s [] [] Tryz.f159 fR.d fR.B:={}
def fR.s:SpL:=fR.d.e [] fR.F::cR.s
theorem fR.c:Ck fR.s []:=cS cR.c fR.k
def du.d:Fe:=⟨114,2,⟨[(0,.v true [.str,.str,.str,.int .i64,.int .i64,.sl 126 bN,.sl 3 (.int .i64),.bool,.sl 156 ep]),(1,.v true [.str,.str,.str,.int .i64,.int .i64,.sl 126 bN,.sl 3 (.int .i64),.bool,.sl 156 ep])],[],[],0,[]⟩,⟨[(0,.v false [.bool])],[],[],1000,[]⟩,(.s none .n (.s none (.s (some ⟨[(63,.v false [.bool])],[],[2,3],0,[]⟩) .n .n) (.s none (.s none .n (.b (.l ⟨[(5,.v false [.int .i64])],[],[2,3],0,[]⟩ .n))) .n)))⟩
def du.B:ByteArray×ByteArray×ByteArray×Int×Int×(List ak)×(List Int)×Bool×(List cU)×ByteArray×ByteArray×ByteArray×Int×Int×(List ak)×(List Int)×Bool×(List cU)×Unit→Option (Bool×Unit):=fun (p0_0,p0_1,p0_2,p0_3,p0_4,p0_5,p0_6,p0_7,p0_8,p1_0,p1_1,p1_2,p1_3,p1_4,p1_5,p1_6,p1_7,p1_8,_)=>
 jn (S:=Bool×Unit) (
 (bif (!sq p0_0 p1_0) then
 il (true,())
 else
 (bif (!sq p0_1 p1_1) then
 il (true,())
 else
 (bif (!sq p0_2 p1_2) then
 il (true,())
 else
 (bif (!(Ty.eq ep (p0_3,p0_4) (p1_3,p1_4))) then
 il (true,())
 else
 (fp.F (p0_5,p1_5,())).bind fun y1=>
 (bif (!y1.1) then
 il (true,())
 else
 (fR.F (p0_6,p1_6,())).bind fun y2=>
 (bif (!y2.1) then
 il (true,())
 else
 (bif (!(p0_7==p1_7)) then
 il (true,())
 else
 il (((p0_8.length:Int) !=(p1_8.length:Int)),()))))))))) fun (x63_3,_)=>
 (bif x63_3 then
 some (false,())
 else
 aN (S:=Int×Unit) (fun (x5,_)=>
 (bif (decide (x5<(p0_8.length:Int))) then
 ck (ib x5 p0_8.length)<|
 let e4:cU:=(gt p0_8 x5 ep.z)
 ck (ib x5 p1_8.length)<|
 let e5:cU:=(gt p1_8 x5 ep.z)
 (bif (!(Ty.eq ep e4 e5)) then
 ir (false,())
 else
 let e6:Int:=(wr (x5+(1:Int)))
 il (e6,()))
 else
 ir (true,()))) ((0:Int),()))
def du.F:=stk du.B
theorem du.eq:du.F=du.B:=aq _
theorem du.k:Kk fR.s [] [] Tryz.f114 du.d du.B:={}
def du.s:SpL:=du.d.e [] du.F::fR.s
theorem du.c:Ck du.s []:=cS fR.c du.k
def fH.d:Fe:=⟨75,2,⟨[(0,.v true [.int .i64,.str,.sl 75 aV,.sl 78 (.sl 126 bN),.str,.str,.str,.int .i64,.int .i64,.sl 126 bN,.sl 3 (.int .i64),.bool,.sl 156 ep]),(1,.v true [.int .i64,.str,.sl 75 aV,.sl 78 (.sl 126 bN),.str,.str,.str,.int .i64,.int .i64,.sl 126 bN,.sl 3 (.int .i64),.bool,.sl 156 ep])],[],[],0,[]⟩,⟨[(0,.v false [.bool])],[],[],1000,[]⟩,.n⟩
def fH.B:Int×ByteArray×(List aB)×(List (List ak))×ByteArray×ByteArray×ByteArray×Int×Int×(List ak)×(List Int)×Bool×(List cU)×Int×ByteArray×(List aB)×(List (List ak))×ByteArray×ByteArray×ByteArray×Int×Int×(List ak)×(List Int)×Bool×(List cU)×Unit→Option (Bool×Unit):=fun (p0_0,p0_1,p0_2,p0_3,p0_4,p0_5,p0_6,p0_7,p0_8,p0_9,p0_10,p0_11,p0_12,p1_0,p1_1,p1_2,p1_3,p1_4,p1_5,p1_6,p1_7,p1_8,p1_9,p1_10,p1_11,p1_12,_)=>
 (bif (p0_0==p1_0) then
 (cR.F (p0_1,p0_2,p0_3,p1_1,p1_2,p1_3,())).bind fun y1=>
 (bif y1.1 then
 (du.F (p0_4,p0_5,p0_6,p0_7,p0_8,p0_9,p0_10,p0_11,p0_12,p1_4,p1_5,p1_6,p1_7,p1_8,p1_9,p1_10,p1_11,p1_12,())).bind fun y2=>
 some (y2.1,())
 else
 some (false,()))
 else
 some (false,()))
def fH.F:=stk fH.B
theorem fH.eq:fH.F=fH.B:=aq _
theorem fH.k:Kk du.s [] [] Tryz.f75 fH.d fH.B:={}
def fH.s:SpL:=fH.d.e [] fH.F::du.s
theorem fH.c:Ck fH.s []:=cS du.c fH.k
def eK.d:Fe:=⟨39,1,⟨[(0,.v true [.int .i64,.str,.sl 75 aV,.sl 78 (.sl 126 bN),.str,.str,.str,.int .i64,.int .i64,.sl 126 bN,.sl 3 (.int .i64),.bool,.sl 156 ep])],[],[],0,[]⟩,⟨[(0,.v false [.str])],[],[],1000,[]⟩,(.s none .n (.s none .n (.s (some ⟨[(3,.v false [.str])],[],[1],0,[]⟩) .n .n)))⟩
def eK.B:Int×ByteArray×(List aB)×(List (List ak))×ByteArray×ByteArray×ByteArray×Int×Int×(List ak)×(List Int)×Bool×(List cU)×Unit→Option (ByteArray×Unit):=fun (p0_0,p0_1,p0_2,p0_3,p0_4,p0_5,p0_6,p0_7,p0_8,p0_9,p0_10,p0_11,p0_12,_)=>
 (dq.F (p0_4,p0_5,p0_6,p0_7,p0_8,p0_9,p0_10,p0_11,p0_12,())).bind fun y1=>
 jn (S:=ByteArray×Unit) (
 (bif (p0_0==(0:Int)) then
 (cQ.F (p0_1,p0_2,p0_3,())).bind fun y2=>
 il (y2.1,())
 else
 il (y1.1,()))) fun (x3_3,_)=>
 (bif (decide ((x3_3.size:Int)>(20000:Int))) then
 some ((⟨#[]⟩:ByteArray),())
 else
 (eJ.F (x3_3,())).bind fun y4=>
 (bif (y4.2.2.2.2.2.2.2.2.1 !=(0:Int)) then
 some ((⟨#[]⟩:ByteArray),())
 else
 (fH.F (p0_0,p0_1,p0_2,p0_3,p0_4,p0_5,p0_6,p0_7,p0_8,p0_9,p0_10,p0_11,p0_12,y4.1,y4.2.1,y4.2.2.2.2.2.2.2.2.2.1,y4.2.2.2.2.2.2.2.2.2.2.1,y4.2.2.1,y4.2.2.2.1,y4.2.2.2.2.1,y4.2.2.2.2.2.1,y4.2.2.2.2.2.2.1,y4.2.2.2.2.2.2.2.2.2.2.2.1,y4.2.2.2.2.2.2.2.2.2.2.2.2.1,y4.2.2.2.2.2.2.2.1,y4.2.2.2.2.2.2.2.2.2.2.2.2.2.1,())).bind fun y5=>
 (bif (!y5.1) then
 some ((⟨#[]⟩:ByteArray),())
 else
 some (x3_3,()))))
def eK.F:=stk eK.B
theorem eK.eq:eK.F=eK.B:=aq _
theorem eK.k:Kk fH.s [] [] Tryz.f39 eK.d eK.B:={}
def eK.s:SpL:=eK.d.e [] eK.F::fH.s
theorem eK.c:Ck eK.s []:=cS fH.c eK.k
def gM.d:Fe:=⟨10,1,⟨[(0,.v false [.sl 84 gF])],[],[],0,[]⟩,⟨[(0,.v false [.bool])],[],[],1000,[]⟩,(.s none .n (.s none .n (.s (some ⟨[(3,.v false [.int .i64])],[],[0],0,[]⟩) (.s none .n (.b (.l ⟨[(3,.v false [.int .i64]),(4,.v false [.int .i64])],[],[0],0,[]⟩ (.s none .n (.s none (.b (.s (some ⟨[],[],[0,3,4],0,[]⟩) .n .n)) .n))))) (.s none .n (.s (some ⟨[(5,.v false [.int .i64])],[],[0,3],0,[]⟩) (.s none .n (.b (.l ⟨[(5,.v false [.int .i64]),(6,.v false [.int .i64])],[],[0,3],0,[]⟩ .n))) .n)))))⟩
def gM.B:(List bL)×Unit→Option (Bool×Unit):=fun (p0,_)=>
 jn (S:=Int×Unit) (
 aN (S:=Int×Int×Unit) (fun (x3,x4,_)=>
 (bif (decide (x4<(p0.length:Int))) then
 jn (S:=Unit) (
 ck (ib x4 p0.length)<|
 let e1:bL:=(gt p0 x4 gF.z)
 (gL.F (e1.1,e1.2.1.1,e1.2.1.2.1,e1.2.1.2.2,e1.2.2.1,e1.2.2.2.1,e1.2.2.2.2.1,e1.2.2.2.2.2.1.1,e1.2.2.2.2.2.1.2,e1.2.2.2.2.2.2.1,e1.2.2.2.2.2.2.2.1,e1.2.2.2.2.2.2.2.2.1,e1.2.2.2.2.2.2.2.2.2,())).bind fun y2=>
 (bif y2.1 then
 ir (.inr (.inr (true,())))
 else
 ck (ib x4 p0.length)<|
 let e3:bL:=(gt p0 x4 gF.z)
 (eK.F (e3.1,e3.2.1.1,e3.2.1.2.1,e3.2.1.2.2,e3.2.2.1,e3.2.2.2.1,e3.2.2.2.2.1,e3.2.2.2.2.2.1.1,e3.2.2.2.2.2.1.2,e3.2.2.2.2.2.2.1,e3.2.2.2.2.2.2.2.1,e3.2.2.2.2.2.2.2.2.1,e3.2.2.2.2.2.2.2.2.2,())).bind fun y4=>
 (bif (decide ((y4.1.size:Int)>(2000:Int))) then
 ir (.inr (.inr (true,())))
 else
 il (())))) fun (_)=>
 ck (ib x4 p0.length)<|
 let e6:bL:=(gt p0 x4 gF.z)
 ck (ib x4 p0.length)<|
 let e7:bL:=(gt p0 x4 gF.z)
 let e8:Int:=(wr ((e6.2.1.2.1.length:Int)+(e7.2.2.2.2.2.2.2.1.length:Int)))
 let e9:Int:=(wr (x3+e8))
 let e10:Int:=(wr (x4+(1:Int)))
 il (e9,e10,())
 else
 ir (.inl (x3,())))) ((0:Int),(0:Int),())) fun (x3_11,_)=>
 jn (S:=Int×Unit) (
 aN (S:=Int×Int×Unit) (fun (x5,x6,_)=>
 (bif (decide (x6<(p0.length:Int))) then
 ck (ib x6 p0.length)<|
 let e12:bL:=(gt p0 x6 gF.z)
 (bif (!sq e12.2.2.2.2.1 (⟨#[]⟩:ByteArray)) then
 let e13:Int:=(wr (x5+(1:Int)))
 let e14:Int:=(wr (x6+(1:Int)))
 il (e13,e14,())
 else
 let e15:Int:=(wr (x6+(1:Int)))
 il (x5,e15,()))
 else
 ir (.inl (x5,())))) ((0:Int),(0:Int),())) fun (x5_16,_)=>
 (bif (decide ((p0.length:Int)>(22:Int))) then
 some (true,())
 else
 (bif (decide (x3_11>(200:Int))) then
 some (true,())
 else
 some ((decide (x5_16>(6:Int))),())))
def gM.F:=stk gM.B
theorem gM.eq:gM.F=gM.B:=aq _
theorem gM.k:Kk eK.s [] [] Tryz.f10 gM.d gM.B:={}
def gM.s:SpL:=gM.d.e [] gM.F::eK.s
theorem gM.c:Ck gM.s []:=cS eK.c gM.k
def fw.d:Fe:=⟨115,1,⟨[(0,.v false [.sl 47 ar])],[],[],0,[]⟩,⟨[(0,.v false [.bool])],[],[],1000,[]⟩,(.s none .n (.s (some ⟨[],[],[0],0,[]⟩) (.s none .n (.b (.l ⟨[(3,.v false [.int .i64])],[],[0],0,[]⟩ .n))) .n))⟩
def fw.B:(List ap)×Unit→Option (Bool×Unit):=fun (p0,_)=>
 jn (S:=Unit) (
 aN (S:=Int×Unit) (fun (x3,_)=>
 (bif (decide (x3<(p0.length:Int))) then
 ck (ib x3 p0.length)<|
 let e1:ap:=(gt p0 x3 ar.z)
 (bif (decide ((e1.2.2.size:Int)>(1000:Int))) then
 ir (.inr (false,()))
 else
 let e2:Int:=(wr (x3+(1:Int)))
 il (e2,()))
 else
 ir (.inl (())))) ((0:Int),())) fun (_)=>
 some ((decide ((p0.length:Int)≤(40:Int))),())
def fw.F:=stk fw.B
theorem fw.eq:fw.F=fw.B:=aq _
theorem fw.k:Kk gM.s [] [] Tryz.f115 fw.d fw.B:={}
def fw.s:SpL:=fw.d.e [] fw.F::gM.s
theorem fw.c:Ck fw.s []:=cS gM.c fw.k
def fy.d:Fe:=⟨76,1,⟨[(0,.v false [.sl 62 cX])],[],[],0,[]⟩,⟨[(0,.v false [.bool])],[],[],1000,[]⟩,(.s none .n (.s (some ⟨[],[],[0],0,[]⟩) (.s none .n (.b (.l ⟨[(3,.v false [.int .i64])],[],[0],0,[]⟩ .n))) .n))⟩
def fy.B:(List bO)×Unit→Option (Bool×Unit):=fun (p0,_)=>
 jn (S:=Unit) (
 aN (S:=Int×Unit) (fun (x3,_)=>
 (bif (decide (x3<(p0.length:Int))) then
 ck (ib x3 p0.length)<|
 let e1:bO:=(gt p0 x3 cX.z)
 (fw.F (e1.1,())).bind fun y2=>
 (bif (!y2.1) then
 ir (.inr (false,()))
 else
 let e3:Int:=(wr (x3+(1:Int)))
 il (e3,()))
 else
 ir (.inl (())))) ((0:Int),())) fun (_)=>
 some ((decide ((p0.length:Int)≤(60:Int))),())
def fy.F:=stk fy.B
theorem fy.eq:fy.F=fy.B:=aq _
theorem fy.k:Kk fw.s [] [] Tryz.f76 fy.d fy.B:={}
def fy.s:SpL:=fy.d.e [] fy.F::fw.s
theorem fy.c:Ck fy.s []:=cS fw.c fy.k
def gN.d:Fe:=⟨40,1,⟨[(0,.v false [.sl 62 cX])],[],[],0,[]⟩,⟨[(0,.v false [.bool])],[],[],1000,[]⟩,(.s none .n (.s (some ⟨[],[],[0],0,[]⟩) (.s none .n (.b (.l ⟨[(3,.v false [.int .i64])],[],[0],0,[]⟩ .n))) .n))⟩
def gN.B:(List bO)×Unit→Option (Bool×Unit):=fun (p0,_)=>
 jn (S:=Unit) (
 aN (S:=Int×Unit) (fun (x3,_)=>
 (bif (decide (x3<(p0.length:Int))) then
 ck (ib x3 p0.length)<|
 let e1:bO:=(gt p0 x3 cX.z)
 (bif (decide (e1.2>(1000:Int))) then
 ir (.inr (false,()))
 else
 ck (ib x3 p0.length)<|
 let e2:bO:=(gt p0 x3 cX.z)
 (bif (decide (e2.2<(-1000:Int))) then
 ir (.inr (false,()))
 else
 let e3:Int:=(wr (x3+(1:Int)))
 il (e3,())))
 else
 ir (.inl (())))) ((0:Int),())) fun (_)=>
 (fy.F (p0,())).bind fun y5=>
 some (y5.1,())
def gN.F:=stk gN.B
theorem gN.eq:gN.F=gN.B:=aq _
theorem gN.k:Kk fy.s [] [] Tryz.f40 gN.d gN.B:={}
def gN.s:SpL:=gN.d.e [] gN.F::fy.s
theorem gN.c:Ck gN.s []:=cS fy.c gN.k
def fz.d:Fe:=⟨11,1,⟨[(0,.v false [.sl 44 eB])],[],[],0,[]⟩,⟨[(0,.v false [.bool])],[],[],1000,[]⟩,(.s none .n (.s (some ⟨[],[],[0],0,[]⟩) (.s none .n (.b (.l ⟨[(3,.v false [.int .i64])],[],[0],0,[]⟩ .n))) .n))⟩
def fz.B:(List bF)×Unit→Option (Bool×Unit):=fun (p0,_)=>
 jn (S:=Unit) (
 aN (S:=Int×Unit) (fun (x3,_)=>
 (bif (decide (x3<(p0.length:Int))) then
 ck (ib x3 p0.length)<|
 let e1:bF:=(gt p0 x3 eB.z)
 (bif (decide ((e1.2.length:Int)>(12:Int))) then
 ir (.inr (false,()))
 else
 ck (ib x3 p0.length)<|
 let e2:bF:=(gt p0 x3 eB.z)
 (gN.F (e2.2,())).bind fun y3=>
 (bif (!y3.1) then
 ir (.inr (false,()))
 else
 let e4:Int:=(wr (x3+(1:Int)))
 il (e4,())))
 else
 ir (.inl (())))) ((0:Int),())) fun (_)=>
 some ((decide ((p0.length:Int)≤(6:Int))),())
def fz.F:=stk fz.B
theorem fz.eq:fz.F=fz.B:=aq _
theorem fz.k:Kk gN.s [] [] Tryz.f11 fz.d fz.B:={}
def fz.s:SpL:=fz.d.e [] fz.F::gN.s
theorem fz.c:Ck fz.s []:=cS gN.c fz.k
def fY.d:Fe:=⟨87,1,⟨[(0,.v true [.int .i64,.str,.sl 75 aV,.sl 78 (.sl 126 bN),.str,.str,.str,.int .i64,.int .i64,.sl 126 bN,.sl 3 (.int .i64),.bool,.sl 156 ep])],[],[],0,[]⟩,⟨[(0,.v false [.str])],[],[],1000,[]⟩,.n⟩
def fY.B:Int×ByteArray×(List aB)×(List (List ak))×ByteArray×ByteArray×ByteArray×Int×Int×(List ak)×(List Int)×Bool×(List cU)×Unit→Option (ByteArray×Unit):=fun (p0_0,p0_1,p0_2,p0_3,p0_4,p0_5,p0_6,p0_7,p0_8,p0_9,p0_10,p0_11,p0_12,_)=>
 (bif (p0_0==(0:Int)) then
 some (p0_1,())
 else
 some (p0_4,()))
def fY.F:=stk fY.B
theorem fY.eq:fY.F=fY.B:=aq _
theorem fY.k:Kk fz.s [] [] Tryz.f87 fY.d fY.B:={}
def fY.s:SpL:=fY.d.e [] fY.F::fz.s
theorem fY.c:Ck fY.s []:=cS fz.c fY.k
def eP.d:Fe:=⟨46,2,⟨[(0,.v false [.sl 84 gF]),(1,.v false [.str])],[],[],0,[]⟩,⟨[(0,.v false [.int .i64])],[],[],1000,[]⟩,(.s none .n (.s none (.s none .n (.b (.l ⟨[(5,.v false [.int .i64])],[],[0,1],0,[]⟩ .n))) .n))⟩
def eP.B:(List bL)×ByteArray×Unit→Option (Int×Unit):=fun (p0,p1,_)=>
 aN (S:=Int×Unit) (fun (x5,_)=>
 (bif (decide (x5<(p0.length:Int))) then
 ck (ib x5 p0.length)<|
 let e1:bL:=(gt p0 x5 gF.z)
 (fY.F (e1.1,e1.2.1.1,e1.2.1.2.1,e1.2.1.2.2,e1.2.2.1,e1.2.2.2.1,e1.2.2.2.2.1,e1.2.2.2.2.2.1.1,e1.2.2.2.2.2.1.2,e1.2.2.2.2.2.2.1,e1.2.2.2.2.2.2.2.1,e1.2.2.2.2.2.2.2.2.1,e1.2.2.2.2.2.2.2.2.2,())).bind fun y2=>
 (bif (sq y2.1 p1) then
 ir (x5,())
 else
 let e3:Int:=(wr (x5+(1:Int)))
 il (e3,()))
 else
 ir ((-1:Int),()))) ((0:Int),())
def eP.F:=stk eP.B
theorem eP.eq:eP.F=eP.B:=aq _
theorem eP.k:Kk fY.s [] [] Tryz.f46 eP.d eP.B:={}
def eP.s:SpL:=eP.d.e [] eP.F::fY.s
theorem eP.c:Ck eP.s []:=cS fY.c eP.k
def bZ.d:Fe:=⟨127,1,⟨[(0,.v true [.str,.sl 75 aV,.sl 78 (.sl 126 bN)])],[],[],0,[]⟩,⟨[(0,.tup [(false,[.ref 1000]),(false,[.ref 1001])])],[(1000,false,.arr 3 (.int .i64)),(1001,false,.arr 4 .bool)],[],1002,[]⟩,(.s none .n (.s none .n (.s none (.s none .n (.b (.l ⟨[(4,.v false [.ref 0]),(5,.v false [.ref 1]),(6,.v false [.int .i64])],[(0,false,.arr 3 (.int .i64)),(1,false,.arr 4 .bool)],[1],2,[]⟩ .n))) .n)))⟩
def bZ.B:ByteArray×(List aB)×(List (List ak))×Unit→Option ((List Int)×(List Bool)×Unit):=fun (p0_0,p0_1,p0_2,_)=>
 aN (S:=Int×(List Int)×(List Bool)×Unit) (fun (x6,o4_0,o5_0,_)=>
 (bif (decide (x6<(p0_1.length:Int))) then
 ck (ib x6 p0_1.length)<|
 let e1:aB:=(gt p0_1 x6 aV.z)
 ck (Nat.ble (o4_0.length+ [e1.2.1].length) 17592186044416)<|
 ck (ib x6 p0_1.length)<|
 let e2:aB:=(gt p0_1 x6 aV.z)
 ck (Nat.ble (o5_0.length+ [e2.2.2.1].length) 140737488355328)<|
 let e3:Int:=(wr (x6+(1:Int)))
 il (e3,(o4_0++ [e1.2.1]),(o5_0++ [e2.2.2.1]),())
 else
 ir (o4_0,o5_0,()))) ((0:Int),([]:List Int),([]:List Bool),())
def bZ.F:=stk bZ.B
theorem bZ.eq:bZ.F=bZ.B:=aq _
theorem bZ.k:Kk eP.s [] [] Tryz.f127 bZ.d bZ.B:={}
def bZ.s:SpL:=bZ.d.e [] bZ.F::eP.s
theorem bZ.c:Ck bZ.s []:=cS eP.c bZ.k
def bu.d:Fe:=⟨169,2,⟨[(0,.v false [.sl 84 gF]),(1,.v true [.str,.str,.str,.int .i64,.int .i64,.sl 126 bN,.sl 3 (.int .i64),.bool,.sl 156 ep])],[],[],0,[]⟩,⟨[(0,.v false [.ref 1000])],[(1000,false,.arr 3 (.int .i64))],[],1001,[]⟩,.n⟩
def cF.d:Fe:=⟨170,2,⟨[(0,.v false [.sl 84 gF]),(1,.v true [.int .i64,.str,.sl 75 aV,.sl 78 (.sl 126 bN),.str,.str,.str,.int .i64,.int .i64,.sl 126 bN,.sl 3 (.int .i64),.bool,.sl 156 ep])],[],[],0,[]⟩,⟨[(0,.tup [(false,[.ref 1000]),(false,[.ref 1001])])],[(1000,false,.arr 3 (.int .i64)),(1001,false,.arr 4 .bool)],[],1002,[]⟩,(.s none .n (.s none .n (.s none .n (.s none .n (.s (some ⟨[(7,.v false [.ref 0]),(8,.v false [.ref 1])],[(0,false,.arr 3 (.int .i64)),(1,false,.arr 4 .bool)],[3,6],2,[]⟩) (.s none .n (.b (.l ⟨[(7,.v false [.ref 0]),(8,.v false [.ref 1]),(9,.v false [.int .i64])],[(0,false,.arr 3 (.int .i64)),(1,false,.arr 4 .bool)],[3,6],2,[]⟩ .n))) (.s none (.s none .n (.b (.l ⟨[(7,.v false [.ref 0]),(8,.v false [.ref 1]),(10,.v false [.int .i64])],[(0,false,.arr 3 (.int .i64)),(1,false,.arr 4 .bool)],[3,6],2,[]⟩ .n))) .n))))))⟩
def cF.b (f:TS bu.d.si→Option (TS bu.d.so)):(List bL)×Int×ByteArray×(List aB)×(List (List ak))×ByteArray×ByteArray×ByteArray×Int×Int×(List ak)×(List Int)×Bool×(List cU)×Unit→Option ((List Int)×(List Bool)×Unit):=fun (p0,p1_0,p1_1,p1_2,p1_3,p1_4,p1_5,p1_6,p1_7,p1_8,p1_9,p1_10,p1_11,p1_12,_)=>
 (bif (p1_0==(0:Int)) then
 (bZ.F (p1_1,p1_2,p1_3,())).bind fun y1=>
 some (y1.1,y1.2.1,())
 else
 (f (p0,p1_4,p1_5,p1_6,p1_7,p1_8,p1_9,p1_10,p1_11,p1_12,())).bind fun y2=>
 jn (S:=(List Int)×(List Bool)×Unit) (
 aN (S:=Int×(List Int)×(List Bool)×Unit) (fun (x9,o7_0,o8_0,_)=>
 (bif (decide (x9<(p1_10.length:Int))) then
 ck (ib x9 p1_10.length)<|
 let e3:Int:=(gt p1_10 x9 (0:Int))
 ck (ib e3 y2.1.length)<|
 let e4:Int:=(List.getD y2.1 (Int.toNat e3) (0:Int))
 ck (Nat.ble (o7_0.length+ [e4].length) 17592186044416)<|
 ck (Nat.ble (o8_0.length+ [true].length) 140737488355328)<|
 let e5:Int:=(wr (x9+(1:Int)))
 il (e5,(o7_0++ [e4]),(o8_0++ [true]),())
 else
 ir (.inl (o7_0,o8_0,())))) ((0:Int),([]:List Int),([]:List Bool),())) fun (o7_0_6,o8_0_6,_)=>
 aN (S:=Int×(List Int)×(List Bool)×Unit) (fun (x10,o7_0,o8_0,_)=>
 (bif (decide (x10<(p1_12.length:Int))) then
 ck (ib x10 p1_12.length)<|
 let e7:cU:=(gt p1_12 x10 ep.z)
 (bif (decide (e7.1≥(2:Int))) then
 ck (ib e7.2 y2.1.length)<|
 let e8:Int:=(List.getD y2.1 (Int.toNat e7.2) (0:Int))
 ck (Nat.ble (o7_0.length+ [e8].length) 17592186044416)<|
 ck (Nat.ble (o8_0.length+ [true].length) 140737488355328)<|
 let e9:Int:=(wr (x10+(1:Int)))
 il (e9,(o7_0++ [e8]),(o8_0++ [true]),())
 else
 ck (Nat.ble (o7_0.length+ [(2:Int)].length) 17592186044416)<|
 ck (Nat.ble (o8_0.length+ [true].length) 140737488355328)<|
 let e10:Int:=(wr (x10+(1:Int)))
 il (e10,(o7_0++ [(2:Int)]),(o8_0++ [true]),()))
 else
 ir (o7_0,o8_0,()))) ((0:Int),o7_0_6,o8_0_6,()))
theorem cF.k (f:TS bu.d.si→Option (TS bu.d.so)):Fk PP (cx (bu.d.e [] f::bZ.s) []) [] Tryz.f170 cF.d (cF.b f):={}
theorem cF.en:Lv.lf PP 170:=⟨_,Tryz.func170,by kernel_rfl,by decide⟩
def bu.b (f:TS cF.d.si→Option (TS cF.d.so)):(List bL)×ByteArray×ByteArray×ByteArray×Int×Int×(List ak)×(List Int)×Bool×(List cU)×Unit→Option ((List Int)×Unit):=fun (p0,p1_0,p1_1,p1_2,p1_3,p1_4,p1_5,p1_6,p1_7,p1_8,_)=>
 (eP.F (p0,p1_1,())).bind fun y1=>
 ck (ib y1.1 p0.length)<|
 let e2:bL:=(gt p0 y1.1 gF.z)
 (f (p0,e2.1,e2.2.1.1,e2.2.1.2.1,e2.2.1.2.2,e2.2.2.1,e2.2.2.2.1,e2.2.2.2.2.1,e2.2.2.2.2.2.1.1,e2.2.2.2.2.2.1.2,e2.2.2.2.2.2.2.1,e2.2.2.2.2.2.2.2.1,e2.2.2.2.2.2.2.2.2.1,e2.2.2.2.2.2.2.2.2.2,())).bind fun y3=>
 (bif (sq p1_2 (⟨#[]⟩:ByteArray)) then
 some (y3.1,())
 else
 (eP.F (p0,p1_2,())).bind fun y4=>
 ck (ib y4.1 p0.length)<|
 let e5:bL:=(gt p0 y4.1 gF.z)
 (f (p0,e5.1,e5.2.1.1,e5.2.1.2.1,e5.2.1.2.2,e5.2.2.1,e5.2.2.2.1,e5.2.2.2.2.1,e5.2.2.2.2.2.1.1,e5.2.2.2.2.2.1.2,e5.2.2.2.2.2.2.1,e5.2.2.2.2.2.2.2.1,e5.2.2.2.2.2.2.2.2.1,e5.2.2.2.2.2.2.2.2.2,())).bind fun y6=>
 ck (Nat.ble (([]:List Int).length+y3.1.length) 17592186044416)<|
 ck (Nat.ble ((([]:List Int)++y3.1).length+y6.1.length) 17592186044416)<|
 some (((([]:List Int)++y3.1)++y6.1),()))
theorem bu.k (f:TS cF.d.si→Option (TS cF.d.so)):Fk PP (cx (cF.d.e [] f::bZ.s) []) [] Tryz.f169 bu.d (bu.b f):={}
theorem bu.en:Lv.lf PP 169:=⟨_,Tryz.func169,by kernel_rfl,by decide⟩
theorem cF.step (f:TS bu.d.si→Option (TS bu.d.so)) (hf:bu.d.ok PP f):cF.d.ok PP (cF.b f):=(cF.k f).okF (gT.consS bZ.c [] bu.en hf) mixed
theorem bu.step (f:TS cF.d.si→Option (TS cF.d.so)) (hf:cF.d.ok PP f):bu.d.ok PP (bu.b f):=(bu.k f).okF (gT.consS bZ.c [] cF.en hf) mixed
def cF.r:Nat→TS cF.d.si→Option (TS cF.d.so)
 |0=>fun _=>none
 |n+1=>cF.b (bu.b (cF.r n))
theorem cF.r_ok:∀n,cF.d.ok PP (cF.r n)
 |0=>fun _ _ h=>by cases h
 |n+1=>cF.step _ (bu.step _ (cF.r_ok n))
def cF.F:TS cF.d.si→Option (TS cF.d.so):=stk (cF.r 64)
theorem cF.eq:cF.F=cF.r 64:=aq _
theorem cF.ok:cF.d.ok PP cF.F:=by
 rw [cF.eq]
 exact cF.r_ok 64
def cF.s:SpL:=cF.d.e [] cF.F::bZ.s
theorem cF.c:Ck cF.s []:=gT.consS bZ.c [] cF.en cF.ok
def bu.F:TS bu.d.si→Option (TS bu.d.so):=stk (bu.b (cF.r 64))
theorem bu.eq:bu.F=bu.b (cF.r 64):=aq _
theorem bu.ok:bu.d.ok PP bu.F:=by
 rw [bu.eq]
 exact bu.step _ (cF.r_ok 64)
def bu.s:SpL:=bu.d.e [] bu.F::cF.s
theorem bu.c:Ck bu.s []:=gT.consS cF.c [] bu.en bu.ok
def eL.d:Fe:=⟨120,1,⟨[(0,.v false [.int .i64])],[],[],0,[]⟩,⟨[(0,.v false [.int .i64])],[],[],1000,[]⟩,(.s none .n (.s (some ⟨[],[],[0],0,[]⟩) .n .n))⟩
def eL.B:Int×Unit→Option (Int×Unit):=fun (p0,_)=>
 jn (S:=Unit) (
 (bif (p0==(0:Int)) then
 ir ((0:Int),())
 else
 (bif (p0==(1:Int)) then
 ir ((0:Int),())
 else
 il (())))) fun (_)=>
 (bif (p0==(9:Int)) then
 some ((1:Int),())
 else
 (bif (p0==(10:Int)) then
 some ((1:Int),())
 else
 (bif (decide (p0≥(2:Int))) then
 (bif (decide (p0≤(8:Int))) then
 some ((2:Int),())
 else
 some ((-1:Int),()))
 else
 some ((-1:Int),()))))
def eL.F:=stk eL.B
theorem eL.eq:eL.F=eL.B:=aq _
theorem eL.k:Kk bu.s [] [] Tryz.f120 eL.d eL.B:={}
def eL.s:SpL:=eL.d.e [] eL.F::bu.s
theorem eL.c:Ck eL.s []:=cS bu.c eL.k
def cL.d:Fe:=⟨122,3,⟨[(0,.v false [.int .i64]),(1,.v false [.int .i64]),(2,.v false [.int .i64])],[],[],0,[]⟩,⟨[(0,.tup [(false,[.int .i64]),(false,[.bool])])],[],[],1000,[]⟩,(.s none .n (.s none (.s (some ⟨[(17,.v false [.bool])],[],[0,1,2],0,[]⟩) .n .n) (.s (some ⟨[],[],[0,1,2],0,[]⟩) .n .n)))⟩
def cL.B:Int×Int×Int×Unit→Option (Int×Bool×Unit):=fun (p0,p1,p2,_)=>
 jn (S:=Bool×Unit) (
 (bif (p0==(2:Int)) then
 il (true,())
 else
 (bif (p0==(3:Int)) then
 il (true,())
 else
 il ((p0==(4:Int)),())))) fun (x17_1,_)=>
 (bif x17_1 then
 (bif (p1==(2:Int)) then
 (bif (p2==(2:Int)) then
 some ((2:Int),true,())
 else
 some ((2:Int),(p2==(0:Int)),()))
 else
 (bif (p1==(0:Int)) then
 (bif (p2==(2:Int)) then
 some ((2:Int),true,())
 else
 some ((2:Int),(p2==(0:Int)),()))
 else
 some ((2:Int),false,())))
 else
 jn (S:=Unit) (
 (bif (p0==(5:Int)) then
 (bif (p1==p2) then
 ir ((1:Int),true,())
 else
 (bif (p1==(0:Int)) then
 ir ((1:Int),true,())
 else
 ir ((1:Int),(p2==(0:Int)),())))
 else
 (bif (p0==(6:Int)) then
 (bif (p1==p2) then
 ir ((1:Int),true,())
 else
 (bif (p1==(0:Int)) then
 ir ((1:Int),true,())
 else
 ir ((1:Int),(p2==(0:Int)),())))
 else
 il (())))) fun (_)=>
 (bif (p0==(7:Int)) then
 (bif (p1==(1:Int)) then
 (bif (p2==(1:Int)) then
 some ((1:Int),true,())
 else
 some ((1:Int),(p2==(0:Int)),()))
 else
 (bif (p1==(0:Int)) then
 (bif (p2==(1:Int)) then
 some ((1:Int),true,())
 else
 some ((1:Int),(p2==(0:Int)),()))
 else
 some ((1:Int),false,())))
 else
 (bif (p0==(8:Int)) then
 (bif (p1==(1:Int)) then
 (bif (p2==(1:Int)) then
 some ((1:Int),true,())
 else
 some ((1:Int),(p2==(0:Int)),()))
 else
 (bif (p1==(0:Int)) then
 (bif (p2==(1:Int)) then
 some ((1:Int),true,())
 else
 some ((1:Int),(p2==(0:Int)),()))
 else
 some ((1:Int),false,())))
 else
 (bif (p0==(9:Int)) then
 (bif (p2==(1:Int)) then
 some ((1:Int),true,())
 else
 some ((1:Int),(p2==(0:Int)),()))
 else
 some ((1:Int),true,())))))
def cL.F:=stk cL.B
theorem cL.eq:cL.F=cL.B:=aq _
theorem cL.k:Kk eL.s [] [] Tryz.f122 cL.d cL.B:={}
def cL.s:SpL:=cL.d.e [] cL.F::eL.s
theorem cL.c:Ck cL.s []:=cS eL.c cL.k
def fc.d:Fe:=⟨171,2,⟨[(0,.v false [.sl 126 bN]),(1,.v false [.sl 3 (.int .i64)])],[],[],0,[]⟩,⟨[(0,.tup [(false,[.int .i64]),(false,[.int .i64])])],[],[],1000,[]⟩,(.s none .n (.s none .n (.s none .n (.s (some ⟨[(6,.v false [.ref 0])],[(0,false,.arr 3 (.int .i64))],[],1,[]⟩) (.s none .n (.b (.l ⟨[(6,.v false [.ref 0]),(7,.v false [.int .i64])],[(0,false,.arr 3 (.int .i64))],[0,1],1,[]⟩ (.s none .n (.s none (.b (.s none .n (.s none .n (.s (some ⟨[],[],[0,1,6,7,8,9],0,[]⟩) .n (.s none .n (.s (some ⟨[(11,.v false [.int .i64])],[],[0,1,6,7,8,9,10],0,[]⟩) .n (.s (some ⟨[(10,.v false [.int .i64])],[],[0,1,6,7,8,9,11],0,[]⟩) .n (.s none .n (.s none .n (.s (some ⟨[(12,.v false [.int .i64]),(13,.v false [.bool])],[],[0,1,6,7,8],0,[]⟩) .n .n)))))))))) .n))))) .n))))⟩
def fc.B:(List ak)×(List Int)×Unit→Option (Int×Int×Unit):=fun (p0,p1,_)=>
 (bif (decide ((p0.length:Int)>(100:Int))) then
 some ((0:Int),(1:Int),())
 else
 jn (S:=(List Int)×Unit) (
 aN (S:=Int×(List Int)×Unit) (fun (x7,o6_0,_)=>
 (bif (decide (x7<(p0.length:Int))) then
 ck (ib x7 p0.length)<|
 let e1:ak:=(gt p0 x7 bN.z)
 (eL.F (e1.1,())).bind fun y2=>
 jn (S:=Unit) (
 (bif (decide (y2.1<(0:Int))) then
 ir (.inr (.inr ((0:Int),(30:Int),())))
 else
 (bif (decide ((o6_0.length:Int)<y2.1)) then
 ir (.inr (.inr ((0:Int),(30:Int),())))
 else
 il (())))) fun (_)=>
 jn (S:=Int×Unit) (
 (bif (decide (y2.1>(0:Int))) then
 let e4:Int:=(wr ((o6_0.length:Int)-(1:Int)))
 ck (ib e4 o6_0.length)<|
 let e5:Int:=(List.getD o6_0 (Int.toNat e4) (0:Int))
 il (e5,())
 else
 il ((0:Int),()))) fun (x11_6,_)=>
 jn (S:=Int×Unit) (
 (bif (decide (y2.1>(1:Int))) then
 let e7:Int:=(wr ((o6_0.length:Int)-(2:Int)))
 ck (ib e7 o6_0.length)<|
 let e8:Int:=(List.getD o6_0 (Int.toNat e7) (0:Int))
 il (e8,())
 else
 il ((0:Int),()))) fun (x10_9,_)=>
 let e10:Int:=(wr ((o6_0.length:Int)-y2.1))
 ck (sb (0:Int) e10 o6_0.length)<|
 ck (Nat.ble (([]:List Int).length+(List.take (Int.toNat e10) o6_0).length) 17592186044416)<|
 (cL.F (e1.1,x10_9,x11_6,())).bind fun y11=>
 jn (S:=Int×Bool×Unit) (
 (bif (e1.1==(0:Int)) then
 (bif (decide (e1.2.1≥(0:Int))) then
 (bif (decide (e1.2.1<(p1.length:Int))) then
 ck (ib e1.2.1 p1.length)<|
 let e12:Int:=(gt p1 e1.2.1 (0:Int))
 (bif (decide (e12≥(1:Int))) then
 il (e12,(decide (e12≤(3:Int))),())
 else
 il (e12,false,()))
 else
 il (y11.1,(decide (e1.2.1<(p1.length:Int))),()))
 else
 il (y11.1,false,()))
 else
 il (y11.1,y11.2.1,()))) fun (x12_13,x13_13,_)=>
 (bif (e1.1==(1:Int)) then
 (dQ.F (e1.2.2.1,e1.2.2.2.1,e1.2.2.2.2,())).bind fun y14=>
 (bif (!y14.1) then
 ir (.inr ((0:Int),(30:Int),()))
 else
 ck (Nat.ble ((([]:List Int)++(List.take (Int.toNat e10) o6_0)).length+ [e1.2.2.1].length) 17592186044416)<|
 let e15:Int:=(wr (x7+(1:Int)))
 il (e15,((([]:List Int)++(List.take (Int.toNat e10) o6_0))++ [e1.2.2.1]),()))
 else
 (bif (!x13_13) then
 ir (.inr ((0:Int),(30:Int),()))
 else
 ck (Nat.ble ((([]:List Int)++(List.take (Int.toNat e10) o6_0)).length+ [x12_13].length) 17592186044416)<|
 let e16:Int:=(wr (x7+(1:Int)))
 il (e16,((([]:List Int)++(List.take (Int.toNat e10) o6_0))++ [x12_13]),())))
 else
 ir (.inl (o6_0,())))) ((0:Int),([]:List Int),())) fun (o6_0_17,_)=>
 (bif ((o6_0_17.length:Int) !=(1:Int)) then
 some ((0:Int),(30:Int),())
 else
 ck (ib (0:Int) o6_0_17.length)<|
 let e18:Int:=(List.getD o6_0_17 0 (0:Int))
 some (e18,(0:Int),())))
def fc.F:=stk fc.B
theorem fc.eq:fc.F=fc.B:=aq _
theorem fc.k:Kk cL.s [] [] Tryz.f171 fc.d fc.B:={}
def fc.s:SpL:=fc.d.e [] fc.F::cL.s
theorem fc.c:Ck fc.s []:=cS cL.c fc.k
def eA.d:Fe:=⟨128,2,⟨[(0,.v false [.sl 126 bN]),(1,.v false [.sl 3 (.int .i64)])],[],[],0,[]⟩,⟨[(0,.v false [.bool])],[],[],1000,[]⟩,.n⟩
def eA.B:(List ak)×(List Int)×Unit→Option (Bool×Unit):=fun (p0,p1,_)=>
 (fc.F (p0,p1,())).bind fun y1=>
 (bif (y1.2.1==(0:Int)) then
 some ((decide (y1.1<(2:Int))),())
 else
 some (false,()))
def eA.F:=stk eA.B
theorem eA.eq:eA.F=eA.B:=aq _
theorem eA.k:Kk fc.s [] [] Tryz.f128 eA.d eA.B:={}
def eA.s:SpL:=eA.d.e [] eA.F::fc.s
theorem eA.c:Ck eA.s []:=cS fc.c eA.k
def fI.d:Fe:=⟨124,2,⟨[(0,.v false [.sl 84 gF]),(1,.v true [.str,.str,.str,.int .i64,.int .i64,.sl 126 bN,.sl 3 (.int .i64),.bool,.sl 156 ep])],[],[],0,[]⟩,⟨[(0,.v false [.bool])],[],[],1000,[]⟩,(.s none .n (.s (some ⟨[],[],[0,3],0,[]⟩) .n (.s none .n (.s none .n (.s (some ⟨[],[],[3,5],0,[]⟩) (.s none .n (.c (.s (some ⟨[],[],[3,5,6],0,[]⟩) .n .n) .n)) (.s (some ⟨[(5,.v false [.sl 3 (.int .i64)])],[],[3],0,[]⟩) .n (.s (some ⟨[],[],[3,5],0,[]⟩) (.s none .n (.b (.l ⟨[(8,.v false [.int .i64])],[],[3,5],0,[]⟩ .n))) (.s (some ⟨[],[],[3],0,[]⟩) (.s none .n (.b (.l ⟨[(9,.v false [.int .i64])],[],[3,5],0,[]⟩ .n))) .n))))))))⟩
def fI.B:(List bL)×ByteArray×ByteArray×ByteArray×Int×Int×(List ak)×(List Int)×Bool×(List cU)×Unit→Option (Bool×Unit):=fun (p0,p1_0,p1_1,p1_2,p1_3,p1_4,p1_5,p1_6,p1_7,p1_8,_)=>
 jn (S:=Unit) (
 (eP.F (p0,p1_1,())).bind fun y1=>
 (bif (decide (y1.1<(0:Int))) then
 ir (true,())
 else
 (bif (!sq p1_2 (⟨#[]⟩:ByteArray)) then
 (eP.F (p0,p1_2,())).bind fun y2=>
 (bif (decide (y2.1<(0:Int))) then
 ir (true,())
 else
 il (()))
 else
 il (())))) fun (_)=>
 (bu.F (p0,p1_0,p1_1,p1_2,p1_3,p1_4,p1_5,p1_6,p1_7,p1_8,())).bind fun y4=>
 (eP.F (p0,p1_1,())).bind fun y5=>
 ck (ib y5.1 p0.length)<|
 let e6:bL:=(gt p0 y5.1 gF.z)
 (cF.F (p0,e6.1,e6.2.1.1,e6.2.1.2.1,e6.2.1.2.2,e6.2.2.1,e6.2.2.2.1,e6.2.2.2.2.1,e6.2.2.2.2.2.1.1,e6.2.2.2.2.2.1.2,e6.2.2.2.2.2.2.1,e6.2.2.2.2.2.2.2.1,e6.2.2.2.2.2.2.2.2.1,e6.2.2.2.2.2.2.2.2.2,())).bind fun y7=>
 jn (S:=Unit) (
 (bif (!sq p1_2 (⟨#[]⟩:ByteArray)) then
 jn (S:=Unit) (
 ck (ib (0:Int) 2)<|
 (bif (decide (p1_3≥(y7.1.length:Int))) then
 ir (.inr (true,()))
 else
 ck (ib (1:Int) 2)<|
 let e8:Int:=(wr ((y7.1.length:Int)+p1_4))
 (bif (decide (e8≥(y4.1.length:Int))) then
 ir (.inr (true,()))
 else
 il (())))) fun (_)=>
 ck (ib (0:Int) 2)<|
 ck (ib p1_3 y4.1.length)<|
 let e10:Int:=(List.getD y4.1 (Int.toNat p1_3) (0:Int))
 ck (ib (1:Int) 2)<|
 let e11:Int:=(wr ((y7.1.length:Int)+p1_4))
 ck (ib e11 y4.1.length)<|
 let e12:Int:=(List.getD y4.1 (Int.toNat e11) (0:Int))
 (bif (e10 !=e12) then
 ir (true,())
 else
 il (()))
 else
 il (()))) fun (_)=>
 jn (S:=(List Int)×Unit) (
 (bif (decide ((p1_5.length:Int)>(0:Int))) then
 (eA.F (p1_5,y4.1,())).bind fun y14=>
 (bif (!y14.1) then
 ir (true,())
 else
 il (y4.1,()))
 else
 il (y4.1,()))) fun (x5_15,_)=>
 jn (S:=Unit) (
 aN (S:=Int×Unit) (fun (x8,_)=>
 (bif (decide (x8<(p1_6.length:Int))) then
 ck (ib x8 p1_6.length)<|
 let e16:Int:=(gt p1_6 x8 (0:Int))
 (bif (decide (e16≥(x5_15.length:Int))) then
 ir (.inr (true,()))
 else
 let e17:Int:=(wr (x8+(1:Int)))
 il (e17,()))
 else
 ir (.inl (())))) ((0:Int),())) fun (_)=>
 jn (S:=Unit) (
 aN (S:=Int×Unit) (fun (x9,_)=>
 (bif (decide (x9<(p1_8.length:Int))) then
 ck (ib x9 p1_8.length)<|
 let e19:cU:=(gt p1_8 x9 ep.z)
 (bif (e19.1==(0:Int)) then
 let e20:Int:=(wr (x9+(1:Int)))
 il (e20,())
 else
 (bif (decide (e19.2≥(x5_15.length:Int))) then
 ir (.inr (true,()))
 else
 (bif (e19.1==(1:Int)) then
 ck (ib e19.2 x5_15.length)<|
 let e21:Int:=(gt x5_15 e19.2 (0:Int))
 (bif (e21 !=(2:Int)) then
 ir (.inr (true,()))
 else
 let e22:Int:=(wr (x9+(1:Int)))
 il (e22,()))
 else
 let e23:Int:=(wr (x9+(1:Int)))
 il (e23,()))))
 else
 ir (.inl (())))) ((0:Int),())) fun (_)=>
 let e25:Int:=(wr ((p1_6.length:Int)+(p1_8.length:Int)))
 (bif (!p1_7) then
 (bif (decide ((p1_8.length:Int)>(0:Int))) then
 some (true,())
 else
 (bif (e25==(0:Int)) then
 some (true,())
 else
 some ((decide (e25>(40:Int))),())))
 else
 (bif (e25==(0:Int)) then
 some (true,())
 else
 some ((decide (e25>(40:Int))),())))
def fI.F:=stk fI.B
theorem fI.eq:fI.F=fI.B:=aq _
theorem fI.k:Kk eA.s [] [] Tryz.f124 fI.d fI.B:={}
def fI.s:SpL:=fI.d.e [] fI.F::eA.s
theorem fI.c:Ck fI.s []:=cS eA.c fI.k
def fq.d:Fe:=⟨125,1,⟨[(0,.v true [.str,.sl 75 aV,.sl 78 (.sl 126 bN)])],[],[],0,[]⟩,⟨[(0,.v false [.bool])],[],[],1000,[]⟩,(.s none .n (.s (some ⟨[],[],[1],0,[]⟩) (.s none .n (.b (.l ⟨[(3,.v false [.int .i64])],[],[1],0,[]⟩ (.s none .n (.s (some ⟨[],[],[1,3],0,[]⟩) (.b (.s none .n (.b (.l ⟨[(4,.v false [.int .i64])],[],[1,3],0,[]⟩ .n)))) .n))))) .n))⟩
def fq.B:ByteArray×(List aB)×(List (List ak))×Unit→Option (Bool×Unit):=fun (p0_0,p0_1,p0_2,_)=>
 jn (S:=Unit) (
 aN (S:=Int×Unit) (fun (x3,_)=>
 (bif (decide (x3<(p0_1.length:Int))) then
 jn (S:=Unit) (
 aN (S:=Int×Unit) (fun (x4',_)=>
 (bif (decide (x4'<x3)) then
 ck (ib x3 p0_1.length)<|
 let e1:aB:=(gt p0_1 x3 aV.z)
 ck (ib x4' p0_1.length)<|
 let e2:aB:=(gt p0_1 x4' aV.z)
 (bif (sq e1.1 e2.1) then
 ir (.inr (.inr (.inr (true,()))))
 else
 let e3:Int:=(wr (x4'+(1:Int)))
 il (e3,()))
 else
 ir (.inl (())))) ((0:Int),())) fun (_)=>
 let e5:Int:=(wr (x3+(1:Int)))
 il (e5,())
 else
 ir (.inl (())))) ((0:Int),())) fun (_)=>
 ck (ib (0:Int) p0_1.length)<|
 let e7:aB:=(List.getD p0_1 0 aV.z)
 (bif e7.2.2.1 then
 some (true,())
 else
 ck (ib (0:Int) p0_1.length)<|
 let e8:aB:=(List.getD p0_1 0 aV.z)
 (bif (e8.2.1==(1:Int)) then
 some (true,())
 else
 ck (ib (0:Int) p0_1.length)<|
 let e9:aB:=(List.getD p0_1 0 aV.z)
 some ((!sq e9.2.2.2.2.1 (⟨#[]⟩:ByteArray)),())))
def fq.F:=stk fq.B
theorem fq.eq:fq.F=fq.B:=aq _
theorem fq.k:Kk fI.s [] [] Tryz.f125 fq.d fq.B:={}
def fq.s:SpL:=fq.d.e [] fq.F::fI.s
theorem fq.c:Ck fq.s []:=cS fI.c fq.k
def fJ.d:Fe:=⟨126,2,⟨[(0,.v false [.sl 84 gF]),(1,.v true [.str,.sl 75 aV,.sl 78 (.sl 126 bN)])],[],[],0,[]⟩,⟨[(0,.v false [.bool])],[],[],1000,[]⟩,(.s none .n (.s none (.s none .n (.b (.l ⟨[(5,.v false [.int .i64])],[],[0,3],0,[]⟩ (.s none .n (.s none (.b (.s none .n (.s none .n (.s none .n (.s (some ⟨[(7,.v false [.int .i64])],[],[0,3,5,6],0,[]⟩) .n .n))))) .n))))) .n))⟩
def fJ.B:(List bL)×ByteArray×(List aB)×(List (List ak))×Unit→Option (Bool×Unit):=fun (p0,p1_0,p1_1,p1_2,_)=>
 aN (S:=Int×Unit) (fun (x5,_)=>
 (bif (decide (x5<(p1_1.length:Int))) then
 ck (ib x5 p1_1.length)<|
 let e1:aB:=(gt p1_1 x5 aV.z)
 (bif (sq e1.2.2.2.2.1 (⟨#[]⟩:ByteArray)) then
 let e2:Int:=(wr (x5+(1:Int)))
 il (e2,())
 else
 ck (ib (0:Int) p1_1.length)<|
 let e3:aB:=(List.getD p1_1 0 aV.z)
 jn (S:=Int×Unit) (
 (bif (!sq e1.2.2.2.2.1 p1_0) then
 (eP.F (p0,e1.2.2.2.2.1,())).bind fun y4=>
 (bif (decide (y4.1<(0:Int))) then
 ir (.inr (true,()))
 else
 ck (ib y4.1 p0.length)<|
 let e5:bL:=(gt p0 y4.1 gF.z)
 (bif (e5.1 !=(0:Int)) then
 ir (.inr (true,()))
 else
 ck (ib y4.1 p0.length)<|
 let e6:bL:=(gt p0 y4.1 gF.z)
 ck (ib (0:Int) e6.2.1.2.1.length)<|
 let e7:aB:=(List.getD e6.2.1.2.1 0 aV.z)
 il (e7.2.1,())))
 else
 il (e3.2.1,()))) fun (x7_8,_)=>
 (bif (e1.2.1 !=x7_8) then
 ir (true,())
 else
 (bif (e1.2.2.2.2.2==(2:Int)) then
 (bif (!e1.2.2.1) then
 ir (true,())
 else
 let e9:Int:=(wr (x5+(1:Int)))
 il (e9,()))
 else
 let e10:Int:=(wr (x5+(1:Int)))
 il (e10,()))))
 else
 ir (false,()))) ((0:Int),())
def fJ.F:=stk fJ.B
theorem fJ.eq:fJ.F=fJ.B:=aq _
theorem fJ.k:Kk fq.s [] [] Tryz.f126 fJ.d fJ.B:={}
def fJ.s:SpL:=fJ.d.e [] fJ.F::fq.s
theorem fJ.c:Ck fJ.s []:=cS fq.c fJ.k
def eT.d:Fe:=⟨88,2,⟨[(0,.v false [.sl 84 gF]),(1,.v true [.int .i64,.str,.sl 75 aV,.sl 78 (.sl 126 bN),.str,.str,.str,.int .i64,.int .i64,.sl 126 bN,.sl 3 (.int .i64),.bool,.sl 156 ep])],[],[],0,[]⟩,⟨[(0,.v false [.int .i64])],[],[],1000,[]⟩,(.s none .n (.s none .n (.s none .n (.s none .n (.s none .n (.s none .n (.s none .n (.s none .n (.s none (.s none .n (.b (.l ⟨[(5,.v false [.sl 3 (.int .i64)]),(7,.v false [.int .i64])],[],[3],0,[]⟩ .n))) .n)))))))))⟩
def eT.B:(List bL)×Int×ByteArray×(List aB)×(List (List ak))×ByteArray×ByteArray×ByteArray×Int×Int×(List ak)×(List Int)×Bool×(List cU)×Unit→Option (Int×Unit):=fun (p0,p1_0,p1_1,p1_2,p1_3,p1_4,p1_5,p1_6,p1_7,p1_8,p1_9,p1_10,p1_11,p1_12,_)=>
 (eK.F (p1_0,p1_1,p1_2,p1_3,p1_4,p1_5,p1_6,p1_7,p1_8,p1_9,p1_10,p1_11,p1_12,())).bind fun y1=>
 (bif (sq y1.1 (⟨#[]⟩:ByteArray)) then
 some ((1:Int),())
 else
 (bif (decide ((p0.length:Int)≥(20:Int))) then
 some ((95:Int),())
 else
 (fY.F (p1_0,p1_1,p1_2,p1_3,p1_4,p1_5,p1_6,p1_7,p1_8,p1_9,p1_10,p1_11,p1_12,())).bind fun y2=>
 (eP.F (p0,y2.1,())).bind fun y3=>
 (bif (decide (y3.1≥(0:Int))) then
 some ((90:Int),())
 else
 (bif (p1_0 !=(0:Int)) then
 (fI.F (p0,p1_4,p1_5,p1_6,p1_7,p1_8,p1_9,p1_10,p1_11,p1_12,())).bind fun y4=>
 (bif y4.1 then
 some ((94:Int),())
 else
 some ((0:Int),()))
 else
 (fq.F (p1_1,p1_2,p1_3,())).bind fun y5=>
 (bif y5.1 then
 some ((91:Int),())
 else
 (fJ.F (p0,p1_1,p1_2,p1_3,())).bind fun y6=>
 (bif y6.1 then
 some ((92:Int),())
 else
 (bZ.F (p1_1,p1_2,p1_3,())).bind fun y7=>
 aN (S:=(List Int)×Int×Unit) (fun (x5,x7,_)=>
 (bif (decide (x7<(p1_3.length:Int))) then
 ck (ib x7 p1_3.length)<|
 let e8:(List ak):=(gt p1_3 x7 [])
 (eA.F (e8,x5,())).bind fun y9=>
 (bif (!y9.1) then
 ir ((93:Int),())
 else
 let e10:Int:=(wr (x7+(1:Int)))
 il (x5,e10,()))
 else
 ir ((0:Int),()))) (y7.1,(0:Int),())))))))
def eT.F:=stk eT.B
theorem eT.eq:eT.F=eT.B:=aq _
theorem eT.k:Kk fJ.s [] [] Tryz.f88 eT.d eT.B:={}
def eT.s:SpL:=eT.d.e [] eT.F::fJ.s
theorem eT.c:Ck eT.s []:=cS fJ.c eT.k
def gq.d:Fe:=⟨47,1,⟨[(0,.v false [.sl 84 gF])],[],[],0,[]⟩,⟨[(0,.v false [.bool])],[],[],1000,[]⟩,(.s none .n (.s none (.s none .n (.b (.l ⟨[(3,.v false [.int .i64])],[],[0],0,[]⟩ .n))) .n))⟩
def gq.B:(List bL)×Unit→Option (Bool×Unit):=fun (p0,_)=>
 aN (S:=Int×Unit) (fun (x3,_)=>
 (bif (decide (x3<(p0.length:Int))) then
 ck (sb (0:Int) x3 p0.length)<|
 let e1:List bL:=(List.drop (Int.toNat (0:Int)) (List.take (Int.toNat x3) p0))
 ck (ib x3 p0.length)<|
 let e2:bL:=(gt p0 x3 gF.z)
 (eT.F (e1,e2.1,e2.2.1.1,e2.2.1.2.1,e2.2.1.2.2,e2.2.2.1,e2.2.2.2.1,e2.2.2.2.2.1,e2.2.2.2.2.2.1.1,e2.2.2.2.2.2.1.2,e2.2.2.2.2.2.2.1,e2.2.2.2.2.2.2.2.1,e2.2.2.2.2.2.2.2.2.1,e2.2.2.2.2.2.2.2.2.2,())).bind fun y3=>
 (bif (y3.1 !=(0:Int)) then
 ir (false,())
 else
 let e4:Int:=(wr (x3+(1:Int)))
 il (e4,()))
 else
 ir (true,()))) ((0:Int),())
def gq.F:=stk gq.B
theorem gq.eq:gq.F=gq.B:=aq _
theorem gq.k:Kk eT.s [] [] Tryz.f47 gq.d gq.B:={}
def gq.s:SpL:=gq.d.e [] gq.F::eT.s
theorem gq.c:Ck gq.s []:=cS eT.c gq.k
def eE.d:Fe:=⟨18,1,⟨[(0,.v false [.sl 84 gF])],[],[],0,[]⟩,⟨[(0,.v false [.ref 1000])],[(1000,false,.arr 40 iW)],[],1001,[]⟩,(.s none .n (.s none .n (.s none (.s none .n (.b (.l ⟨[(3,.v false [.ref 0]),(4,.v false [.int .i64])],[(0,false,.arr 40 iW)],[0],1,[]⟩ .n))) .n)))⟩
def eE.B:(List bL)×Unit→Option ((List gD)×Unit):=fun (p0,_)=>
 aN (S:=Int×(List gD)×Unit) (fun (x4,o3_0,_)=>
 (bif (decide (x4<(p0.length:Int))) then
 ck (ib x4 p0.length)<|
 let e1:bL:=(gt p0 x4 gF.z)
 (bif (e1.1==(0:Int)) then
 ck (ib x4 p0.length)<|
 let e2:bL:=(gt p0 x4 gF.z)
 ck (Nat.ble (o3_0.length+ [e2.2.1].length) 2199023255552)<|
 let e3:Int:=(wr (x4+(1:Int)))
 il (e3,(o3_0++ [e2.2.1]),())
 else
 let e4:Int:=(wr (x4+(1:Int)))
 il (e4,o3_0,()))
 else
 ir (o3_0,()))) ((0:Int),([]:List gD),())
def eE.F:=stk eE.B
theorem eE.eq:eE.F=eE.B:=aq _
theorem eE.k:Kk gq.s [] [] Tryz.f18 eE.d eE.B:={}
def eE.s:SpL:=eE.d.e [] eE.F::gq.s
theorem eE.c:Ck eE.s []:=cS gq.c eE.k
def fZ.d:Fe:=⟨89,1,⟨[(0,.v false [.int .i64])],[],[],0,[]⟩,⟨[(0,.v false [.bool])],[],[],1000,[]⟩,.n⟩
def fZ.B:Int×Unit→Option (Bool×Unit):=fun (p0,_)=>
 (bif (decide (p0≥(-1000000000:Int))) then
 some ((decide (p0≤(1000000000:Int))),())
 else
 some (false,()))
def fZ.F:=stk fZ.B
theorem fZ.eq:fZ.F=fZ.B:=aq _
theorem fZ.k:Kk eE.s [] [] Tryz.f89 fZ.d fZ.B:={}
def fZ.s:SpL:=fZ.d.e [] fZ.F::eE.s
theorem fZ.c:Ck fZ.s []:=cS eE.c fZ.k
def gu.d:Fe:=⟨99,1,⟨[(0,.v false [.sl 47 ar])],[],[],0,[]⟩,⟨[(0,.v false [.bool])],[],[],1000,[]⟩,(.s none .n (.s none (.s none .n (.b (.l ⟨[(3,.v false [.int .i64])],[],[0],0,[]⟩ .n))) .n))⟩
def gu.B:(List ap)×Unit→Option (Bool×Unit):=fun (p0,_)=>
 aN (S:=Int×Unit) (fun (x3,_)=>
 (bif (decide (x3<(p0.length:Int))) then
 ck (ib x3 p0.length)<|
 let e1:ap:=(gt p0 x3 ar.z)
 (dQ.F (e1.1,e1.2.1,e1.2.2,())).bind fun y2=>
 (bif (!y2.1) then
 ir (false,())
 else
 let e3:Int:=(wr (x3+(1:Int)))
 il (e3,()))
 else
 ir (true,()))) ((0:Int),())
def gu.F:=stk gu.B
theorem gu.eq:gu.F=gu.B:=aq _
theorem gu.k:Kk fZ.s [] [] Tryz.f99 gu.d gu.B:={}
def gu.s:SpL:=gu.d.e [] gu.F::fZ.s
theorem gu.c:Ck gu.s []:=cS fZ.c gu.k
def fT.d:Fe:=⟨59,1,⟨[(0,.v false [.sl 47 ar])],[],[],0,[]⟩,⟨[(0,.v false [.bool])],[],[],1000,[]⟩,.n⟩
def fT.B:(List ap)×Unit→Option (Bool×Unit):=fun (p0,_)=>
 (bif (decide ((p0.length:Int)≤(40:Int))) then
 (gu.F (p0,())).bind fun y1=>
 some (y1.1,())
 else
 some (false,()))
def fT.F:=stk fT.B
theorem fT.eq:fT.F=fT.B:=aq _
theorem fT.k:Kk gu.s [] [] Tryz.f59 fT.d fT.B:={}
def fT.s:SpL:=fT.d.e [] fT.F::gu.s
theorem fT.c:Ck fT.s []:=cS gu.c fT.k
def da.d:Fe:=⟨106,2,⟨[(0,.v true [.int .i64,.int .i64,.str]),(1,.v true [.int .i64,.int .i64,.str])],[],[],0,[]⟩,⟨[(0,.v false [.int .i64])],[],[],1000,[]⟩,.n⟩
def da.B:Int×Int×ByteArray×Int×Int×ByteArray×Unit→Option (Int×Unit):=fun (p0_0,p0_1,p0_2,p1_0,p1_1,p1_2,_)=>
 (bif (p0_0 !=p1_0) then
 (bif (decide (p0_0<p1_0)) then
 some ((-1:Int),())
 else
 some ((1:Int),()))
 else
 (bif (p0_1 !=p1_1) then
 (bif (decide (p0_1<p1_1)) then
 some ((-1:Int),())
 else
 some ((1:Int),()))
 else
 (bif (Op.bytesLess p0_2.toList p1_2.toList) then
 some ((-1:Int),())
 else
 (bif (!(Op.bytesLess p0_2.toList p1_2.toList||p0_2.toList==p1_2.toList)) then
 some ((1:Int),())
 else
 some ((0:Int),())))))
def da.F:=stk da.B
theorem da.eq:da.F=da.B:=aq _
theorem da.k:Kk fT.s [] [] Tryz.f106 da.d da.B:={}
def da.s:SpL:=da.d.e [] da.F::fT.s
theorem da.c:Ck da.s []:=cS fT.c da.k
def dy.d:Fe:=⟨70,2,⟨[(0,.v false [.sl 47 ar]),(1,.v false [.sl 47 ar])],[],[],0,[]⟩,⟨[(0,.v false [.int .i64])],[],[],1000,[]⟩,(.s none .n (.s (some ⟨[],[],[0,1],0,[]⟩) (.s none .n (.b (.l ⟨[(5,.v false [.int .i64])],[],[0,1],0,[]⟩ .n))) .n))⟩
def dy.B:(List ap)×(List ap)×Unit→Option (Int×Unit):=fun (p0,p1,_)=>
 jn (S:=Unit) (
 aN (S:=Int×Unit) (fun (x5,_)=>
 (bif (decide (x5<(p0.length:Int))) then
 (bif (decide (x5<(p1.length:Int))) then
 ck (ib x5 p0.length)<|
 let e1:ap:=(gt p0 x5 ar.z)
 ck (ib x5 p1.length)<|
 let e2:ap:=(gt p1 x5 ar.z)
 (da.F (e1.1,e1.2.1,e1.2.2,e2.1,e2.2.1,e2.2.2,())).bind fun y3=>
 (bif (y3.1 !=(0:Int)) then
 ir (.inr (y3.1,()))
 else
 let e4:Int:=(wr (x5+(1:Int)))
 il (e4,()))
 else
 ir (.inl (())))
 else
 ir (.inl (())))) ((0:Int),())) fun (_)=>
 (bif (decide ((p0.length:Int)<(p1.length:Int))) then
 some ((-1:Int),())
 else
 (bif (decide ((p0.length:Int)>(p1.length:Int))) then
 some ((1:Int),())
 else
 some ((0:Int),())))
def dy.F:=stk dy.B
theorem dy.eq:dy.F=dy.B:=aq _
theorem dy.k:Kk da.s [] [] Tryz.f70 dy.d dy.B:={}
def dy.s:SpL:=dy.d.e [] dy.F::da.s
theorem dy.c:Ck dy.s []:=cS da.c dy.k
def gv.d:Fe:=⟨48,1,⟨[(0,.v false [.sl 62 cX])],[],[],0,[]⟩,⟨[(0,.v false [.bool])],[],[],1000,[]⟩,(.s none .n (.s none (.s none .n (.b (.l ⟨[(3,.v false [.int .i64])],[],[0],0,[]⟩ (.s none .n (.s none (.b (.s (some ⟨[(52,.v false [.bool])],[],[0,3],0,[]⟩) .n .n)) .n))))) .n))⟩
def gv.B:(List bO)×Unit→Option (Bool×Unit):=fun (p0,_)=>
 aN (S:=Int×Unit) (fun (x3,_)=>
 (bif (decide (x3<(p0.length:Int))) then
 jn (S:=Bool×Unit) (
 ck (ib x3 p0.length)<|
 let e1:bO:=(gt p0 x3 cX.z)
 (bif (e1.2==(0:Int)) then
 il (true,())
 else
 ck (ib x3 p0.length)<|
 let e2:bO:=(gt p0 x3 cX.z)
 (fZ.F (e2.2,())).bind fun y3=>
 (bif (!y3.1) then
 il (true,())
 else
 ck (ib x3 p0.length)<|
 let e4:bO:=(gt p0 x3 cX.z)
 (fT.F (e4.1,())).bind fun y5=>
 (bif (!y5.1) then
 il (true,())
 else
 (bif (decide (x3>(0:Int))) then
 let e6:Int:=(wr (x3-(1:Int)))
 ck (ib e6 p0.length)<|
 let e7:bO:=(gt p0 e6 cX.z)
 ck (ib x3 p0.length)<|
 let e8:bO:=(gt p0 x3 cX.z)
 (dy.F (e7.1,e8.1,())).bind fun y9=>
 il ((decide (y9.1≥(0:Int))),())
 else
 il (false,())))))) fun (x52_10,_)=>
 (bif x52_10 then
 ir (false,())
 else
 let e11:Int:=(wr (x3+(1:Int)))
 il (e11,()))
 else
 ir (true,()))) ((0:Int),())
def gv.F:=stk gv.B
theorem gv.eq:gv.F=gv.B:=aq _
theorem gv.k:Kk dy.s [] [] Tryz.f48 gv.d gv.B:={}
def gv.s:SpL:=gv.d.e [] gv.F::dy.s
theorem gv.c:Ck gv.s []:=cS dy.c gv.k
def fK.d:Fe:=⟨49,2,⟨[(0,.v true [.str,.sl 75 aV,.sl 78 (.sl 126 bN)]),(1,.v false [.sl 62 cX])],[],[],0,[]⟩,⟨[(0,.v false [.bool])],[],[],1000,[]⟩,(.s none .n (.s none (.s none .n (.b (.l ⟨[(5,.v false [.int .i64])],[],[1,2],0,[]⟩ (.s none .n (.s (some ⟨[],[],[1,2,5],0,[]⟩) (.b (.s (some ⟨[],[],[1,2,5],0,[]⟩) .n (.s none .n (.s none .n (.b (.l ⟨[(6,.v false [.int .i64])],[],[1,2,5],0,[]⟩ .n)))))) .n))))) .n))⟩
def fK.B:ByteArray×(List aB)×(List (List ak))×(List bO)×Unit→Option (Bool×Unit):=fun (p0_0,p0_1,p0_2,p1,_)=>
 aN (S:=Int×Unit) (fun (x5,_)=>
 (bif (decide (x5<(p1.length:Int))) then
 jn (S:=Unit) (
 jn (S:=Unit) (
 ck (ib x5 p1.length)<|
 let e1:bO:=(gt p1 x5 cX.z)
 (bif (e1.2 !=(1:Int)) then
 ir (.inr (.inr (false,())))
 else
 ck (ib x5 p1.length)<|
 let e2:bO:=(gt p1 x5 cX.z)
 (bif ((e2.1.length:Int) !=(p0_1.length:Int)) then
 ir (.inr (.inr (false,())))
 else
 il (())))) fun (_)=>
 ck (ib x5 p1.length)<|
 let e4:bO:=(gt p1 x5 cX.z)
 ck (ib (0:Int) e4.1.length)<|
 let e5:ap:=(List.getD e4.1 0 ar.z)
 (bif (e5.1==(0:Int)) then
 ir (.inr (false,()))
 else
 aN (S:=Int×Unit) (fun (x6',_)=>
 (bif (decide (x6'<x5)) then
 ck (ib x6' p1.length)<|
 let e6:bO:=(gt p1 x6' cX.z)
 ck (ib (0:Int) e6.1.length)<|
 let e7:ap:=(List.getD e6.1 0 ar.z)
 ck (ib x5 p1.length)<|
 let e8:bO:=(gt p1 x5 cX.z)
 ck (ib (0:Int) e8.1.length)<|
 let e9:ap:=(List.getD e8.1 0 ar.z)
 (bif (Ty.eq ar e7 e9) then
 ir (.inr (.inr (false,())))
 else
 let e10:Int:=(wr (x6'+(1:Int)))
 il (e10,()))
 else
 ir (.inl (())))) ((0:Int),()))) fun (_)=>
 let e12:Int:=(wr (x5+(1:Int)))
 il (e12,())
 else
 ir (true,()))) ((0:Int),())
def fK.F:=stk fK.B
theorem fK.eq:fK.F=fK.B:=aq _
theorem fK.k:Kk gv.s [] [] Tryz.f49 fK.d fK.B:={}
def fK.s:SpL:=fK.d.e [] fK.F::gv.s
theorem fK.c:Ck fK.s []:=cS gv.c fK.k
def fW.d:Fe:=⟨17,2,⟨[(0,.v false [.sl 84 gF]),(1,.v false [.sl 44 eB])],[],[],0,[]⟩,⟨[(0,.v false [.bool])],[],[],1000,[]⟩,(.s none .n (.s none .n (.s none .n (.s none .n (.s none (.s none .n (.b (.l ⟨[(6,.v false [.int .i64])],[],[1,5],0,[]⟩ .n))) .n)))))⟩
def fW.B:(List bL)×(List bF)×Unit→Option (Bool×Unit):=fun (p0,p1,_)=>
 (gq.F (p0,())).bind fun y1=>
 (bif (!y1.1) then
 some (false,())
 else
 (eE.F (p0,())).bind fun y2=>
 (bif ((y2.1.length:Int) !=(p1.length:Int)) then
 some (false,())
 else
 aN (S:=Int×Unit) (fun (x6,_)=>
 (bif (decide (x6<(y2.1.length:Int))) then
 ck (ib x6 p1.length)<|
 let e3:bF:=(gt p1 x6 eB.z)
 ck (ib x6 y2.1.length)<|
 let e4:gD:=(List.getD y2.1 (Int.toNat x6) iW.z)
 (bif (!sq e3.1 e4.1) then
 ir (false,())
 else
 ck (ib x6 p1.length)<|
 let e5:bF:=(gt p1 x6 eB.z)
 (gv.F (e5.2,())).bind fun y6=>
 (bif (!y6.1) then
 ir (false,())
 else
 ck (ib x6 y2.1.length)<|
 let e7:gD:=(List.getD y2.1 (Int.toNat x6) iW.z)
 ck (ib x6 p1.length)<|
 let e8:bF:=(gt p1 x6 eB.z)
 (fK.F (e7.1,e7.2.1,e7.2.2,e8.2,())).bind fun y9=>
 (bif (!y9.1) then
 ir (false,())
 else
 let e10:Int:=(wr (x6+(1:Int)))
 il (e10,()))))
 else
 ir (true,()))) ((0:Int),())))
def fW.F:=stk fW.B
theorem fW.eq:fW.F=fW.B:=aq _
theorem fW.k:Kk fK.s [] [] Tryz.f17 fW.d fW.B:={}
def fW.s:SpL:=fW.d.e [] fW.F::fK.s
theorem fW.c:Ck fW.s []:=cS fK.c fW.k
def bm.d:Fe:=⟨224,2,⟨[(0,.v false [.ptr 0 0]),(1,.v false [.sl 9 .str])],[(0,true,.box 243 [.ref 1]),(1,true,.arr 9 .str)],[],2,[]⟩,⟨[(0,.tup [])],[(0,true,.box 243 [.ref 1001]),(1001,false,.arr 9 .str)],[],1002,[(0,0)]⟩,.n⟩
def bm.B:(List ByteArray)×(List ByteArray)×Unit→Option ((List ByteArray)×Unit):=fun (p1,o0_0,_)=>
 ck (Nat.ble (o0_0.length+p1.length) 8796093022208)<|
 some ((o0_0++p1),())
def bm.F:=stk bm.B
theorem bm.eq:bm.F=bm.B:=aq _
theorem bm.k:Kk fW.s [] [] Tryz.f224 bm.d bm.B:={}
def bm.s:SpL:=bm.d.e [] bm.F::fW.s
theorem bm.c:Ck bm.s []:=cS fW.c bm.k
def fd.d:Fe:=⟨227,2,⟨[(0,.v false [.int .i64]),(1,.v false [.sl 9 .str])],[],[],0,[]⟩,⟨[(0,.v false [.str])],[],[],1000,[]⟩,.n⟩
def fd.B:Int×(List ByteArray)×Unit→Option (ByteArray×Unit):=fun (p0,p1,_)=>
 (bif (decide (p0<(0:Int))) then
 some ((⟨#[33]⟩:ByteArray),())
 else
 (bif (decide (p0≥(p1.length:Int))) then
 some ((⟨#[33]⟩:ByteArray),())
 else
 ck (ib p0 p1.length)<|
 let e1:ByteArray:=(gt p1 p0 (⟨#[]⟩:ByteArray))
 some (e1,())))
def fd.F:=stk fd.B
theorem fd.eq:fd.F=fd.B:=aq _
theorem fd.k:Kk bm.s [] [] Tryz.f227 fd.d fd.B:={}
def fd.s:SpL:=fd.d.e [] fd.F::bm.s
theorem fd.c:Ck fd.s []:=cS bm.c fd.k
def bq.d:Fe:=⟨228,3,⟨[(0,.v false [.ptr 0 0]),(1,.v false [.bool]),(2,.v false [.sl 9 .str])],[(0,true,.box 243 [.ref 1]),(1,true,.arr 9 .str)],[],2,[]⟩,⟨[(0,.tup [])],[(0,true,.box 243 [.ref 1001]),(1001,false,.arr 9 .str)],[],1002,[(0,0)]⟩,.n⟩
def bq.B:Bool×(List ByteArray)×(List ByteArray)×Unit→Option ((List ByteArray)×Unit):=fun (p1,p2,o0_0,_)=>
 (bif p1 then
 (bm.F (p2,o0_0,())).bind fun y1=>
 some (y1.1,())
 else
 some (o0_0,()))
def bq.F:=stk bq.B
theorem bq.eq:bq.F=bq.B:=aq _
theorem bq.k:Kk fd.s [] [] Tryz.f228 bq.d bq.B:={}
def bq.s:SpL:=bq.d.e [] bq.F::fd.s
theorem bq.c:Ck bq.s []:=cS fd.c bq.k
def strconv_Itoa.d:Fe:=⟨230,1,⟨[(0,.v false [.int .i64])],[],[],0,[]⟩,⟨[(0,.v false [.str])],[],[],1000,[]⟩,.n⟩
def strconv_Itoa.B:TS strconv_Itoa.d.si→Option (TS strconv_Itoa.d.so):=BJ
def strconv_Itoa.F:=stk strconv_Itoa.B
theorem strconv_Itoa.eq:strconv_Itoa.F=strconv_Itoa.B:=aq _
theorem strconv_Itoa.ok:fk PP 230 ⟨1,strconv_Itoa.d.si,strconv_Itoa.d.so,strconv_Itoa.F⟩:=by
 rw [strconv_Itoa.eq]
 exact Av
def strconv_Itoa.s:SpL:=strconv_Itoa.d.e [] strconv_Itoa.F::bq.s
theorem strconv_Itoa.c:Ck strconv_Itoa.s []:=gT.consS bq.c [] ⟨_,Tryz.func230,by kernel_rfl,by decide⟩ strconv_Itoa.ok
def gJ.d:Fe:=⟨288,1,⟨[(0,.v false [.int .u8])],[],[],0,[]⟩,⟨[(0,.v false [.int .i64])],[],[],1000,[]⟩,(.s none .n (.s none (.b (.s (some ⟨[(3,.v false [.bool])],[],[0],0,[]⟩) .n (.c .n (.s (some ⟨[(10,.v false [.bool])],[],[0],0,[]⟩) .n .n)))) .n))⟩
def gJ.B:Int×Unit→Option (Int×Unit):=fun (p0,_)=>
 jn (S:=Bool×Unit) (
 (bif (decide (p0≥(97:Int))) then
 il ((decide (p0≤(122:Int))),())
 else
 il (false,()))) fun (x3_1,_)=>
 (bif x3_1 then
 some ((1:Int),())
 else
 jn (S:=Bool×Unit) (
 (bif (decide (p0≥(48:Int))) then
 il ((decide (p0≤(57:Int))),())
 else
 il (false,()))) fun (x10_2,_)=>
 (bif x10_2 then
 some ((2:Int),())
 else
 (bif (p0==(95:Int)) then
 some ((3:Int),())
 else
 (bif (p0==(39:Int)) then
 some ((4:Int),())
 else
 (bif (p0==(32:Int)) then
 some ((5:Int),())
 else
 some ((0:Int),()))))))
def gJ.F:=stk gJ.B
theorem gJ.eq:gJ.F=gJ.B:=aq _
theorem gJ.k:Kk strconv_Itoa.s [] [] Tryz.f288 gJ.d gJ.B:={}
def gJ.s:SpL:=gJ.d.e [] gJ.F::strconv_Itoa.s
theorem gJ.c:Ck gJ.s []:=cS strconv_Itoa.c gJ.k
def bT.d:Fe:=⟨263,2,⟨[(0,.v false [.ptr 0 0]),(1,.v false [.sl 298 (.int .i64)])],[(0,true,.box 296 [.str,.int .i64])],[],1,[]⟩,⟨[(0,.v false [.str])],[(0,true,.box 296 [.str,.int .i64])],[],1001,[(0,0)]⟩,(.s none .n (.s none .n (.s (some ⟨[(0,.v false [.ptr 0 0])],[(0,true,.box 296 [.str,.int .i64])],[5],1,[]⟩) (.b (.l ⟨[(0,.v false [.ptr 0 0])],[(0,true,.box 296 [.str,.int .i64])],[1,5],1,[]⟩ (.s none .n (.b (.s none .n (.s none .n (.s (some ⟨[(7,.v false [.bool])],[],[0,1,5],0,[]⟩) (.s none .n (.b (.l ⟨[(7,.v false [.bool]),(36,.v false [.int .i64])],[],[0,1,5,6,34,35],0,[]⟩ .n))) .n))))))) .n)))⟩
def bT.B:(List Int)×ByteArray×Int×Unit→Option (ByteArray×ByteArray×Int×Unit):=fun (p1,o0_0,o0_1,_)=>
 jn (S:=ByteArray×Int×Unit) (
 aN (S:=ByteArray×Int×Unit) (fun (o0_0_0,o0_0_1,_)=>
 (bif (decide (o0_0_1<(o0_0_0.size:Int))) then
 ck (ib o0_0_1 o0_0_0.size)<|
 let e1:Int:=(bM o0_0_0 (Int.toNat o0_0_1))
 (gJ.F (e1,())).bind fun y2=>
 jn (S:=Bool×Unit) (
 aN (S:=Bool×Int×Unit) (fun (x7',x36',_)=>
 (bif (decide (x36'<(p1.length:Int))) then
 ck (ib x36' p1.length)<|
 let e3:Int:=(gt p1 x36' (0:Int))
 (bif x7' then
 let e4:Int:=(wr (x36'+(1:Int)))
 il (true,e4,())
 else
 let e5:Int:=(wr (x36'+(1:Int)))
 il ((e3==y2.1),e5,()))
 else
 ir (.inl (x7',())))) (false,(0:Int),())) fun (x7_6,_)=>
 (bif (!x7_6) then
 ir (.inl (o0_0_0,o0_0_1,()))
 else
 let e7:Int:=(wr (o0_0_1+(1:Int)))
 il (o0_0_0,e7,()))
 else
 ir (.inl (o0_0_0,o0_0_1,())))) (o0_0,o0_1,())) fun (o0_0_0_8,o0_0_1_8,_)=>
 ck (sb o0_1 o0_0_1_8 o0_0_0_8.size)<|
 let e9:ByteArray:=(o0_0_0_8.extract (Int.toNat o0_1) (Int.toNat o0_0_1_8))
 some (e9,o0_0_0_8,o0_0_1_8,())
def bT.F:=stk bT.B
theorem bT.eq:bT.F=bT.B:=aq _
theorem bT.k:Kk gJ.s [] [] Tryz.f263 bT.d bT.B:={}
def bT.s:SpL:=bT.d.e [] bT.F::gJ.s
theorem bT.c:Ck bT.s []:=cS gJ.c bT.k
def ft.d:Fe:=⟨299,1,⟨[(0,.v false [.str])],[],[],0,[]⟩,⟨[(0,.v false [.bool])],[],[],1000,[]⟩,(.s none .n (.s (some ⟨[],[],[0],0,[]⟩) .n .n))⟩
def ft.B:ByteArray×Unit→Option (Bool×Unit):=fun (p0,_)=>
 jn (S:=Unit) (
 (bif (sq p0 (⟨#[]⟩:ByteArray)) then
 ir (false,())
 else
 (bif (decide ((p0.size:Int)>(30:Int))) then
 ir (false,())
 else
 ck (ib (0:Int) p0.size)<|
 let e1:Int:=(bM p0 0)
 (gJ.F (e1,())).bind fun y2=>
 (bif (y2.1 !=(1:Int)) then
 ir (false,())
 else
 il (()))))) fun (_)=>
 (bT.F ([(1:Int),(2:Int),(3:Int)],p0,(0:Int),())).bind fun y4=>
 some ((sq y4.1 p0),())
def ft.F:=stk ft.B
theorem ft.eq:ft.F=ft.B:=aq _
theorem ft.k:Kk bT.s [] [] Tryz.f299 ft.d ft.B:={}
def ft.s:SpL:=ft.d.e [] ft.F::bT.s
theorem ft.c:Ck ft.s []:=cS bT.c ft.k
def dz.d:Fe:=⟨96,1,⟨[(0,.v true [.int .i64,.int .i64,.str])],[],[],0,[]⟩,⟨[(0,.v false [.bool])],[],[],1000,[]⟩,.n⟩
def dz.B:Int×Int×ByteArray×Unit→Option (Bool×Unit):=fun (p0_0,p0_1,p0_2,_)=>
 (bif (p0_0==(0:Int)) then
 some ((Ty.eq ar (p0_0,(p0_1,p0_2)) ((0:Int),((0:Int),(⟨#[]⟩:ByteArray)))),())
 else
 (bif (p0_0==(1:Int)) then
 (bif (p0_1==(0:Int)) then
 some ((sq p0_2 (⟨#[]⟩:ByteArray)),())
 else
 (bif (p0_1==(1:Int)) then
 some ((sq p0_2 (⟨#[]⟩:ByteArray)),())
 else
 some (false,())))
 else
 (bif (p0_0==(2:Int)) then
 some ((sq p0_2 (⟨#[]⟩:ByteArray)),())
 else
 (bif (p0_0==(3:Int)) then
 (bif (p0_1==(0:Int)) then
 some ((decide ((p0_2.size:Int)≤(1000:Int))),())
 else
 some (false,()))
 else
 some (false,())))))
def dz.F:=stk dz.B
theorem dz.eq:dz.F=dz.B:=aq _
theorem dz.k:Kk ft.s [] [] Tryz.f96 dz.d dz.B:={}
def dz.s:SpL:=dz.d.e [] dz.F::ft.s
theorem dz.c:Ck dz.s []:=cS ft.c dz.k
def strings_Contains.d:Fe:=⟨293,2,⟨[(0,.v false [.str]),(1,.v false [.str])],[],[],0,[]⟩,⟨[(0,.v false [.bool])],[],[],1000,[]⟩,.n⟩
def strings_Contains.B:TS strings_Contains.d.si→Option (TS strings_Contains.d.so):=qs
def strings_Contains.F:=stk strings_Contains.B
theorem strings_Contains.eq:strings_Contains.F=strings_Contains.B:=aq _
theorem strings_Contains.ok:fk PP 293 ⟨2,strings_Contains.d.si,strings_Contains.d.so,strings_Contains.F⟩:=by
 rw [strings_Contains.eq]
 exact sQ
def strings_Contains.s:SpL:=strings_Contains.d.e [] strings_Contains.F::dz.s
theorem strings_Contains.c:Ck strings_Contains.s []:=gT.consS dz.c [] ⟨_,Tryz.func293,by kernel_rfl,by decide⟩ strings_Contains.ok
def fj.d:Fe:=⟨283,1,⟨[(0,.v true [.int .i64,.str,.int .i64,.int .i64,.str])],[],[],0,[]⟩,⟨[(0,.v false [.bool])],[],[],1000,[]⟩,.n⟩
def fj.B:Int×ByteArray×Int×Int×ByteArray×Unit→Option (Bool×Unit):=fun (p0_0,p0_1,p0_2,p0_3,p0_4,_)=>
 (bif (p0_0==(0:Int)) then
 (ft.F (p0_1,())).bind fun y1=>
 (bif y1.1 then
 some ((Ty.eq ar (p0_2,(p0_3,p0_4)) ((0:Int),((0:Int),(⟨#[]⟩:ByteArray)))),())
 else
 some (false,()))
 else
 (bif (p0_0==(1:Int)) then
 (bif (sq p0_1 (⟨#[]⟩:ByteArray)) then
 (dz.F (p0_2,p0_3,p0_4,())).bind fun y2=>
 (bif y2.1 then
 some ((decide (p0_2≥(2:Int))),())
 else
 some (false,()))
 else
 some (false,()))
 else
 (bif (p0_0==(2:Int)) then
 (bif ((p0_1.size:Int)==(1:Int)) then
 (strings_Contains.F ((⟨#[40,41,91,93,44,61,60,43,45,42,63]⟩:ByteArray),p0_1,())).bind fun y3=>
 (bif y3.1 then
 some ((Ty.eq ar (p0_2,(p0_3,p0_4)) ((0:Int),((0:Int),(⟨#[]⟩:ByteArray)))),())
 else
 some (false,()))
 else
 some (false,()))
 else
 some (false,()))))
def fj.F:=stk fj.B
theorem fj.eq:fj.F=fj.B:=aq _
theorem fj.k:Kk strings_Contains.s [] [] Tryz.f283 fj.d fj.B:={}
def fj.s:SpL:=fj.d.e [] fj.F::strings_Contains.s
theorem fj.c:Ck fj.s []:=cS strings_Contains.c fj.k
def bi.d:Fe:=⟨324,1,⟨[(0,.v false [.bool])],[],[],0,[]⟩,⟨[(0,.v false [.str])],[],[],1000,[]⟩,.n⟩
def bi.B:Bool×Unit→Option (ByteArray×Unit):=fun (p0,_)=>
 (bif p0 then
 some ((⟨#[116,114,117,101]⟩:ByteArray),())
 else
 some ((⟨#[102,97,108,115,101]⟩:ByteArray),()))
def bi.F:=stk bi.B
theorem bi.eq:bi.F=bi.B:=aq _
theorem bi.k:Kk fj.s [] [] Tryz.f324 bi.d bi.B:={}
def bi.s:SpL:=bi.d.e [] bi.F::fj.s
theorem bi.c:Ck bi.s []:=cS fj.c bi.k
def cA.d:Fe:=⟨312,1,⟨[(0,.v false [.bool])],[],[],0,[]⟩,⟨[(0,.v false [.str])],[],[],1000,[]⟩,.n⟩
def cA.B:Bool×Unit→Option (ByteArray×Unit):=fun (p0,_)=>
 (bi.F (p0,())).bind fun y1=>
 some (y1.1,())
def cA.F:=stk cA.B
theorem cA.eq:cA.F=cA.B:=aq _
theorem cA.k:Kk bi.s [] [] Tryz.f312 cA.d cA.B:={}
def cA.s:SpL:=cA.d.e [] cA.F::bi.s
theorem cA.c:Ck cA.s []:=cS bi.c cA.k
def strings_ReplaceAll.d:Fe:=⟨313,3,⟨[(0,.v false [.str]),(1,.v false [.str]),(2,.v false [.str])],[],[],0,[]⟩,⟨[(0,.v false [.str])],[],[],1000,[]⟩,.n⟩
def strings_ReplaceAll.B:TS strings_ReplaceAll.d.si→Option (TS strings_ReplaceAll.d.so):=sR
def strings_ReplaceAll.F:=stk strings_ReplaceAll.B
theorem strings_ReplaceAll.eq:strings_ReplaceAll.F=strings_ReplaceAll.B:=aq _
theorem strings_ReplaceAll.ok:fk PP 313 ⟨3,strings_ReplaceAll.d.si,strings_ReplaceAll.d.so,strings_ReplaceAll.F⟩:=by
 rw [strings_ReplaceAll.eq]
 exact uu
def strings_ReplaceAll.s:SpL:=strings_ReplaceAll.d.e [] strings_ReplaceAll.F::cA.s
theorem strings_ReplaceAll.c:Ck strings_ReplaceAll.s []:=gT.consS cA.c [] ⟨_,Tryz.func313,by kernel_rfl,by decide⟩ strings_ReplaceAll.ok
def dM.d:Fe:=⟨300,1,⟨[(0,.v true [.int .i64,.int .i64,.str])],[],[],0,[]⟩,⟨[(0,.v false [.str])],[],[],1000,[]⟩,.n⟩
def dM.B:Int×Int×ByteArray×Unit→Option (ByteArray×Unit):=fun (p0_0,p0_1,p0_2,_)=>
 (bif (p0_0==(0:Int)) then
 some ((⟨#[110,117,108,108]⟩:ByteArray),())
 else
 (bif (p0_0==(1:Int)) then
 (cA.F ((p0_1 !=(0:Int)),())).bind fun y1=>
 some (y1.1,())
 else
 (bif (p0_0==(2:Int)) then
 (strconv_Itoa.F (p0_1,())).bind fun y2=>
 some (y2.1,())
 else
 (bif (p0_0==(3:Int)) then
 (strings_ReplaceAll.F (p0_2,(⟨#[39]⟩:ByteArray),(⟨#[39,39]⟩:ByteArray),())).bind fun y3=>
 ck (ca (⟨#[39]⟩:ByteArray) y3.1)<|
 let e4:ByteArray:=((⟨#[39]⟩:ByteArray)++y3.1)
 ck (ca e4 (⟨#[39]⟩:ByteArray))<|
 let e5:ByteArray:=(e4++(⟨#[39]⟩:ByteArray))
 some (e5,())
 else
 some ((⟨#[63]⟩:ByteArray),())))))
def dM.F:=stk dM.B
theorem dM.eq:dM.F=dM.B:=aq _
theorem dM.k:Kk strings_ReplaceAll.s [] [] Tryz.f300 dM.d dM.B:={}
def dM.s:SpL:=dM.d.e [] dM.F::strings_ReplaceAll.s
theorem dM.c:Ck dM.s []:=cS strings_ReplaceAll.c dM.k
def strings_Join.d:Fe:=⟨206,2,⟨[(0,.v false [.sl 9 .str]),(1,.v false [.str])],[],[],0,[]⟩,⟨[(0,.v false [.str])],[],[],1000,[]⟩,.n⟩
def strings_Join.B:TS strings_Join.d.si→Option (TS strings_Join.d.so):=fun (xs,sep,_)=>if xs.length≤140737488355328∧(jr xs sep).size≤140737488355328 then some (jr xs sep,()) else none
def strings_Join.F:=stk strings_Join.B
theorem strings_Join.eq:strings_Join.F=strings_Join.B:=aq _
theorem strings_Join.ok:fk PP 206 ⟨2,strings_Join.d.si,strings_Join.d.so,strings_Join.F⟩:=by
 rw [strings_Join.eq]
 exact Aw
def strings_Join.s:SpL:=strings_Join.d.e [] strings_Join.F::dM.s
theorem strings_Join.c:Ck strings_Join.s []:=gT.consS dM.c [] ⟨_,Tryz.func206,by kernel_rfl,by decide⟩ strings_Join.ok
def dZ.d:Fe:=⟨284,1,⟨[(0,.v false [.sl 195 dS])],[],[],0,[]⟩,⟨[(0,.v false [.str])],[],[],1000,[]⟩,(.s none .n (.s none .n (.s (some ⟨[(3,.v false [.ref 0])],[(0,false,.arr 9 .str)],[],1,[]⟩) (.s none .n (.b (.l ⟨[(3,.v false [.ref 0]),(8,.v false [.int .i64])],[(0,false,.arr 9 .str)],[6,7],1,[]⟩ .n))) .n)))⟩
def dZ.B:(List aX)×Unit→Option (ByteArray×Unit):=fun (p0,_)=>
 jn (S:=(List ByteArray)×Unit) (
 aN (S:=Int×(List ByteArray)×Unit) (fun (x8,o3_0,_)=>
 (bif (decide (x8<(p0.length:Int))) then
 ck (ib x8 p0.length)<|
 let e1:aX:=(gt p0 x8 dS.z)
 (fj.F (e1.1,e1.2.1,e1.2.2.1,e1.2.2.2.1,e1.2.2.2.2,())).bind fun y2=>
 (bif (!y2.1) then
 ir (.inr ((⟨#[]⟩:ByteArray),()))
 else
 (bif (e1.1==(1:Int)) then
 (dM.F (e1.2.2.1,e1.2.2.2.1,e1.2.2.2.2,())).bind fun y3=>
 ck (Nat.ble (o3_0.length+ [y3.1].length) 8796093022208)<|
 let e4:Int:=(wr (x8+(1:Int)))
 il (e4,(o3_0++ [y3.1]),())
 else
 ck (Nat.ble (o3_0.length+ [e1.2.1].length) 8796093022208)<|
 let e5:Int:=(wr (x8+(1:Int)))
 il (e5,(o3_0++ [e1.2.1]),())))
 else
 ir (.inl (o3_0,())))) ((0:Int),[],())) fun (o3_0_6,_)=>
 (strings_Join.F (o3_0_6,(⟨#[32]⟩:ByteArray),())).bind fun y7=>
 some (y7.1,())
def dZ.F:=stk dZ.B
theorem dZ.eq:dZ.F=dZ.B:=aq _
theorem dZ.k:Kk strings_Join.s [] [] Tryz.f284 dZ.d dZ.B:={}
def dZ.s:SpL:=dZ.d.e [] dZ.F::strings_Join.s
theorem dZ.c:Ck dZ.s []:=cS strings_Join.c dZ.k
def cZ.d:Fe:=⟨259,1,⟨[(0,.v true [.int .i64,.int .i64,.str])],[],[],0,[]⟩,⟨[(0,.v false [.str])],[],[],1000,[]⟩,.n⟩
def cZ.B:TS cZ.d.si→Option (TS cZ.d.so):=fun (a,b,s,_)=>
 let e:ByteArray:=(⟨#[]⟩:ByteArray)
 bif (a==(0:Int))&&(b==(0:Int))&&(s==e) then some ((⟨#[110,117,108,108]⟩:ByteArray),())
 else bif (a==(1:Int))&&(b==(0:Int))&&(s==e) then some ((⟨#[102,97,108,115,101]⟩:ByteArray),())
 else bif (a==(1:Int))&&(b==(1:Int))&&(s==e) then some ((⟨#[116,114,117,101]⟩:ByteArray),())
 else Option.bind (fj.F ((1:Int),e,a,b,s,())) fun y=>
 bif (!y.1) then some ((⟨#[33]⟩:ByteArray),()) else Option.bind (dZ.F ([((1:Int),e,a,b,s)],())) fun z=>some (z.1,())
def cZ.F:=stk cZ.B
theorem cZ.eq:cZ.F=cZ.B:=aq _
theorem cZ.ok:fk PP 259 ⟨1,cZ.d.si,cZ.d.so,cZ.F⟩:=by
 rw [cZ.eq]
 exact xc dZ.c (lh dZ.c mixed) .n (fun a b s=>Option.bind (fj.F ((1:Int),(⟨#[]⟩:ByteArray),a,b,s,())) fun y=>bif (!y.1) then some ((⟨#[33]⟩:ByteArray),()) else Option.bind (dZ.F ([((1:Int),(⟨#[]⟩:ByteArray),a,b,s)],())) fun z=>some (z.1,())) (fun a b s=>by kernel_rfl)
def cZ.s:SpL:=cZ.d.e [] cZ.F::dZ.s
theorem cZ.c:Ck cZ.s []:=gT.consS dZ.c [] ⟨_,Tryz.func259,by kernel_rfl,by decide⟩ cZ.ok
def b9.d:Fe:=⟨229,2,⟨[(0,.v false [.ptr 0 0]),(1,.v false [.sl 126 bN])],[(0,true,.box 243 [.ref 1]),(1,true,.arr 9 .str)],[],2,[]⟩,⟨[(0,.tup [])],[(0,true,.box 243 [.ref 1001]),(1001,false,.arr 9 .str)],[],1002,[(0,0)]⟩,(.s none .n (.s (some ⟨[(0,.v false [.ptr 0 0])],[(0,true,.box 243 [.ref 1]),(1,false,.arr 9 .str)],[],2,[]⟩) (.s none .n (.b (.l ⟨[(0,.v false [.ptr 0 0]),(11,.v false [.int .i64])],[(0,true,.box 243 [.ref 1]),(1,false,.arr 9 .str)],[9,10],2,[]⟩ .n))) .n))⟩
def b9.B:(List ak)×(List ByteArray)×Unit→Option ((List ByteArray)×Unit):=fun (p1,o0_0,_)=>
 (bm.F ([(⟨#[91]⟩:ByteArray)],o0_0,())).bind fun y1=>
 jn (S:=(List ByteArray)×Unit) (
 aN (S:=Int×(List ByteArray)×Unit) (fun (x11,o0_0_0,_)=>
 (bif (decide (x11<(p1.length:Int))) then
 ck (ib x11 p1.length)<|
 let e2:ak:=(gt p1 x11 bN.z)
 (bif (e2.1==(0:Int)) then
 (strconv_Itoa.F (e2.2.1,())).bind fun y3=>
 ck (ca (⟨#[99]⟩:ByteArray) y3.1)<|
 let e4:ByteArray:=((⟨#[99]⟩:ByteArray)++y3.1)
 (bm.F ([e4],o0_0_0,())).bind fun y5=>
 let e6:Int:=(wr (x11+(1:Int)))
 il (e6,y5.1,())
 else
 (bif (e2.1==(1:Int)) then
 (cZ.F (e2.2.2.1,e2.2.2.2.1,e2.2.2.2.2,())).bind fun y7=>
 (bm.F ([y7.1],o0_0_0,())).bind fun y8=>
 let e9:Int:=(wr (x11+(1:Int)))
 il (e9,y8.1,())
 else
 let e10:Int:=(wr (e2.1-(2:Int)))
 (fd.F (e10,[(⟨#[43]⟩:ByteArray),(⟨#[45]⟩:ByteArray),(⟨#[42]⟩:ByteArray),(⟨#[61]⟩:ByteArray),(⟨#[60]⟩:ByteArray),(⟨#[97,110,100]⟩:ByteArray),(⟨#[111,114]⟩:ByteArray),(⟨#[110,111,116]⟩:ByteArray),(⟨#[110,117,108,108,32,63]⟩:ByteArray)],())).bind fun y11=>
 (bm.F ([y11.1],o0_0_0,())).bind fun y12=>
 let e13:Int:=(wr (x11+(1:Int)))
 il (e13,y12.1,())))
 else
 ir (.inl (o0_0_0,())))) ((0:Int),y1.1,())) fun (o0_0_0_14,_)=>
 (bm.F ([(⟨#[93]⟩:ByteArray)],o0_0_0_14,())).bind fun y15=>
 some (y15.1,())
def b9.F:=stk b9.B
theorem b9.eq:b9.F=b9.B:=aq _
theorem b9.k:Kk cZ.s [] [] Tryz.f229 b9.d b9.B:={}
def b9.s:SpL:=b9.d.e [] b9.F::cZ.s
theorem b9.c:Ck b9.s []:=cS cZ.c b9.k
def bR.d:Fe:=⟨204,2,⟨[(0,.v false [.ptr 0 0]),(1,.v true [.str,.sl 75 aV,.sl 78 (.sl 126 bN)])],[(0,true,.box 243 [.ref 1]),(1,true,.arr 9 .str)],[],2,[]⟩,⟨[(0,.tup [])],[(0,true,.box 243 [.ref 1001]),(1001,false,.arr 9 .str)],[],1002,[(0,0)]⟩,(.s none .n (.s none .n (.s none .n (.s none .n (.s none .n (.b (.l ⟨[(2,.v false [.ptr 0 0]),(23,.v false [.int .i64])],[(0,true,.box 241 [.ptr 1 0]),(1,true,.box 243 [.ref 2]),(2,false,.arr 9 .str)],[21,22],3,[]⟩ .n)))))))⟩
def bR.l:InT:=[(225,[(2,226)],Tryz.f225,(.s none .n (.b (.l ⟨[(0,.v false [.ptr 0 0]),(8,.v false [.int .i64])],[(0,true,.box 243 [.ref 1]),(1,false,.arr 9 .str)],[2,7],2,[]⟩ (.s none .n (.s none .n (.s (some ⟨[(0,.v false [.ptr 0 0])],[(0,true,.box 243 [.ref 1]),(1,false,.arr 9 .str)],[2,7,8],2,[]⟩) .n .n))))))),(226,[],Tryz.f226,.n)]
def bR.B:ByteArray×(List aB)×(List (List ak))×(List ByteArray)×Unit→Option ((List ByteArray)×Unit):=fun (p1_0,p1_1,p1_2,o0_0,_)=>
 (bm.F ([(⟨#[116,97,98,108,101]⟩:ByteArray),p1_0,(⟨#[40]⟩:ByteArray)],o0_0,())).bind fun y1=>
 aN (S:=Int×(List ByteArray)×Unit) (fun (x8,o0_0_0,_)=>
 (bif (decide (x8<(p1_1.length:Int))) then
 jn (S:=(List ByteArray)×Unit) (
 (bq.F ((decide (x8>(0:Int))),[(⟨#[44]⟩:ByteArray)],o0_0_0,())).bind fun y2=>
 ck (ib x8 p1_1.length)<|
 let e3:aB:=(gt p1_1 x8 aV.z)
 let e4:Int:=(wr (e3.2.1-(1:Int)))
 (fd.F (e4,[(⟨#[98,111,111,108]⟩:ByteArray),(⟨#[105,110,116]⟩:ByteArray),(⟨#[116,101,120,116]⟩:ByteArray)],())).bind fun y5=>
 (bm.F ([e3.1,y5.1],y2.1,())).bind fun y6=>
 (bq.F (e3.2.2.1,[(⟨#[110,117,108,108]⟩:ByteArray)],y6.1,())).bind fun y7=>
 (bq.F (e3.2.2.2.1,[(⟨#[117,110,105,113,117,101]⟩:ByteArray)],y7.1,())).bind fun y8=>
 (fd.F (e3.2.2.2.2.2,[(⟨#[114,101,115,116,114,105,99,116]⟩:ByteArray),(⟨#[99,97,115,99,97,100,101]⟩:ByteArray),(⟨#[115,101,116,110,117,108,108]⟩:ByteArray)],())).bind fun y9=>
 (bq.F ((!sq e3.2.2.2.2.1 (⟨#[]⟩:ByteArray)),[(⟨#[114,101,102]⟩:ByteArray),e3.2.2.2.2.1,y9.1],y8.1,())).bind fun y10=>
 il (y10.1,())) fun (o0_0_0_11,_)=>
 let e12:Int:=(wr (x8+(1:Int)))
 il (e12,o0_0_0_11,())
 else
 Option.map Sum.inr ((bm.F ([(⟨#[41]⟩:ByteArray)],o0_0_0,())).bind fun y13=>
 aN (S:=Int×(List ByteArray)×Unit) (fun (x23,o2_0_0_0,_)=>
 (bif (decide (x23<(p1_2.length:Int))) then
 ck (ib x23 p1_2.length)<|
 let e14:(List ak):=(gt p1_2 x23 [])
 (bm.F ([(⟨#[99,104,101,99,107]⟩:ByteArray)],o2_0_0_0,())).bind fun y15=>
 (b9.F (e14,y15.1,())).bind fun y16=>
 let e17:Int:=(wr (x23+(1:Int)))
 il (e17,y16.1,())
 else
 ir (o2_0_0_0,()))) ((0:Int),y13.1,())))) ((0:Int),y1.1,())
def bR.F:=stk bR.B
theorem bR.eq:bR.F=bR.B:=aq _
theorem bR.k:Kk b9.s [] bR.l Tryz.f204 bR.d bR.B:={}
def bR.s:SpL:=bR.d.e [] bR.F::b9.s
theorem bR.c:Ck bR.s []:=cS b9.c bR.k
def bW.d:Fe:=⟨205,2,⟨[(0,.v false [.ptr 0 0]),(1,.v true [.str,.str,.str,.int .i64,.int .i64,.sl 126 bN,.sl 3 (.int .i64),.bool,.sl 156 ep])],[(0,true,.box 243 [.ref 1]),(1,true,.arr 9 .str)],[],2,[]⟩,⟨[(0,.tup [])],[(0,true,.box 243 [.ref 1001]),(1001,false,.arr 9 .str)],[],1002,[(0,0)]⟩,(.s none .n (.s none .n (.s none .n (.s (some ⟨[(2,.v false [.ptr 0 0])],[(0,true,.box 241 [.ptr 1 0]),(1,true,.box 243 [.ref 2]),(2,false,.arr 9 .str)],[3,4],3,[]⟩) .n (.s (some ⟨[(2,.v false [.ptr 0 0])],[(0,true,.box 241 [.ptr 1 0]),(1,true,.box 243 [.ref 2]),(2,false,.arr 9 .str)],[3,4],3,[]⟩) .n .n)))))⟩
def bW.l:InT:=[(225,[(2,231)],Tryz.f225,(.s none .n (.b (.l ⟨[(0,.v false [.ptr 0 0]),(8,.v false [.int .i64])],[(0,true,.box 243 [.ref 1]),(1,false,.arr 9 .str)],[2,7],2,[]⟩ (.s none .n (.s none .n (.s (some ⟨[(0,.v false [.ptr 0 0])],[(0,true,.box 243 [.ref 1]),(1,false,.arr 9 .str)],[2,7,8],2,[]⟩) .n .n))))))),(225,[(2,232)],Tryz.f225,(.s none .n (.b (.l ⟨[(0,.v false [.ptr 0 0]),(8,.v false [.int .i64])],[(0,true,.box 243 [.ref 1]),(1,false,.arr 9 .str)],[2,7],2,[]⟩ (.s none .n (.s none .n (.s (some ⟨[(0,.v false [.ptr 0 0])],[(0,true,.box 243 [.ref 1]),(1,false,.arr 9 .str)],[2,7,8],2,[]⟩) .n .n))))))),(231,[],Tryz.f231,.n),(232,[],Tryz.f232,.n)]
def bW.B:ByteArray×ByteArray×ByteArray×Int×Int×(List ak)×(List Int)×Bool×(List cU)×(List ByteArray)×Unit→Option ((List ByteArray)×Unit):=fun (p1_0,p1_1,p1_2,p1_3,p1_4,p1_5,p1_6,p1_7,p1_8,o0_0,_)=>
 (bm.F ([(⟨#[118,105,101,119]⟩:ByteArray),p1_0,(⟨#[102,114,111,109]⟩:ByteArray),p1_1],o0_0,())).bind fun y1=>
 jn (S:=(List ByteArray)×Unit) (
 ck (ib (0:Int) 2)<|
 (strconv_Itoa.F (p1_3,())).bind fun y2=>
 ck (ib (1:Int) 2)<|
 (strconv_Itoa.F (p1_4,())).bind fun y3=>
 (bq.F ((!sq p1_2 (⟨#[]⟩:ByteArray)),[(⟨#[106,111,105,110]⟩:ByteArray),p1_2,(⟨#[111,110]⟩:ByteArray),y2.1,(⟨#[61]⟩:ByteArray),y3.1],y1.1,())).bind fun y4=>
 il (y4.1,())) fun (o2_0_0_0_5,_)=>
 jn (S:=(List ByteArray)×Unit) (
 (bif (decide ((p1_5.length:Int)>(0:Int))) then
 (bm.F ([(⟨#[119,104,101,114,101]⟩:ByteArray)],o2_0_0_0_5,())).bind fun y6=>
 (b9.F (p1_5,y6.1,())).bind fun y7=>
 il (y7.1,())
 else
 il (o2_0_0_0_5,()))) fun (o2_0_0_0_8,_)=>
 (bm.F ([(⟨#[112,105,99,107]⟩:ByteArray)],o2_0_0_0_8,())).bind fun y9=>
 aN (S:=Int×(List ByteArray)×Unit) (fun (x8,o0_0_0,_)=>
 (bif (decide (x8<(p1_6.length:Int))) then
 jn (S:=(List ByteArray)×Unit) (
 (bq.F ((decide (x8>(0:Int))),[(⟨#[44]⟩:ByteArray)],o0_0_0,())).bind fun y10=>
 ck (ib x8 p1_6.length)<|
 let e11:Int:=(gt p1_6 x8 (0:Int))
 (strconv_Itoa.F (e11,())).bind fun y12=>
 (bm.F ([y12.1],y10.1,())).bind fun y13=>
 il (y13.1,())) fun (o0_0_0_14,_)=>
 let e15:Int:=(wr (x8+(1:Int)))
 il (e15,o0_0_0_14,())
 else
 Option.map Sum.inr ((bq.F (p1_7,[(⟨#[103,114,111,117,112]⟩:ByteArray)],o0_0_0,())).bind fun y16=>
 aN (S:=Int×(List ByteArray)×Unit) (fun (x8,o0_0_0,_)=>
 (bif (decide (x8<(p1_8.length:Int))) then
 jn (S:=(List ByteArray)×Unit) (
 (bq.F ((decide (x8>(0:Int))),[(⟨#[44]⟩:ByteArray)],o0_0_0,())).bind fun y17=>
 ck (ib x8 p1_8.length)<|
 let e18:cU:=(gt p1_8 x8 ep.z)
 (fd.F (e18.1,[(⟨#[99,111,117,110,116]⟩:ByteArray),(⟨#[115,117,109]⟩:ByteArray),(⟨#[109,105,110]⟩:ByteArray),(⟨#[109,97,120]⟩:ByteArray)],())).bind fun y19=>
 (bm.F ([y19.1],y17.1,())).bind fun y20=>
 (strconv_Itoa.F (e18.2,())).bind fun y21=>
 (bq.F ((e18.1 !=(0:Int)),[y21.1],y20.1,())).bind fun y22=>
 il (y22.1,())) fun (o0_0_0_23,_)=>
 let e24:Int:=(wr (x8+(1:Int)))
 il (e24,o0_0_0_23,())
 else
 ir (o0_0_0,()))) ((0:Int),y16.1,())))) ((0:Int),y9.1,())
def bW.F:=stk bW.B
theorem bW.eq:bW.F=bW.B:=aq _
theorem bW.k:Kk bR.s [] bW.l Tryz.f205 bW.d bW.B:={}
def bW.s:SpL:=bW.d.e [] bW.F::bR.s
theorem bW.c:Ck bW.s []:=cS bR.c bW.k
def aZ.d:Fe:=⟨289,2,⟨[(0,.v false [.ptr 0 0]),(1,.v false [.int .i64])],[(0,true,.box 296 [.str,.int .i64])],[],1,[]⟩,⟨[(0,.v false [.int .u8])],[(0,true,.box 296 [.str,.int .i64])],[],1001,[(0,0)]⟩,.n⟩
def aZ.B:Int×ByteArray×Int×Unit→Option (Int×ByteArray×Int×Unit):=fun (p1,o0_0,o0_1,_)=>
 let e1:Int:=(wr (o0_1+p1))
 (bif (decide (e1≥(o0_0.size:Int))) then
 some ((0:Int),o0_0,o0_1,())
 else
 let e2:Int:=(wr (o0_1+p1))
 ck (ib e2 o0_0.size)<|
 let e3:Int:=(bM o0_0 (Int.toNat e2))
 some (e3,o0_0,o0_1,()))
def aZ.F:=stk aZ.B
theorem aZ.eq:aZ.F=aZ.B:=aq _
theorem aZ.k:Kk bW.s [] [] Tryz.f289 aZ.d aZ.B:={}
def aZ.s:SpL:=aZ.d.e [] aZ.F::bW.s
theorem aZ.c:Ck aZ.s []:=cS bW.c aZ.k
def cC.d:Fe:=⟨290,1,⟨[(0,.v false [.ptr 0 0])],[(0,true,.box 296 [.str,.int .i64])],[],1,[]⟩,⟨[(0,.tup [(true,[.int .i64,.str,.int .i64,.int .i64,.str]),(false,[.bool])])],[(0,true,.box 296 [.str,.int .i64])],[],1001,[(0,0)]⟩,.n⟩
def cC.B:ByteArray×Int×Unit→Option (Int×ByteArray×Int×Int×ByteArray×Bool×ByteArray×Int×Unit):=fun (o0_0,o0_1,_)=>
 (bT.F ([(1:Int),(2:Int),(3:Int)],o0_0,o0_1,())).bind fun y1=>
 some ((0:Int),y1.1,(0:Int),(0:Int),(⟨#[]⟩:ByteArray),(decide ((y1.1.size:Int)≤(30:Int))),y1.2.1,y1.2.2.1,())
def cC.F:=stk cC.B
theorem cC.eq:cC.F=cC.B:=aq _
theorem cC.k:Kk aZ.s [] [] Tryz.f290 cC.d cC.B:={}
def cC.s:SpL:=cC.d.e [] cC.F::aZ.s
theorem cC.c:Ck cC.s []:=cS aZ.c cC.k
def c7.d:Fe:=⟨305,1,⟨[(0,.v false [.str])],[],[],0,[]⟩,⟨[(0,.tup [(false,[.int .i64]),(false,[.ifc])])],[],[],1000,[]⟩,.n⟩
def c7.B:TS c7.d.si→Option (TS c7.d.so):=BK
def c7.F:=stk c7.B
theorem c7.eq:c7.F=c7.B:=aq _
theorem c7.ok:fk PP 305 ⟨1,c7.d.si,c7.d.so,c7.F⟩:=by
 rw [c7.eq]
 exact Ax
def c7.s:SpL:=c7.d.e [] c7.F::cC.s
theorem c7.c:Ck c7.s []:=gT.consS cC.c [] ⟨_,Tryz.func305,by kernel_rfl,by decide⟩ c7.ok
def cl.d:Fe:=⟨291,1,⟨[(0,.v false [.ptr 0 0])],[(0,true,.box 296 [.str,.int .i64])],[],1,[]⟩,⟨[(0,.tup [(true,[.int .i64,.str,.int .i64,.int .i64,.str]),(false,[.bool])])],[(0,true,.box 296 [.str,.int .i64])],[],1001,[(0,0)]⟩,(.s none .n (.s none .n (.s (some ⟨[(0,.v false [.ptr 0 0]),(4,.v false [.str])],[(0,true,.box 296 [.str,.int .i64])],[2],1,[]⟩) .n .n)))⟩
def cl.B:ByteArray×Int×Unit→Option (Int×ByteArray×Int×Int×ByteArray×Bool×ByteArray×Int×Unit):=fun (o0_0,o0_1,_)=>
 jn (S:=ByteArray×ByteArray×Int×Unit) (
 (aZ.F ((0:Int),o0_0,o0_1,())).bind fun y1=>
 (bif (y1.1==(45:Int)) then
 let e2:Int:=(wr (y1.2.2.1+(1:Int)))
 il ((⟨#[45]⟩:ByteArray),y1.2.1,e2,())
 else
 il ((⟨#[]⟩:ByteArray),y1.2.1,y1.2.2.1,()))) fun (x4_3,o0_0_0_3,o0_0_1_3,_)=>
 (bT.F ([(2:Int)],o0_0_0_3,o0_0_1_3,())).bind fun y4=>
 ck (ca x4_3 y4.1)<|
 let e5:ByteArray:=(x4_3++y4.1)
 (c7.F (e5,())).bind fun y6=>
 (bif y6.2.1 then
 (strconv_Itoa.F (y6.1,())).bind fun y7=>
 some ((1:Int),(⟨#[]⟩:ByteArray),(2:Int),y6.1,(⟨#[]⟩:ByteArray),(sq y7.1 e5),y4.2.1,y4.2.2.1,())
 else
 some ((1:Int),(⟨#[]⟩:ByteArray),(2:Int),y6.1,(⟨#[]⟩:ByteArray),false,y4.2.1,y4.2.2.1,()))
def cl.F:=stk cl.B
theorem cl.eq:cl.F=cl.B:=aq _
theorem cl.k:Kk c7.s [] [] Tryz.f291 cl.d cl.B:={}
def cl.s:SpL:=cl.d.e [] cl.F::c7.s
theorem cl.c:Ck cl.s []:=cS c7.c cl.k
def bn.d:Fe:=⟨235,1,⟨[(0,.v false [.ptr 0 0])],[(0,true,.box 263 [.np 0,.ref 1]),(1,true,.arr 5 (.int .u8))],[],2,[]⟩,⟨[(0,.v false [.str])],[],[],1000,[]⟩,.n⟩
def bn.B:TS bn.d.si→Option (TS bn.d.so):=fun (bs,_)=>if (∀x∈bs,0≤x∧x<256) then some (bytesOf bs,()) else none
def bn.F:=stk bn.B
theorem bn.eq:bn.F=bn.B:=aq _
theorem bn.ok:fk PP 235 ⟨1,bn.d.si,bn.d.so,bn.F⟩:=by
 rw [bn.eq]
 exact wZ
def bn.s:SpL:=bn.d.e [] bn.F::cl.s
theorem bn.c:Ck bn.s []:=gT.consS cl.c [] ⟨_,Tryz.func235,by kernel_rfl,by decide⟩ bn.ok
def aW.d:Fe:=⟨261,1,⟨[(0,.v false [.ptr 0 0])],[(0,true,.box 263 [.np 0,.ref 1]),(1,true,.arr 5 (.int .u8))],[],2,[]⟩,⟨[(0,.tup [])],[(0,true,.box 263 [.np 0,.ref 1000]),(1000,true,.arr 5 (.int .u8))],[],1001,[]⟩,.n⟩
def aW.B:TS aW.d.si→Option (TS aW.d.so):=fun (bs,_)=>some (bs,())
def aW.F:=stk aW.B
theorem aW.eq:aW.F=aW.B:=aq _
theorem aW.ok:fk PP 261 ⟨1,aW.d.si,aW.d.so,aW.F⟩:=by
 rw [aW.eq]
 exact yC
def aW.s:SpL:=aW.d.e [] aW.F::bn.s
theorem aW.c:Ck aW.s []:=gT.consS bn.c [] ⟨_,Tryz.func261,by kernel_rfl,by decide⟩ aW.ok
def bg.d:Fe:=⟨306,2,⟨[(0,.v false [.ptr 0 0]),(1,.v false [.int .u8])],[(0,true,.box 263 [.np 0,.ref 1]),(1,true,.arr 5 (.int .u8))],[],2,[]⟩,⟨[(0,.v false [.ifc])],[(0,true,.box 263 [.np 0,.ref 1001]),(1001,false,.arr 5 (.int .u8))],[],1002,[(0,0)]⟩,.n⟩
def bg.B:Int×(List Int)×Unit→Option (Bool×(List Int)×Unit):=fun (p1,o0_1,_)=>
 (aW.F (o0_1,())).bind fun y1=>
 ck (Nat.ble (y1.1.length+ [p1].length) 140737488355328)<|
 some (true,(y1.1++ [p1]),())
def bg.F:=stk bg.B
theorem bg.eq:bg.F=bg.B:=aq _
theorem bg.k:Kk aW.s [] [] Tryz.f306 bg.d bg.B:={}
def bg.s:SpL:=bg.d.e [] bg.F::aW.s
theorem bg.c:Ck bg.s []:=cS aW.c bg.k
def ce.d:Fe:=⟨292,1,⟨[(0,.v false [.ptr 0 0])],[(0,true,.box 296 [.str,.int .i64])],[],1,[]⟩,⟨[(0,.tup [(true,[.int .i64,.str,.int .i64,.int .i64,.str]),(false,[.bool])])],[(0,true,.box 296 [.str,.int .i64])],[],1001,[(0,0)]⟩,(.s none .n (.s none .n (.s (some ⟨[],[(0,true,.box 296 [.str,.int .i64]),(1,true,.box 263 [.np 1,.ref 2]),(2,false,.arr 5 (.int .u8))],[2],3,[(0,0),(1,1001)]⟩) (.s none .n (.b (.l ⟨[(0,.v false [.ptr 0 0]),(4,.v false [.ptr 1 0])],[(0,true,.box 296 [.str,.int .i64]),(1,true,.box 263 [.np 1,.ref 2]),(2,false,.arr 5 (.int .u8))],[2],3,[]⟩ (.s none .n (.s (some ⟨[(0,.v false [.ptr 0 0]),(4,.v false [.ptr 1 0])],[(0,true,.box 296 [.str,.int .i64]),(1,true,.box 263 [.np 1,.ref 2]),(2,false,.arr 5 (.int .u8))],[2],3,[]⟩) .n .n))))) .n)))⟩
def ce.B:ByteArray×Int×Unit→Option (Int×ByteArray×Int×Int×ByteArray×Bool×ByteArray×Int×Unit):=fun (o0_0,o0_1,_)=>
 jn (S:=ByteArray×Int×(List Int)×Unit) (
 let e1:Int:=(wr (o0_1+(1:Int)))
 aN (S:=ByteArray×Int×(List Int)×Unit) (fun (o0_0_0,o0_0_1,o4_0_1,_)=>
 (bif (decide (o0_0_1<(o0_0_0.size:Int))) then
 jn (S:=ByteArray×Int×(List Int)×Unit) (
 (aZ.F ((0:Int),o0_0_0,o0_0_1,())).bind fun y2=>
 (bif (y2.1==(39:Int)) then
 let e3:Int:=(wr (y2.2.2.1+(1:Int)))
 (aZ.F ((0:Int),y2.2.1,e3,())).bind fun y4=>
 (bif (y4.1 !=(39:Int)) then
 (bn.F (o4_0_1,())).bind fun y5=>
 (dz.F ((3:Int),(0:Int),y5.1,())).bind fun y6=>
 ir (.inr (.inr ((1:Int),(⟨#[]⟩:ByteArray),(3:Int),(0:Int),y5.1,y6.1,y4.2.1,y4.2.2.1,())))
 else
 (bif (decide (y4.2.2.1≥(y4.2.1.size:Int))) then
 (bn.F (o4_0_1,())).bind fun y7=>
 (dz.F ((3:Int),(0:Int),y7.1,())).bind fun y8=>
 ir (.inr (.inr ((1:Int),(⟨#[]⟩:ByteArray),(3:Int),(0:Int),y7.1,y8.1,y4.2.1,y4.2.2.1,())))
 else
 (bg.F (y2.1,o4_0_1,())).bind fun y9=>
 il (y4.2.1,y4.2.2.1,y9.2.1,())))
 else
 (bg.F (y2.1,o4_0_1,())).bind fun y10=>
 il (y2.2.1,y2.2.2.1,y10.2.1,()))) fun (o0_0_0_11,o0_0_1_11,o4_0_1_11,_)=>
 let e12:Int:=(wr (o0_0_1_11+(1:Int)))
 il (o0_0_0_11,e12,o4_0_1_11,())
 else
 ir (.inl (o0_0_0,o0_0_1,o4_0_1,())))) (o0_0,e1,[],())) fun (oin_0_0_13,oin_0_1_13,oin_1001_1_13,_)=>
 some ((0:Int),(⟨#[]⟩:ByteArray),(0:Int),(0:Int),(⟨#[]⟩:ByteArray),false,oin_0_0_13,oin_0_1_13,())
def ce.F:=stk ce.B
theorem ce.eq:ce.F=ce.B:=aq _
theorem ce.k:Kk bg.s [] [] Tryz.f292 ce.d ce.B:={}
def ce.s:SpL:=ce.d.e [] ce.F::bg.s
theorem ce.c:Ck ce.s []:=cS bg.c ce.k
def ch.d:Fe:=⟨264,1,⟨[(0,.v false [.ptr 0 0])],[(0,true,.box 296 [.str,.int .i64])],[],1,[]⟩,⟨[(0,.tup [(true,[.int .i64,.str,.int .i64,.int .i64,.str]),(false,[.bool])])],[(0,true,.box 296 [.str,.int .i64])],[],1001,[(0,0)]⟩,(.s none .n (.s none .n (.s none (.s none .n (.b (.s none .n (.c .n (.s (some ⟨[(0,.v false [.ptr 0 0]),(18,.v false [.bool])],[(0,true,.box 296 [.str,.int .i64])],[2,5],1,[]⟩) .n .n))))) .n)))⟩
def ch.B:ByteArray×Int×Unit→Option (Int×ByteArray×Int×Int×ByteArray×Bool×ByteArray×Int×Unit):=fun (o0_0,o0_1,_)=>
 (aZ.F ((0:Int),o0_0,o0_1,())).bind fun y1=>
 (gJ.F (y1.1,())).bind fun y2=>
 (bif (y2.1==(1:Int)) then
 (cC.F (y1.2.1,y1.2.2.1,())).bind fun y3=>
 some (y3.1,y3.2.1,y3.2.2.1,y3.2.2.2.1,y3.2.2.2.2.1,y3.2.2.2.2.2.1,y3.2.2.2.2.2.2.1,y3.2.2.2.2.2.2.2.1,())
 else
 jn (S:=Bool×ByteArray×Int×Unit) (
 (bif (y2.1==(2:Int)) then
 il ((y2.1==(2:Int)),y1.2.1,y1.2.2.1,())
 else
 (bif (y1.1==(45:Int)) then
 (aZ.F ((1:Int),y1.2.1,y1.2.2.1,())).bind fun y4=>
 (gJ.F (y4.1,())).bind fun y5=>
 il ((y5.1==(2:Int)),y4.2.1,y4.2.2.1,())
 else
 il (false,y1.2.1,y1.2.2.1,())))) fun (x18_6,o0_0_0_6,o0_0_1_6,_)=>
 (bif x18_6 then
 (cl.F (o0_0_0_6,o0_0_1_6,())).bind fun y7=>
 some (y7.1,y7.2.1,y7.2.2.1,y7.2.2.2.1,y7.2.2.2.2.1,y7.2.2.2.2.2.1,y7.2.2.2.2.2.2.1,y7.2.2.2.2.2.2.2.1,())
 else
 (bif (y2.1==(4:Int)) then
 (ce.F (o0_0_0_6,o0_0_1_6,())).bind fun y8=>
 some (y8.1,y8.2.1,y8.2.2.1,y8.2.2.2.1,y8.2.2.2.2.1,y8.2.2.2.2.2.1,y8.2.2.2.2.2.2.1,y8.2.2.2.2.2.2.2.1,())
 else
 let e9:Int:=(wr (o0_0_1_6+(1:Int)))
 let e10:Int:=(wr (e9-(1:Int)))
 ck (sb e10 e9 o0_0_0_6.size)<|
 let e11:ByteArray:=(o0_0_0_6.extract (Int.toNat e10) (Int.toNat e9))
 (strings_Contains.F ((⟨#[40,41,91,93,44,61,60,43,45,42,63]⟩:ByteArray),e11,())).bind fun y12=>
 some ((2:Int),e11,(0:Int),(0:Int),(⟨#[]⟩:ByteArray),y12.1,o0_0_0_6,e9,()))))
def ch.F:=stk ch.B
theorem ch.eq:ch.F=ch.B:=aq _
theorem ch.k:Kk ce.s [] [] Tryz.f264 ch.d ch.B:={}
def ch.s:SpL:=ch.d.e [] ch.F::ce.s
theorem ch.c:Ck ch.s []:=cS ce.c ch.k
def gn.d:Fe:=⟨236,1,⟨[(0,.v false [.str])],[],[],0,[]⟩,⟨[(0,.tup [(false,[.ref 1000]),(false,[.int .i64])])],[(1000,false,.arr 195 dS)],[],1001,[]⟩,(.s none .n (.s none .n (.s none .n (.s none .n (.s none (.s none .n (.b (.l ⟨[(4,.v false [.ptr 1 0]),(5,.v false [.ref 0])],[(0,false,.arr 195 dS),(1,true,.box 296 [.str,.int .i64])],[0],2,[]⟩ .n))) .n)))))⟩
def gn.B:ByteArray×Unit→Option (Int×(List aX)×Unit):=fun (p0,_)=>
 (bif (decide ((p0.size:Int)>(20000:Int))) then
 some ((60:Int),[],())
 else
 (bT.F ([(5:Int)],p0,(0:Int),())).bind fun y1=>
 aN (S:=(List aX)×ByteArray×Int×Unit) (fun (o5_0,o4_0_0,o4_0_1,_)=>
 (bif (decide (o4_0_1<(p0.size:Int))) then
 (ch.F (o4_0_0,o4_0_1,())).bind fun y2=>
 (bif (!y2.2.2.2.2.2.1) then
 ir ((60:Int),[],())
 else
 ck (Nat.ble (o5_0.length+ [(y2.1,(y2.2.1,(y2.2.2.1,(y2.2.2.2.1,y2.2.2.2.2.1))))].length) 2513169434916)<|
 (bT.F ([(5:Int)],y2.2.2.2.2.2.2.1,y2.2.2.2.2.2.2.2.1,())).bind fun y3=>
 il ((o5_0++ [(y2.1,(y2.2.1,(y2.2.2.1,(y2.2.2.2.1,y2.2.2.2.2.1))))]),y3.2.1,y3.2.2.1,()))
 else
 ir ((0:Int),o5_0,()))) ([],y1.2.1,y1.2.2.1,()))
def gn.F:=stk gn.B
theorem gn.eq:gn.F=gn.B:=aq _
theorem gn.k:Kk ch.s [] [] Tryz.f236 gn.d gn.B:={}
def gn.s:SpL:=gn.d.e [] gn.F::ch.s
theorem gn.c:Ck gn.s []:=cS ch.c gn.k
def cJ.d:Fe:=⟨272,2,⟨[(0,.v false [.ptr 0 0]),(1,.v false [.sl 9 .str])],[(0,true,.box 272 [.sl 195 dS])],[],1,[]⟩,⟨[(0,.v false [.bool])],[(0,true,.box 272 [.sl 195 dS])],[],1001,[(0,0)]⟩,(.s none .n (.s none (.s none .n (.b (.l ⟨[(9,.v false [.int .i64])],[],[0,7,8],0,[]⟩ .n))) .n))⟩
def cJ.B:(List ByteArray)×(List aX)×Unit→Option (Bool×(List aX)×Unit):=fun (p1,o0,_)=>
 aN (S:=Int×Unit) (fun (x9,_)=>
 (bif (decide (x9<(p1.length:Int))) then
 ck (ib x9 p1.length)<|
 let e1:ByteArray:=(gt p1 x9 (⟨#[]⟩:ByteArray))
 (bif (decide (x9≥(o0.length:Int))) then
 ir (false,o0,())
 else
 ck (ib x9 o0.length)<|
 let e2:aX:=(gt o0 x9 dS.z)
 (bif (e2.1==(1:Int)) then
 ir (false,o0,())
 else
 ck (ib x9 o0.length)<|
 let e3:aX:=(gt o0 x9 dS.z)
 (bif (!sq e3.2.1 e1) then
 ir (false,o0,())
 else
 let e4:Int:=(wr (x9+(1:Int)))
 il (e4,()))))
 else
 ir (true,o0,()))) ((0:Int),())
def cJ.F:=stk cJ.B
theorem cJ.eq:cJ.F=cJ.B:=aq _
theorem cJ.k:Kk gn.s [] [] Tryz.f272 cJ.d cJ.B:={}
def cJ.s:SpL:=cJ.d.e [] cJ.F::gn.s
theorem cJ.c:Ck cJ.s []:=cS gn.c cJ.k
def aw.d:Fe:=⟨265,2,⟨[(0,.v false [.ptr 0 0]),(1,.v false [.sl 9 .str])],[(0,true,.box 272 [.sl 195 dS])],[],1,[]⟩,⟨[(0,.v false [.bool])],[(0,true,.box 272 [.sl 195 dS])],[],1001,[(0,0)]⟩,.n⟩
def aw.B:(List ByteArray)×(List aX)×Unit→Option (Bool×(List aX)×Unit):=fun (p1,o0,_)=>
 (cJ.F (p1,o0,())).bind fun y1=>
 (bif (!y1.1) then
 some (false,y1.2.1,())
 else
 ck (sb (p1.length:Int) (y1.2.1.length:Int) y1.2.1.length)<|
 let e2:List aX:=(List.drop (Int.toNat (p1.length:Int)) (List.take (Int.toNat (y1.2.1.length:Int)) y1.2.1))
 some (true,e2,()))
def aw.F:=stk aw.B
theorem aw.eq:aw.F=aw.B:=aq _
theorem aw.k:Kk cJ.s [] [] Tryz.f265 aw.d aw.B:={}
def aw.s:SpL:=aw.d.e [] aw.F::cJ.s
theorem aw.c:Ck aw.s []:=cS cJ.c aw.k
def cW.d:Fe:=⟨241,1,⟨[(0,.v false [.bool])],[],[],0,[]⟩,⟨[(0,.tup [])],[],[],1000,[]⟩,.n⟩
def cW.B:Bool×Unit→Option ((Unit)⊕Int):=fun (p0,_)=>
 (bif (!p0) then
 some (.inr (70:Int))
 else
 some (.inl (())))
def cW.F:=stk cW.B
theorem cW.eq:cW.F=cW.B:=aq _
theorem cW.k:Kp aw.s [] [] Tryz.f241 cW.d cW.B:={}
def cW.q:SqL:=cW.d.p [] cW.F::[]
theorem cW.c:Ck aw.s cW.q:=cP aw.c cW.k
def bS.d:Fe:=⟨238,2,⟨[(0,.v false [.ptr 0 0]),(1,.v false [.sl 9 .str])],[(0,true,.box 272 [.sl 195 dS])],[],1,[]⟩,⟨[(0,.v false [.int .i64])],[(0,true,.box 272 [.sl 195 dS])],[],1001,[(0,0)]⟩,(.s none .n (.s (some ⟨[],[(0,true,.box 272 [.sl 195 dS])],[],1,[(0,0)]⟩) (.s none .n (.b (.l ⟨[(0,.v false [.ptr 0 0]),(9,.v false [.int .i64])],[(0,true,.box 272 [.sl 195 dS])],[7,8],1,[]⟩ .n))) .n))⟩
def bS.B:(List ByteArray)×(List aX)×Unit→Option ((Int×(List aX)×Unit)⊕Int):=fun (p1,o0,_)=>
 jn (S:=(List aX)×Unit) (
 aN (S:=Int×(List aX)×Unit) (fun (x9,o0_0,_)=>
 (bif (decide (x9<(p1.length:Int))) then
 ck (ib x9 p1.length)<|
 let e1:ByteArray:=(gt p1 x9 (⟨#[]⟩:ByteArray))
 (aw.F ([e1],o0_0,())).bind fun y2=>
 (bif y2.1 then
 ir (.inr (.inl (x9,y2.2.1,())))
 else
 let e3:Int:=(wr (x9+(1:Int)))
 il (e3,y2.2.1,()))
 else
 ir (.inl (o0_0,())))) ((0:Int),o0,())) fun (oin_0_4,_)=>
 Option.bind (cW.F (false,())) fun zy5=>match zy5 with
 | .inl y5=>
 (some (.inl ((0:Int),oin_0_4,())))
 | .inr n6=>some (.inr n6)
def bS.F:=stk bS.B
theorem bS.eq:bS.F=bS.B:=aq _
theorem bS.k:Kp aw.s cW.q [] Tryz.f238 bS.d bS.B:={}
def bS.q:SqL:=bS.d.p [] bS.F::cW.q
theorem bS.c:Ck aw.s bS.q:=cP cW.c bS.k
def bf.d:Fe:=⟨294,1,⟨[(0,.v false [.ptr 0 0])],[(0,true,.box 272 [.sl 195 dS])],[],1,[]⟩,⟨[(0,.v true [.int .i64,.str,.int .i64,.int .i64,.str])],[(0,true,.box 272 [.sl 195 dS])],[],1001,[(0,0)]⟩,.n⟩
def bf.B:(List aX)×Unit→Option ((Int×ByteArray×Int×Int×ByteArray×(List aX)×Unit)⊕Int):=fun (o0,_)=>
 Option.bind (cW.F ((decide ((o0.length:Int)>(0:Int))),())) fun zy1=>match zy1 with
 | .inl y1=>
 (ck (ib (0:Int) o0.length)<|
 let e2:aX:=(List.getD o0 0 dS.z)
 ck (sb (1:Int) (o0.length:Int) o0.length)<|
 let e3:List aX:=(List.drop (Int.toNat (1:Int)) (List.take (Int.toNat (o0.length:Int)) o0))
 some (.inl (e2.1,e2.2.1,e2.2.2.1,e2.2.2.2.1,e2.2.2.2.2,e3,())))
 | .inr n4=>some (.inr n4)
def bf.F:=stk bf.B
theorem bf.eq:bf.F=bf.B:=aq _
theorem bf.k:Kp aw.s bS.q [] Tryz.f294 bf.d bf.B:={}
def bf.q:SqL:=bf.d.p [] bf.F::bS.q
theorem bf.c:Ck aw.s bf.q:=cP bS.c bf.k
def dR.d:Fe:=⟨309,0,⟨[],[],[],0,[]⟩,⟨[(0,.v false [.ref 1000])],[(1000,false,.arr 9 .str)],[],1001,[]⟩,.n⟩
def dR.B:Unit→Option ((List ByteArray)×Unit):=fun (_)=>
 some ([(⟨#[116,97,98,108,101]⟩:ByteArray),(⟨#[99,104,101,99,107]⟩:ByteArray),(⟨#[118,105,101,119]⟩:ByteArray),(⟨#[102,114,111,109]⟩:ByteArray),(⟨#[106,111,105,110]⟩:ByteArray),(⟨#[111,110]⟩:ByteArray),(⟨#[119,104,101,114,101]⟩:ByteArray),(⟨#[112,105,99,107]⟩:ByteArray),(⟨#[103,114,111,117,112]⟩:ByteArray),(⟨#[98,111,111,108]⟩:ByteArray),(⟨#[105,110,116]⟩:ByteArray),(⟨#[116,101,120,116]⟩:ByteArray),(⟨#[110,117,108,108]⟩:ByteArray),(⟨#[117,110,105,113,117,101]⟩:ByteArray),(⟨#[114,101,102]⟩:ByteArray),(⟨#[114,101,115,116,114,105,99,116]⟩:ByteArray),(⟨#[99,97,115,99,97,100,101]⟩:ByteArray),(⟨#[115,101,116,110,117,108,108]⟩:ByteArray),(⟨#[99,111,117,110,116]⟩:ByteArray),(⟨#[115,117,109]⟩:ByteArray),(⟨#[109,105,110]⟩:ByteArray),(⟨#[109,97,120]⟩:ByteArray),(⟨#[116,114,117,101]⟩:ByteArray),(⟨#[102,97,108,115,101]⟩:ByteArray),(⟨#[97,110,100]⟩:ByteArray),(⟨#[111,114]⟩:ByteArray),(⟨#[110,111,116]⟩:ByteArray)],())
def dR.F:=stk dR.B
theorem dR.eq:dR.F=dR.B:=aq _
theorem dR.k:Kk aw.s bf.q [] Tryz.f309 dR.d dR.B:={}
def dR.s:SpL:=dR.d.e [] dR.F::aw.s
theorem dR.c:Ck dR.s bf.q:=cS bf.c dR.k
end
end Go.Proofs.Ytpoffnlnhdbpmaa
