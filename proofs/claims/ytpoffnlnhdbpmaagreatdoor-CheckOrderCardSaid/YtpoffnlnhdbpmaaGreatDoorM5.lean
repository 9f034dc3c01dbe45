import Derived.Test.YtpoffnlnhdbpmaaGreatDoorM4
set_option linter.all false
set_option linter.unusedVariables false
set_option linter.unusedSimpArgs false
set_option linter.unusedSectionVars false
set_option maxRecDepth 100000
namespace Go.Proofs.Ytpoffnlnhdbpmaa
open Go Lv Go.Proofs Go.RowKit Go.Shelf
variable [Lk]
abbrev ax:=Int×(Int×ByteArray)
abbrev bh:Ty:=(.pair (.int .i64) (.pair (.int .i64) .str))
abbrev ao:=Int×(Int×ax)
abbrev bD:Ty:=(.pair (.int .i64) (.pair (.int .i64) bh))
abbrev aC:=ByteArray×(Int×(Bool×(Bool×(ByteArray×Int))))
abbrev aX:Ty:=(.pair .str (.pair (.int .i64) (.pair .bool (.pair .bool (.pair .str (.int .i64))))))
abbrev fR:=ByteArray×((List aC)×(List (List ao)))
abbrev io:Ty:=(.pair .str (.pair (.sl 75 aX) (.sl 78 (.sl 126 bD))))
abbrev cH:=Int×Int
abbrev dW:Ty:=(.pair (.int .i64) (.int .i64))
abbrev Cg:=ByteArray×(ByteArray×(ByteArray×(cH×((List ao)×((List Int)×(Bool×(List cH)))))))
abbrev BF:Ty:=(.pair .str (.pair .str (.pair .str (.pair dW (.pair (.sl 126 bD) (.pair (.sl 3 (.int .i64)) (.pair .bool (.sl 156 dW))))))))
abbrev bx:=Int×(fR×Cg)
abbrev gv:Ty:=(.pair (.int .i64) (.pair io BF))
abbrev aU:=Int×(ByteArray×ax)
abbrev dI:Ty:=(.pair (.int .i64) (.pair .str bh))
abbrev Ar:Ty:=(.pair (.sl 195 dI) (.pair (.int .i64) .bool))
abbrev bj:=(List ax)×Int
abbrev dq:Ty:=(.pair (.sl 47 bh) (.int .i64))
abbrev bC:=ByteArray×(List bj)
abbrev dS:Ty:=(.pair .str (.sl 62 dq))
abbrev wR:=ByteArray×Int
abbrev sJ:Ty:=(.pair .str (.int .i64))
abbrev yu:Ty:=(.pair .val (.sl 5 (.int .u8)))
abbrev Ch:Ty:=(.pair (.pair (.sl 3 (.int .i64)) .bool) (.sl 3 (.int .i64)))
abbrev yw:Ty:=(.pair io (.pair (.sl 62 dq) (.sl 44 dS)))
abbrev uo:Ty:=(.pair (.pair (.sl 47 bh) .bool) (.sl 47 bh))
abbrev sK:=Int×wR
abbrev gT:Ty:=(.pair (.int .i64) sJ)
noncomputable abbrev PP:=Tryz.prog
def tab0:List (Nat×TI):=[
 (3,⟨.int .i64,1,8,17592186044416,[.int .i64 0],some (.int .i64)⟩),
 (4,⟨.bool,1,1,140737488355328,[.bool false],some .bool⟩),
 (5,⟨.int .u8,1,1,140737488355328,[.int .u8 0],some (.int .u8)⟩),
 (9,⟨.str,1,16,8796093022208,[.string ⟨#[]⟩],some .str⟩),
 (20,⟨.ifc,1,16,8796093022208,[.nilIface],some .val⟩),
 (23,⟨.sl 84,1,24,5864062014805,[.slice none 0 0],some (.sl 84 gv)⟩),
 (24,⟨.sl 44,1,24,5864062014805,[.slice none 0 0],some (.sl 44 dS)⟩),
 (28,⟨.int .i64,1,8,17592186044416,[.int .i64 0],some (.int .i64)⟩),
 (30,⟨.st [(28,0),(9,1),(3,2)],3,32,4398046511104,[.int .i64 0,.string ⟨#[]⟩,.int .i64 0],some gT⟩),
 (35,⟨.sl 40,1,24,5864062014805,[.slice none 0 0],some (.sl 40 io)⟩),
 (37,⟨.sl 75,1,24,5864062014805,[.slice none 0 0],some (.sl 75 aX)⟩),
 (38,⟨.sl 78,1,24,5864062014805,[.slice none 0 0],some (.sl 78 (.sl 126 bD))⟩),
 (40,⟨.st [(9,0),(37,1),(38,2)],3,64,2199023255552,[.string ⟨#[]⟩,.slice none 0 0,.slice none 0 0],some io⟩),
 (42,⟨.sl 62,1,24,5864062014805,[.slice none 0 0],some (.sl 62 dq)⟩),
 (44,⟨.st [(9,0),(42,1)],2,40,3518437208883,[.string ⟨#[]⟩,.slice none 0 0],some dS⟩),
 (47,⟨.st [(3,0),(3,1),(9,2)],3,32,4398046511104,[.int .i64 0,.int .i64 0,.string ⟨#[]⟩],some bh⟩),
 (57,⟨.sl 47,1,24,5864062014805,[.slice none 0 0],some (.sl 47 bh)⟩),
 (58,⟨.sl 47,1,24,5864062014805,[.slice none 0 0],some (.sl 47 bh)⟩),
 (62,⟨.st [(58,0),(3,1)],2,32,4398046511104,[.slice none 0 0,.int .i64 0],some dq⟩),
 (71,⟨.sl 58,1,24,5864062014805,[.slice none 0 0],some (.sl 58 (.sl 47 bh))⟩),
 (75,⟨.st [(9,0),(3,1),(4,2),(4,3),(9,4),(3,5)],6,56,2513169434916,[.string ⟨#[]⟩,.int .i64 0,.bool false,.bool false,.string ⟨#[]⟩,.int .i64 0],some aX⟩),
 (76,⟨.arr 2 3,2,16,8796093022208,[.int .i64 0,.int .i64 0],some dW⟩),
 (78,⟨.sl 126,1,24,5864062014805,[.slice none 0 0],some (.sl 126 bD)⟩),
 (79,⟨.sl 3,1,24,5864062014805,[.slice none 0 0],some (.sl 3 (.int .i64))⟩),
 (80,⟨.sl 156,1,24,5864062014805,[.slice none 0 0],some (.sl 156 dW)⟩),
 (82,⟨.st [(9,0),(9,1),(9,2),(76,3),(78,5),(79,6),(4,7),(80,8)],9,144,977343669134,[.string ⟨#[]⟩,.string ⟨#[]⟩,.string ⟨#[]⟩,.int .i64 0,.int .i64 0,.slice none 0 0,.slice none 0 0,.bool false,.slice none 0 0],some BF⟩),
 (84,⟨.st [(3,0),(40,1),(82,4)],13,216,651562446089,[.int .i64 0,.string ⟨#[]⟩,.slice none 0 0,.slice none 0 0,.string ⟨#[]⟩,.string ⟨#[]⟩,.string ⟨#[]⟩,.int .i64 0,.int .i64 0,.slice none 0 0,.slice none 0 0,.bool false,.slice none 0 0],some gv⟩),
 (126,⟨.st [(3,0),(3,1),(47,2)],5,48,2932031007402,[.int .i64 0,.int .i64 0,.int .i64 0,.int .i64 0,.string ⟨#[]⟩],some bD⟩),
 (128,⟨.st [(40,0),(42,3),(24,4)],5,112,1256584717458,[.string ⟨#[]⟩,.slice none 0 0,.slice none 0 0,.slice none 0 0,.slice none 0 0],some yw⟩),
 (129,⟨.other,1,8,17592186044416,[.nilFunc],some .val⟩),
 (130,⟨.st [(129,0),(28,1)],2,16,8796093022208,[.nilFunc,.int .i64 0],some (.pair .val (.int .i64))⟩),
 (131,⟨.sl 130,1,24,5864062014805,[.slice none 0 0],some (.sl 130 (.pair .val (.int .i64)))⟩),
 (140,⟨.other,1,8,17592186044416,[.nilFunc],some .val⟩),
 (156,⟨.st [(3,0),(3,1)],2,16,8796093022208,[.int .i64 0,.int .i64 0],some dW⟩),
 (157,⟨.sl 9,1,24,5864062014805,[.slice none 0 0],some (.sl 9 .str)⟩),
 (158,⟨.sl 195,1,24,5864062014805,[.slice none 0 0],some (.sl 195 dI)⟩),
 (163,⟨.st [(158,0),(3,1),(4,2)],3,40,3518437208883,[.slice none 0 0,.int .i64 0,.bool false],some Ar⟩),
 (171,⟨.map 47 4,1,8,17592186044416,[.map none],some .val⟩),
 (179,⟨.sl 4,1,24,5864062014805,[.slice none 0 0],some (.sl 4 .bool)⟩),
 (185,⟨.int .u64,1,8,17592186044416,[.int .u64 0],some (.int .u64)⟩),
 (195,⟨.st [(3,0),(9,1),(47,2)],5,56,2513169434916,[.int .i64 0,.string ⟨#[]⟩,.int .i64 0,.int .i64 0,.string ⟨#[]⟩],some dI⟩),
 (210,⟨.st [(57,0),(4,1)],2,32,4398046511104,[.slice none 0 0,.bool false],some (.pair (.sl 47 bh) .bool)⟩),
 (212,⟨.st [(210,0),(58,2)],3,56,2513169434916,[.slice none 0 0,.bool false,.slice none 0 0],some uo⟩),
 (222,⟨.int .u64,1,8,17592186044416,[.int .u64 0],some (.int .u64)⟩),
 (241,⟨.ptr,1,8,17592186044416,[.pointer none],some .val⟩),
 (243,⟨.st [(157,0)],1,24,5864062014805,[.slice none 0 0],some (.sl 9 .str)⟩),
 (261,⟨.sl 5,1,24,5864062014805,[.slice none 0 0],some (.sl 5 (.int .u8))⟩),
 (263,⟨.st [(260,0),(261,1)],2,32,4398046511104,[.pointer none,.slice none 0 0],some yu⟩),
 (265,⟨.ifc,1,16,8796093022208,[.nilIface],some .val⟩),
 (269,⟨.st [(28,0)],1,8,17592186044416,[.int .i64 0],some (.int .i64)⟩),
 (270,⟨.ptr,1,8,17592186044416,[.pointer none],some .val⟩),
 (272,⟨.st [(158,0)],1,24,5864062014805,[.slice none 0 0],some (.sl 195 dI)⟩),
 (282,⟨.st [(79,0),(4,1)],2,32,4398046511104,[.slice none 0 0,.bool false],some (.pair (.sl 3 (.int .i64)) .bool)⟩),
 (284,⟨.st [(282,0),(79,2)],3,56,2513169434916,[.slice none 0 0,.bool false,.slice none 0 0],some Ch⟩),
 (296,⟨.st [(9,0),(3,1)],2,24,5864062014805,[.string ⟨#[]⟩,.int .i64 0],some sJ⟩),
 (298,⟨.int .i64,1,8,17592186044416,[.int .i64 0],some (.int .i64)⟩),
 (303,⟨.int .u32,1,4,35184372088832,[.int .u32 0],some (.int .u32)⟩),
 (309,⟨.map 9 47,1,8,17592186044416,[.map none],some .val⟩),
 (317,⟨.sl 298,1,24,5864062014805,[.slice none 0 0],some (.sl 298 (.int .i64))⟩),
 (331,⟨.map 9 3,1,8,17592186044416,[.map none],some .val⟩)]
def eqs0:List (Nat×Ty):=[(30,gT),(47,bh),(75,aX),(76,dW),(126,bD),(156,dW)]
theorem yx:gq PP (rq tab0):=rL (by kernel_rfl)
theorem Cj:qz PP (wC eqs0):=Ae yx (by kernel_rfl)
theorem mixed:PP.follows .mixedOrders=true:=by kernel_rfl
noncomputable abbrev cx (s:SpL) (q:SqL):Cx:=⟨rq tab0,wC eqs0,ka s,269,jz q⟩
abbrev Ck (s:SpL) (q:SqL):Prop:=gK PP (cx s q)
abbrev Kk (s:SpL) (q:SqL) (l:InT) (f:Func) (d:Fe) (B:TS d.si→Option (TS d.so)):=Fk PP (cx s q) l f d B
abbrev Kp (s:SpL) (q:SqL) (l:InT) (f:Func) (d:Fe) (B:TS d.si→Option (TS d.so⊕Int)):=FkP PP (cx s q) l f d B
theorem zero:Ck [] []:=gK.nilP yx Cj
theorem cS {s:SpL} {q:SqL} (c:Ck s q) {l:InT} {f:Func} {d:Fe} {B:TS d.si→Option (TS d.so)} {key:List (Nat×AK)} (k:Kk s q l f d B):Ck (d.e key (stk B)::s) q:=gK.consS c key (nK k.fn k.fb).enters (k.ok c mixed)
theorem cP {s:SpL} {q:SqL} (c:Ck s q) {l:InT} {f:Func} {d:Fe} {B:TS d.si→Option (TS d.so⊕Int)} {key:List (Nat×AK)} (k:Kp s q l f d B):Ck s (d.p key (stk B)::q):=gK.consP c key (nK k.fn k.fb).enters (k.ok c mixed)
theorem cPa {s:SpL} {q:SqL} (c:Ck s q) {l:InT} {f:Func} {d:Fe} {b:AgF→TS d.si→Option (TS d.so⊕Int)} {key:List (Nat×AK)} (k:Kp s q l f d (b agT)) (h:b agT=b agI):Ck s (d.p key (stk (b agI))::q):=by
 rw [h] at k
 exact cP c k
def gz.d:Fe:=⟨71,1,⟨[(0,.v false [.sl 126 bD])],[],[],0,[]⟩,⟨[(0,.v false [.bool])],[],[],1000,[]⟩,(.s none .n (.s (some ⟨[],[],[0],0,[]⟩) (.s none .n (.b (.l ⟨[(3,.v false [.int .i64])],[],[0],0,[]⟩ .n))) .n))⟩
noncomputable def gz.B:(List ao)×Unit→Option (Bool×Unit):=fun (p0,_)=>
 jn (S:=Unit) (
 aK (S:=Int×Unit) (fun (x3,_)=>
 (bif (decide (x3<(p0.length:Int))) then
 ck (ib x3 p0.length)<|
 let e1:ao:=(gt p0 x3 bD.z)
 (bif (decide ((e1.2.2.2.2.size:Int)>(1000:Int))) then
 ir (.inr (true,()))
 else
 let e2:Int:=(wr (x3+(1:Int)))
 il (e2,()))
 else
 ir (.inl (())))) ((0:Int),())) fun (_)=>
 some ((decide ((p0.length:Int)>(120:Int))),())
noncomputable def gz.F:=stk gz.B
theorem gz.eq:gz.F=gz.B:=aq _
theorem gz.k:Kk [] [] [] Tryz.f71 gz.d gz.B:={}
noncomputable def gz.s:SpL:=gz.d.e [] gz.F::[]
theorem gz.c:Ck gz.s []:=cS zero gz.k
def gF.d:Fe:=⟨38,1,⟨[(0,.v true [.int .i64,.str,.sl 75 aX,.sl 78 (.sl 126 bD),.str,.str,.str,.int .i64,.int .i64,.sl 126 bD,.sl 3 (.int .i64),.bool,.sl 156 dW])],[],[],0,[]⟩,⟨[(0,.v false [.bool])],[],[],1000,[]⟩,(.s none .n (.s none .n (.s (some ⟨[(3,.v false [.int .i64])],[],[1],0,[]⟩) (.s none .n (.b (.l ⟨[(3,.v false [.int .i64]),(4,.v false [.int .i64])],[],[1],0,[]⟩ .n))) (.s (some ⟨[],[],[1,3],0,[]⟩) (.s none .n (.b (.l ⟨[(5,.v false [.int .i64])],[],[1,3],0,[]⟩ .n))) .n))))⟩
noncomputable def gF.B:Int×ByteArray×(List aC)×(List (List ao))×ByteArray×ByteArray×ByteArray×Int×Int×(List ao)×(List Int)×Bool×(List cH)×Unit→Option (Bool×Unit):=fun (p0_0,p0_1,p0_2,p0_3,p0_4,p0_5,p0_6,p0_7,p0_8,p0_9,p0_10,p0_11,p0_12,_)=>
 let e1:Int:=(wr ((p0_2.length:Int)+(p0_3.length:Int)))
 let e2:Int:=(wr (e1+(p0_10.length:Int)))
 let e3:Int:=(wr (e2+(p0_12.length:Int)))
 let e4:Int:=(wr (e3+(p0_9.length:Int)))
 jn (S:=Int×Unit) (
 aK (S:=Int×Int×Unit) (fun (x3,x4,_)=>
 (bif (decide (x4<(p0_3.length:Int))) then
 ck (ib x4 p0_3.length)<|
 let e5:(List ao):=(gt p0_3 x4 [])
 let e6:Int:=(wr (x3+(e5.length:Int)))
 ck (ib x4 p0_3.length)<|
 let e7:(List ao):=(gt p0_3 x4 [])
 (gz.F (e7,())).bind fun y8=>
 (bif y8.1 then
 ir (.inr (true,()))
 else
 let e9:Int:=(wr (x4+(1:Int)))
 il (e6,e9,()))
 else
 ir (.inl (x3,())))) (e4,(0:Int),())) fun (x3_10,_)=>
 jn (S:=Unit) (
 aK (S:=Int×Unit) (fun (x5,_)=>
 (bif (decide (x5<(p0_2.length:Int))) then
 ck (ib x5 p0_2.length)<|
 let e11:aC:=(gt p0_2 x5 aX.z)
 (bif (decide ((e11.1.size:Int)>(100:Int))) then
 ir (.inr (true,()))
 else
 ck (ib x5 p0_2.length)<|
 let e12:aC:=(gt p0_2 x5 aX.z)
 (bif (decide ((e12.2.2.2.2.1.size:Int)>(100:Int))) then
 ir (.inr (true,()))
 else
 let e13:Int:=(wr (x5+(1:Int)))
 il (e13,())))
 else
 ir (.inl (())))) ((0:Int),())) fun (_)=>
 (bif (decide (x3_10>(400:Int))) then
 some (true,())
 else
 (gz.F (p0_9,())).bind fun y15=>
 (bif y15.1 then
 some (true,())
 else
 (bif (decide ((p0_1.size:Int)>(100:Int))) then
 some (true,())
 else
 (bif (decide ((p0_4.size:Int)>(100:Int))) then
 some (true,())
 else
 (bif (decide ((p0_5.size:Int)>(100:Int))) then
 some (true,())
 else
 some ((decide ((p0_6.size:Int)>(100:Int))),()))))))
noncomputable def gF.F:=stk gF.B
theorem gF.eq:gF.F=gF.B:=aq _
theorem gF.k:Kk gz.s [] [] Tryz.f38 gF.d gF.B:={}
noncomputable def gF.s:SpL:=gF.d.e [] gF.F::gz.s
theorem gF.c:Ck gF.s []:=cS gz.c gF.k
def dJ.d:Fe:=⟨130,1,⟨[(0,.v false [.int .u64])],[],[],0,[]⟩,⟨[(0,.v false [.str])],[],[],1000,[]⟩,(.s none .n (.s none .n (.s (some ⟨[(0,.v false [.int .u64]),(3,.v false [.str])],[],[],0,[]⟩) (.b (.l ⟨[(0,.v false [.int .u64]),(3,.v false [.str])],[],[],0,[]⟩ .n)) .n)))⟩
noncomputable def dJ.B:Int×Unit→Option (ByteArray×Unit):=fun (p0,_)=>
 jn (S:=Int×ByteArray×Unit) (
 aK (S:=Int×ByteArray×Unit) (fun (x0,x3,_)=>
 (bif (decide (x0>(9:Int))) then
 ck (!decide ((10:Int)=0))<|
 let e1:Int:=(Int.tmod x0 (10:Int))
 ck (!decide ((10:Int)=0))<|
 let e2:Int:=(Int.tmod x0 (10:Int))
 let e3:Int:=(IntKind.u64.wrap (e2+(1:Int)))
 ck (sb e1 e3 (⟨#[48,49,50,51,52,53,54,55,56,57]⟩:ByteArray).size)<|
 let e4:ByteArray:=((⟨#[48,49,50,51,52,53,54,55,56,57]⟩:ByteArray).extract (Int.toNat e1) (Int.toNat e3))
 ck (ca e4 x3)<|
 let e5:ByteArray:=(e4++x3)
 ck (!decide ((10:Int)=0))<|
 let e6:Int:=(IntKind.u64.wrap (Int.tdiv x0 (10:Int)))
 il (e6,e5,())
 else
 ir (.inl (x0,x3,())))) (p0,(⟨#[]⟩:ByteArray),())) fun (x0_7,x3_7,_)=>
 let e8:Int:=(IntKind.u64.wrap (x0_7+(1:Int)))
 ck (sb x0_7 e8 (⟨#[48,49,50,51,52,53,54,55,56,57]⟩:ByteArray).size)<|
 let e9:ByteArray:=((⟨#[48,49,50,51,52,53,54,55,56,57]⟩:ByteArray).extract (Int.toNat x0_7) (Int.toNat e8))
 ck (ca e9 x3_7)<|
 let e10:ByteArray:=(e9++x3_7)
 some (e10,())
noncomputable def dJ.F:=stk dJ.B
theorem dJ.eq:dJ.F=dJ.B:=aq _
theorem dJ.k:Kk gF.s [] [] Tryz.f130 dJ.d dJ.B:={}
noncomputable def dJ.s:SpL:=dJ.d.e [] dJ.F::gF.s
theorem dJ.c:Ck dJ.s []:=cS gF.c dJ.k
def cX.d:Fe:=⟨91,1,⟨[(0,.v false [.int .i64])],[],[],0,[]⟩,⟨[(0,.v false [.str])],[],[],1000,[]⟩,.n⟩
noncomputable def cX.B:Int×Unit→Option (ByteArray×Unit):=fun (p0,_)=>
 (bif (decide (p0<(0:Int))) then
 let e1:Int:=(wr (p0+(1:Int)))
 let e2:Int:=(IntKind.u64.wrap ((IntKind.u64.wrap ((wr (0-e1))))+(1:Int)))
 (dJ.F (e2,())).bind fun y3=>
 ck (ca (⟨#[45]⟩:ByteArray) y3.1)<|
 let e4:ByteArray:=((⟨#[45]⟩:ByteArray)++y3.1)
 some (e4,())
 else
 (dJ.F ((IntKind.u64.wrap (p0)),())).bind fun y5=>
 some (y5.1,()))
noncomputable def cX.F:=stk cX.B
theorem cX.eq:cX.F=cX.B:=aq _
theorem cX.k:Kk dJ.s [] [] Tryz.f91 cX.d cX.B:={}
noncomputable def cX.s:SpL:=cX.d.e [] cX.F::dJ.s
theorem cX.c:Ck cX.s []:=cS dJ.c cX.k
def dT.d:Fe:=⟨121,1,⟨[(0,.v true [.int .i64,.int .i64,.str])],[],[],0,[]⟩,⟨[(0,.v false [.bool])],[],[],1000,[]⟩,(.s none .n (.s none (.s (some ⟨[(10,.v false [.bool])],[],[1],0,[]⟩) .n .n) .n))⟩
noncomputable def dT.B:Int×Int×ByteArray×Unit→Option (Bool×Unit):=fun (p0_0,p0_1,p0_2,_)=>
 jn (S:=Bool×Unit) (
 (bif (p0_0==(0:Int)) then
 il (true,())
 else
 il ((p0_0==(1:Int)),()))) fun (x10_1,_)=>
 (bif x10_1 then
 (bif (sq p0_2 (⟨#[]⟩:ByteArray)) then
 (bif (decide (p0_1≥(0:Int))) then
 some ((decide (p0_1≤p0_0)),())
 else
 some (false,()))
 else
 some (false,()))
 else
 (bif (p0_0==(2:Int)) then
 some ((sq p0_2 (⟨#[]⟩:ByteArray)),())
 else
 (bif (p0_0==(3:Int)) then
 (bif (p0_1==(0:Int)) then
 some ((decide ((p0_2.size:Int)≤(1000:Int))),())
 else
 some (false,()))
 else
 some (false,()))))
noncomputable def dT.F:=stk dT.B
theorem dT.eq:dT.F=dT.B:=aq _
theorem dT.k:Kk cX.s [] [] Tryz.f121 dT.d dT.B:={}
noncomputable def dT.s:SpL:=dT.d.e [] dT.F::cX.s
theorem dT.c:Ck dT.s []:=cS cX.c dT.k
def eA.d:Fe:=⟨129,1,⟨[(0,.v true [.int .i64,.int .i64,.str])],[],[],0,[]⟩,⟨[(0,.v false [.str])],[],[],1000,[]⟩,(.s none .n (.s none (.s none .n (.b (.s none .n (.c .n (.s none .n (.c .n (.s none .n (.c .n (.s none .n (.c (.s none .n (.s (some ⟨[(3,.v false [.str])],[],[],0,[]⟩) (.s none .n (.b (.l ⟨[(3,.v false [.str]),(4,.v false [.int .i64])],[],[1],0,[]⟩ .n))) .n)) .n)))))))))) .n))⟩
noncomputable def eA.B:Int×Int×ByteArray×Unit→Option (ByteArray×Unit):=fun (p0_0,p0_1,p0_2,_)=>
 (bif (p0_0==(0:Int)) then
 some ((⟨#[110,117,108,108]⟩:ByteArray),())
 else
 (bif (p0_0==(1:Int)) then
 (bif (p0_1==(0:Int)) then
 some ((⟨#[102,97,108,115,101]⟩:ByteArray),())
 else
 some ((⟨#[116,114,117,101]⟩:ByteArray),()))
 else
 (bif (p0_0==(2:Int)) then
 (cX.F (p0_1,())).bind fun y1=>
 some (y1.1,())
 else
 (bif (p0_0==(3:Int)) then
 jn (S:=ByteArray×Unit) (
 aK (S:=ByteArray×Int×Unit) (fun (x3,x4,_)=>
 (bif (decide (x4<(p0_2.size:Int))) then
 ck (ib x4 p0_2.size)<|
 let e2:Int:=(bu p0_2 (Int.toNat x4))
 (bif (e2==(39:Int)) then
 ck (ca x3 (⟨#[39]⟩:ByteArray))<|
 let e3:ByteArray:=(x3++(⟨#[39]⟩:ByteArray))
 let e4:Int:=(wr (x4+(1:Int)))
 ck (sb x4 e4 p0_2.size)<|
 let e5:ByteArray:=(p0_2.extract (Int.toNat x4) (Int.toNat e4))
 ck (ca e3 e5)<|
 let e6:ByteArray:=(e3++e5)
 let e7:Int:=(wr (x4+(1:Int)))
 il (e6,e7,())
 else
 let e8:Int:=(wr (x4+(1:Int)))
 ck (sb x4 e8 p0_2.size)<|
 let e9:ByteArray:=(p0_2.extract (Int.toNat x4) (Int.toNat e8))
 ck (ca x3 e9)<|
 let e10:ByteArray:=(x3++e9)
 let e11:Int:=(wr (x4+(1:Int)))
 il (e10,e11,()))
 else
 ir (.inl (x3,())))) ((⟨#[39]⟩:ByteArray),(0:Int),())) fun (x3_12,_)=>
 ck (ca x3_12 (⟨#[39]⟩:ByteArray))<|
 let e13:ByteArray:=(x3_12++(⟨#[39]⟩:ByteArray))
 some (e13,())
 else
 some ((⟨#[63]⟩:ByteArray),())))))
noncomputable def eA.F:=stk eA.B
theorem eA.eq:eA.F=eA.B:=aq _
theorem eA.k:Kk dT.s [] [] Tryz.f129 eA.d eA.B:={}
noncomputable def eA.s:SpL:=eA.d.e [] eA.F::dT.s
theorem eA.c:Ck eA.s []:=cS dT.c eA.k
def fd.d:Fe:=⟨188,1,⟨[(0,.v false [.sl 126 bD])],[],[],0,[]⟩,⟨[(0,.v false [.str])],[],[],1000,[]⟩,(.s none .n (.s none .n (.s none .n (.s none (.s none .n (.b (.l ⟨[(4,.v false [.str]),(5,.v false [.int .i64])],[],[0,3],0,[]⟩ (.s none .n (.s none (.b (.s (some ⟨[(4,.v false [.str])],[],[0,3,5],0,[]⟩) .n .n)) .n))))) .n))))⟩
noncomputable def fd.B:(List ao)×Unit→Option (ByteArray×Unit):=fun (p0,_)=>
 aK (S:=ByteArray×Int×Unit) (fun (x4,x5,_)=>
 (bif (decide (x5<(p0.length:Int))) then
 jn (S:=ByteArray×Unit) (
 (bif (decide (x5>(0:Int))) then
 ck (ca x4 (⟨#[32]⟩:ByteArray))<|
 let e1:ByteArray:=(x4++(⟨#[32]⟩:ByteArray))
 il (e1,())
 else
 il (x4,()))) fun (x4_2,_)=>
 ck (ib x5 p0.length)<|
 let e3:ao:=(gt p0 x5 bD.z)
 (bif (e3.1==(0:Int)) then
 (cX.F (e3.2.1,())).bind fun y4=>
 ck (ca (⟨#[99]⟩:ByteArray) y4.1)<|
 let e5:ByteArray:=((⟨#[99]⟩:ByteArray)++y4.1)
 ck (ca x4_2 e5)<|
 let e6:ByteArray:=(x4_2++e5)
 let e7:Int:=(wr (x5+(1:Int)))
 il (e6,e7,())
 else
 (bif (e3.1==(1:Int)) then
 (eA.F (e3.2.2.1,e3.2.2.2.1,e3.2.2.2.2,())).bind fun y8=>
 ck (ca x4_2 y8.1)<|
 let e9:ByteArray:=(x4_2++y8.1)
 let e10:Int:=(wr (x5+(1:Int)))
 il (e9,e10,())
 else
 (bif (decide (e3.1<(0:Int))) then
 ck (ca x4_2 (⟨#[63]⟩:ByteArray))<|
 let e11:ByteArray:=(x4_2++(⟨#[63]⟩:ByteArray))
 let e12:Int:=(wr (x5+(1:Int)))
 il (e11,e12,())
 else
 (bif (decide (e3.1>(10:Int))) then
 ck (ca x4_2 (⟨#[63]⟩:ByteArray))<|
 let e13:ByteArray:=(x4_2++(⟨#[63]⟩:ByteArray))
 let e14:Int:=(wr (x5+(1:Int)))
 il (e13,e14,())
 else
 ck (ib e3.1 [(⟨#[]⟩:ByteArray),(⟨#[]⟩:ByteArray),(⟨#[43]⟩:ByteArray),(⟨#[45]⟩:ByteArray),(⟨#[42]⟩:ByteArray),(⟨#[61]⟩:ByteArray),(⟨#[60]⟩:ByteArray),(⟨#[97,110,100]⟩:ByteArray),(⟨#[111,114]⟩:ByteArray),(⟨#[110,111,116]⟩:ByteArray),(⟨#[110,117,108,108,63]⟩:ByteArray)].length)<|
 let e15:ByteArray:=(List.getD [(⟨#[]⟩:ByteArray),(⟨#[]⟩:ByteArray),(⟨#[43]⟩:ByteArray),(⟨#[45]⟩:ByteArray),(⟨#[42]⟩:ByteArray),(⟨#[61]⟩:ByteArray),(⟨#[60]⟩:ByteArray),(⟨#[97,110,100]⟩:ByteArray),(⟨#[111,114]⟩:ByteArray),(⟨#[110,111,116]⟩:ByteArray),(⟨#[110,117,108,108,63]⟩:ByteArray)] (Int.toNat e3.1) (⟨#[]⟩:ByteArray))
 ck (ca x4_2 e15)<|
 let e16:ByteArray:=(x4_2++e15)
 let e17:Int:=(wr (x5+(1:Int)))
 il (e16,e17,())))))
 else
 ir (x4,()))) ((⟨#[]⟩:ByteArray),(0:Int),())
noncomputable def fd.F:=stk fd.B
theorem fd.eq:fd.F=fd.B:=aq _
theorem fd.k:Kk eA.s [] [] Tryz.f188 fd.d fd.B:={}
noncomputable def fd.s:SpL:=fd.d.e [] fd.F::eA.s
theorem fd.c:Ck fd.s []:=cS eA.c fd.k
def de.d:Fe:=⟨142,1,⟨[(0,.v true [.int .i64,.int .i64,.int .i64,.int .i64,.str])],[],[],0,[]⟩,⟨[(0,.v false [.str])],[],[],1000,[]⟩,.n⟩
noncomputable def de.B:Int×Int×Int×Int×ByteArray×Unit→Option (ByteArray×Unit):=fun (p0_0,p0_1,p0_2,p0_3,p0_4,_)=>
 (bif (p0_0==(10:Int)) then
 some ((⟨#[110,117,108,108,32,63]⟩:ByteArray),())
 else
 (bif (p0_0==(1:Int)) then
 (bif (decide (p0_2<(2:Int))) then
 (dT.F (p0_2,p0_3,p0_4,())).bind fun y1=>
 (bif (!y1.1) then
 some ((⟨#[33]⟩:ByteArray),())
 else
 (fd.F ([(p0_0,(p0_1,(p0_2,(p0_3,p0_4))))],())).bind fun y2=>
 some (y2.1,()))
 else
 (fd.F ([(p0_0,(p0_1,(p0_2,(p0_3,p0_4))))],())).bind fun y3=>
 some (y3.1,()))
 else
 (fd.F ([(p0_0,(p0_1,(p0_2,(p0_3,p0_4))))],())).bind fun y4=>
 some (y4.1,())))
noncomputable def de.F:=stk de.B
theorem de.eq:de.F=de.B:=aq _
theorem de.k:Kk fd.s [] [] Tryz.f142 de.d de.B:={}
noncomputable def de.s:SpL:=de.d.e [] de.F::fd.s
theorem de.c:Ck de.s []:=cS fd.c de.k
def cY.d:Fe:=⟨107,1,⟨[(0,.v false [.sl 126 bD])],[],[],0,[]⟩,⟨[(0,.v false [.str])],[],[],1000,[]⟩,(.s none .n (.s none .n (.s (some ⟨[(3,.v false [.str])],[],[],0,[]⟩) (.s none .n (.b (.l ⟨[(3,.v false [.str]),(4,.v false [.int .i64])],[],[0],0,[]⟩ .n))) .n)))⟩
noncomputable def cY.B:(List ao)×Unit→Option (ByteArray×Unit):=fun (p0,_)=>
 jn (S:=ByteArray×Unit) (
 aK (S:=ByteArray×Int×Unit) (fun (x3,x4,_)=>
 (bif (decide (x4<(p0.length:Int))) then
 ck (ib x4 p0.length)<|
 let e1:ao:=(gt p0 x4 bD.z)
 (de.F (e1.1,e1.2.1,e1.2.2.1,e1.2.2.2.1,e1.2.2.2.2,())).bind fun y2=>
 ck (ca (⟨#[32]⟩:ByteArray) y2.1)<|
 let e3:ByteArray:=((⟨#[32]⟩:ByteArray)++y2.1)
 ck (ca x3 e3)<|
 let e4:ByteArray:=(x3++e3)
 let e5:Int:=(wr (x4+(1:Int)))
 il (e4,e5,())
 else
 ir (.inl (x3,())))) ((⟨#[32,91]⟩:ByteArray),(0:Int),())) fun (x3_6,_)=>
 ck (ca x3_6 (⟨#[32,93]⟩:ByteArray))<|
 let e7:ByteArray:=(x3_6++(⟨#[32,93]⟩:ByteArray))
 some (e7,())
noncomputable def cY.F:=stk cY.B
theorem cY.eq:cY.F=cY.B:=aq _
theorem cY.k:Kk de.s [] [] Tryz.f107 cY.d cY.B:={}
noncomputable def cY.s:SpL:=cY.d.e [] cY.F::de.s
theorem cY.c:Ck cY.s []:=cS de.c cY.k
def fe.d:Fe:=⟨108,2,⟨[(0,.v false [.int .i64]),(1,.v false [.sl 9 .str])],[],[],0,[]⟩,⟨[(0,.v false [.str])],[],[],1000,[]⟩,.n⟩
noncomputable def fe.B:Int×(List ByteArray)×Unit→Option (ByteArray×Unit):=fun (p0,p1,_)=>
 (bif (decide (p0<(0:Int))) then
 some ((⟨#[33]⟩:ByteArray),())
 else
 (bif (decide (p0≥(p1.length:Int))) then
 some ((⟨#[33]⟩:ByteArray),())
 else
 ck (ib p0 p1.length)<|
 let e1:ByteArray:=(gt p1 p0 (⟨#[]⟩:ByteArray))
 some (e1,())))
noncomputable def fe.F:=stk fe.B
theorem fe.eq:fe.F=fe.B:=aq _
theorem fe.k:Kk cY.s [] [] Tryz.f108 fe.d fe.B:={}
noncomputable def fe.s:SpL:=fe.d.e [] fe.F::cY.s
theorem fe.c:Ck fe.s []:=cS cY.c fe.k
def dg.d:Fe:=⟨72,1,⟨[(0,.v true [.str,.str,.str,.int .i64,.int .i64,.sl 126 bD,.sl 3 (.int .i64),.bool,.sl 156 dW])],[],[],0,[]⟩,⟨[(0,.v false [.str])],[],[],1000,[]⟩,(.s none .n (.s none .n (.s (some ⟨[(3,.v false [.str])],[],[1],0,[]⟩) .n (.s (some ⟨[(3,.v false [.str])],[],[1],0,[]⟩) .n (.s none .n (.s (some ⟨[(3,.v false [.str])],[],[1],0,[]⟩) (.s none .n (.b (.l ⟨[(3,.v false [.str]),(4,.v false [.int .i64])],[],[1],0,[]⟩ .n))) (.s (some ⟨[(3,.v false [.str])],[],[1],0,[]⟩) .n (.s none (.s none .n (.b (.l ⟨[(3,.v false [.str]),(5,.v false [.int .i64])],[],[1],0,[]⟩ (.s none .n (.s none (.b (.s (some ⟨[(3,.v false [.str])],[],[1,5],0,[]⟩) .n .n)) .n))))) .n))))))))⟩
noncomputable def dg.B:ByteArray×ByteArray×ByteArray×Int×Int×(List ao)×(List Int)×Bool×(List cH)×Unit→Option (ByteArray×Unit):=fun (p0_0,p0_1,p0_2,p0_3,p0_4,p0_5,p0_6,p0_7,p0_8,_)=>
 ck (ca (⟨#[118,105,101,119,32]⟩:ByteArray) p0_0)<|
 let e1:ByteArray:=((⟨#[118,105,101,119,32]⟩:ByteArray)++p0_0)
 ck (ca e1 (⟨#[32,102,114,111,109,32]⟩:ByteArray))<|
 let e2:ByteArray:=(e1++(⟨#[32,102,114,111,109,32]⟩:ByteArray))
 ck (ca e2 p0_1)<|
 let e3:ByteArray:=(e2++p0_1)
 jn (S:=ByteArray×Unit) (
 (bif (!sq p0_2 (⟨#[]⟩:ByteArray)) then
 ck (ca (⟨#[32,106,111,105,110,32]⟩:ByteArray) p0_2)<|
 let e4:ByteArray:=((⟨#[32,106,111,105,110,32]⟩:ByteArray)++p0_2)
 ck (ca e4 (⟨#[32,111,110,32]⟩:ByteArray))<|
 let e5:ByteArray:=(e4++(⟨#[32,111,110,32]⟩:ByteArray))
 ck (ib (0:Int) 2)<|
 (cX.F (p0_3,())).bind fun y6=>
 ck (ca e5 y6.1)<|
 let e7:ByteArray:=(e5++y6.1)
 ck (ca e7 (⟨#[32,61,32]⟩:ByteArray))<|
 let e8:ByteArray:=(e7++(⟨#[32,61,32]⟩:ByteArray))
 ck (ib (1:Int) 2)<|
 (cX.F (p0_4,())).bind fun y9=>
 ck (ca e8 y9.1)<|
 let e10:ByteArray:=(e8++y9.1)
 ck (ca e3 e10)<|
 let e11:ByteArray:=(e3++e10)
 il (e11,())
 else
 il (e3,()))) fun (x3_12,_)=>
 jn (S:=ByteArray×Unit) (
 (bif (decide ((p0_5.length:Int)>(0:Int))) then
 (cY.F (p0_5,())).bind fun y13=>
 ck (ca (⟨#[32,119,104,101,114,101]⟩:ByteArray) y13.1)<|
 let e14:ByteArray:=((⟨#[32,119,104,101,114,101]⟩:ByteArray)++y13.1)
 ck (ca x3_12 e14)<|
 let e15:ByteArray:=(x3_12++e14)
 il (e15,())
 else
 il (x3_12,()))) fun (x3_16,_)=>
 ck (ca x3_16 (⟨#[32,112,105,99,107]⟩:ByteArray))<|
 let e17:ByteArray:=(x3_16++(⟨#[32,112,105,99,107]⟩:ByteArray))
 jn (S:=ByteArray×Unit) (
 aK (S:=ByteArray×Int×Unit) (fun (x3,x4,_)=>
 (bif (decide (x4<(p0_6.length:Int))) then
 (bif (decide (x4>(0:Int))) then
 ck (ca x3 (⟨#[32,44]⟩:ByteArray))<|
 let e18:ByteArray:=(x3++(⟨#[32,44]⟩:ByteArray))
 ck (ib x4 p0_6.length)<|
 let e19:Int:=(gt p0_6 x4 (0:Int))
 (cX.F (e19,())).bind fun y20=>
 ck (ca (⟨#[32]⟩:ByteArray) y20.1)<|
 let e21:ByteArray:=((⟨#[32]⟩:ByteArray)++y20.1)
 ck (ca e18 e21)<|
 let e22:ByteArray:=(e18++e21)
 let e23:Int:=(wr (x4+(1:Int)))
 il (e22,e23,())
 else
 ck (ib x4 p0_6.length)<|
 let e24:Int:=(gt p0_6 x4 (0:Int))
 (cX.F (e24,())).bind fun y25=>
 ck (ca (⟨#[32]⟩:ByteArray) y25.1)<|
 let e26:ByteArray:=((⟨#[32]⟩:ByteArray)++y25.1)
 ck (ca x3 e26)<|
 let e27:ByteArray:=(x3++e26)
 let e28:Int:=(wr (x4+(1:Int)))
 il (e27,e28,()))
 else
 ir (.inl (x3,())))) (e17,(0:Int),())) fun (x3_29,_)=>
 jn (S:=ByteArray×Unit) (
 (bif p0_7 then
 ck (ca x3_29 (⟨#[32,103,114,111,117,112]⟩:ByteArray))<|
 let e30:ByteArray:=(x3_29++(⟨#[32,103,114,111,117,112]⟩:ByteArray))
 il (e30,())
 else
 il (x3_29,()))) fun (x3_31,_)=>
 aK (S:=ByteArray×Int×Unit) (fun (x3,x5,_)=>
 (bif (decide (x5<(p0_8.length:Int))) then
 jn (S:=ByteArray×Unit) (
 (bif (decide (x5>(0:Int))) then
 ck (ca x3 (⟨#[32,44]⟩:ByteArray))<|
 let e32:ByteArray:=(x3++(⟨#[32,44]⟩:ByteArray))
 il (e32,())
 else
 il (x3,()))) fun (x3_33,_)=>
 ck (ib x5 p0_8.length)<|
 let e34:cH:=(gt p0_8 x5 dW.z)
 (fe.F (e34.1,[(⟨#[99,111,117,110,116]⟩:ByteArray),(⟨#[115,117,109]⟩:ByteArray),(⟨#[109,105,110]⟩:ByteArray),(⟨#[109,97,120]⟩:ByteArray)],())).bind fun y35=>
 ck (ca (⟨#[32]⟩:ByteArray) y35.1)<|
 let e36:ByteArray:=((⟨#[32]⟩:ByteArray)++y35.1)
 ck (ca x3_33 e36)<|
 let e37:ByteArray:=(x3_33++e36)
 ck (ib x5 p0_8.length)<|
 let e38:cH:=(gt p0_8 x5 dW.z)
 (bif (e38.1 !=(0:Int)) then
 ck (ib x5 p0_8.length)<|
 let e39:cH:=(gt p0_8 x5 dW.z)
 (cX.F (e39.2,())).bind fun y40=>
 ck (ca (⟨#[32]⟩:ByteArray) y40.1)<|
 let e41:ByteArray:=((⟨#[32]⟩:ByteArray)++y40.1)
 ck (ca e37 e41)<|
 let e42:ByteArray:=(e37++e41)
 let e43:Int:=(wr (x5+(1:Int)))
 il (e42,e43,())
 else
 let e44:Int:=(wr (x5+(1:Int)))
 il (e37,e44,()))
 else
 ir (x3,()))) (x3_31,(0:Int),())
noncomputable def dg.F:=stk dg.B
theorem dg.eq:dg.F=dg.B:=aq _
theorem dg.k:Kk fe.s [] [] Tryz.f72 dg.d dg.B:={}
noncomputable def dg.s:SpL:=dg.d.e [] dg.F::fe.s
theorem dg.c:Ck dg.s []:=cS fe.c dg.k
def cJ.d:Fe:=⟨73,1,⟨[(0,.v true [.str,.sl 75 aX,.sl 78 (.sl 126 bD)])],[],[],0,[]⟩,⟨[(0,.v false [.str])],[],[],1000,[]⟩,(.s none .n (.s none .n (.s (some ⟨[(3,.v false [.str])],[],[1],0,[]⟩) (.s none .n (.b (.l ⟨[(3,.v false [.str]),(4,.v false [.int .i64])],[],[1],0,[]⟩ (.s none .n (.s none (.b (.s none .n (.s (some ⟨[(3,.v false [.str])],[],[1,4,5],0,[]⟩) .n (.s none .n (.s (some ⟨[(3,.v false [.str])],[],[1,4,5],0,[]⟩) .n (.s (some ⟨[(3,.v false [.str])],[],[1,4,5],0,[]⟩) .n .n)))))) .n))))) (.s none .n (.s none (.s none .n (.b (.l ⟨[(3,.v false [.str]),(6,.v false [.int .i64])],[],[1],0,[]⟩ .n))) .n)))))⟩
noncomputable def cJ.B:ByteArray×(List aC)×(List (List ao))×Unit→Option (ByteArray×Unit):=fun (p0_0,p0_1,p0_2,_)=>
 ck (ca (⟨#[116,97,98,108,101,32]⟩:ByteArray) p0_0)<|
 let e1:ByteArray:=((⟨#[116,97,98,108,101,32]⟩:ByteArray)++p0_0)
 ck (ca e1 (⟨#[32,40]⟩:ByteArray))<|
 let e2:ByteArray:=(e1++(⟨#[32,40]⟩:ByteArray))
 jn (S:=ByteArray×Unit) (
 aK (S:=ByteArray×Int×Unit) (fun (x3,x4,_)=>
 (bif (decide (x4<(p0_1.length:Int))) then
 ck (ib x4 p0_1.length)<|
 let e3:aC:=(gt p0_1 x4 aX.z)
 jn (S:=ByteArray×Unit) (
 (bif (decide (x4>(0:Int))) then
 ck (ca x3 (⟨#[32,44]⟩:ByteArray))<|
 let e4:ByteArray:=(x3++(⟨#[32,44]⟩:ByteArray))
 il (e4,())
 else
 il (x3,()))) fun (x3_5,_)=>
 ck (ca (⟨#[32]⟩:ByteArray) e3.1)<|
 let e6:ByteArray:=((⟨#[32]⟩:ByteArray)++e3.1)
 ck (ca e6 (⟨#[32]⟩:ByteArray))<|
 let e7:ByteArray:=(e6++(⟨#[32]⟩:ByteArray))
 let e8:Int:=(wr (e3.2.1-(1:Int)))
 (fe.F (e8,[(⟨#[98,111,111,108]⟩:ByteArray),(⟨#[105,110,116]⟩:ByteArray),(⟨#[116,101,120,116]⟩:ByteArray)],())).bind fun y9=>
 ck (ca e7 y9.1)<|
 let e10:ByteArray:=(e7++y9.1)
 ck (ca x3_5 e10)<|
 let e11:ByteArray:=(x3_5++e10)
 jn (S:=ByteArray×Unit) (
 (bif e3.2.2.1 then
 ck (ca e11 (⟨#[32,110,117,108,108]⟩:ByteArray))<|
 let e12:ByteArray:=(e11++(⟨#[32,110,117,108,108]⟩:ByteArray))
 il (e12,())
 else
 il (e11,()))) fun (x3_13,_)=>
 jn (S:=ByteArray×Unit) (
 (bif e3.2.2.2.1 then
 ck (ca x3_13 (⟨#[32,117,110,105,113,117,101]⟩:ByteArray))<|
 let e14:ByteArray:=(x3_13++(⟨#[32,117,110,105,113,117,101]⟩:ByteArray))
 il (e14,())
 else
 il (x3_13,()))) fun (x3_15,_)=>
 (bif (!sq e3.2.2.2.2.1 (⟨#[]⟩:ByteArray)) then
 ck (ca (⟨#[32,114,101,102,32]⟩:ByteArray) e3.2.2.2.2.1)<|
 let e16:ByteArray:=((⟨#[32,114,101,102,32]⟩:ByteArray)++e3.2.2.2.2.1)
 ck (ca e16 (⟨#[32]⟩:ByteArray))<|
 let e17:ByteArray:=(e16++(⟨#[32]⟩:ByteArray))
 (fe.F (e3.2.2.2.2.2,[(⟨#[114,101,115,116,114,105,99,116]⟩:ByteArray),(⟨#[99,97,115,99,97,100,101]⟩:ByteArray),(⟨#[115,101,116,110,117,108,108]⟩:ByteArray)],())).bind fun y18=>
 ck (ca e17 y18.1)<|
 let e19:ByteArray:=(e17++y18.1)
 ck (ca x3_15 e19)<|
 let e20:ByteArray:=(x3_15++e19)
 let e21:Int:=(wr (x4+(1:Int)))
 il (e20,e21,())
 else
 let e22:Int:=(wr (x4+(1:Int)))
 il (x3_15,e22,()))
 else
 ir (.inl (x3,())))) (e2,(0:Int),())) fun (x3_23,_)=>
 ck (ca x3_23 (⟨#[32,41]⟩:ByteArray))<|
 let e24:ByteArray:=(x3_23++(⟨#[32,41]⟩:ByteArray))
 aK (S:=ByteArray×Int×Unit) (fun (x3,x6,_)=>
 (bif (decide (x6<(p0_2.length:Int))) then
 ck (ib x6 p0_2.length)<|
 let e25:(List ao):=(gt p0_2 x6 [])
 (cY.F (e25,())).bind fun y26=>
 ck (ca (⟨#[32,99,104,101,99,107]⟩:ByteArray) y26.1)<|
 let e27:ByteArray:=((⟨#[32,99,104,101,99,107]⟩:ByteArray)++y26.1)
 ck (ca x3 e27)<|
 let e28:ByteArray:=(x3++e27)
 let e29:Int:=(wr (x6+(1:Int)))
 il (e28,e29,())
 else
 ir (x3,()))) (e24,(0:Int),())
noncomputable def cJ.F:=stk cJ.B
theorem cJ.eq:cJ.F=cJ.B:=aq _
theorem cJ.k:Kk dg.s [] [] Tryz.f73 cJ.d cJ.B:={}
noncomputable def cJ.s:SpL:=cJ.d.e [] cJ.F::dg.s
theorem cJ.c:Ck cJ.s []:=cS dg.c cJ.k
def fK.d:Fe:=⟨143,1,⟨[(0,.v false [.int .u8])],[],[],0,[]⟩,⟨[(0,.v false [.bool])],[],[],1000,[]⟩,(.s none .n (.s none .n (.s none (.s none .n (.b (.l ⟨[(4,.v false [.int .i64])],[],[0,3],0,[]⟩ .n))) .n)))⟩
noncomputable def fK.B:Int×Unit→Option (Bool×Unit):=fun (p0,_)=>
 aK (S:=Int×Unit) (fun (x4,_)=>
 (bif (decide (x4<((⟨#[40,41,91,93,44,61,60,43,45,42,63]⟩:ByteArray).size:Int))) then
 ck (ib x4 (⟨#[40,41,91,93,44,61,60,43,45,42,63]⟩:ByteArray).size)<|
 let e1:Int:=(bu (⟨#[40,41,91,93,44,61,60,43,45,42,63]⟩:ByteArray) (Int.toNat x4))
 (bif (e1==p0) then
 ir (true,())
 else
 let e2:Int:=(wr (x4+(1:Int)))
 il (e2,()))
 else
 ir (false,()))) ((0:Int),())
noncomputable def fK.F:=stk fK.B
theorem fK.eq:fK.F=fK.B:=aq _
theorem fK.k:Kk cJ.s [] [] Tryz.f143 fK.d fK.B:={}
noncomputable def fK.s:SpL:=fK.d.e [] fK.F::cJ.s
theorem fK.c:Ck fK.s []:=cS cJ.c fK.k
def dX.d:Fe:=⟨144,1,⟨[(0,.v false [.int .u8])],[],[],0,[]⟩,⟨[(0,.v false [.bool])],[],[],1000,[]⟩,.n⟩
noncomputable def dX.B:Int×Unit→Option (Bool×Unit):=fun (p0,_)=>
 (bif (decide (p0≥(97:Int))) then
 some ((decide (p0≤(122:Int))),())
 else
 some (false,()))
noncomputable def dX.F:=stk dX.B
theorem dX.eq:dX.F=dX.B:=aq _
theorem dX.k:Kk fK.s [] [] Tryz.f144 dX.d dX.B:={}
noncomputable def dX.s:SpL:=dX.d.e [] dX.F::fK.s
theorem dX.c:Ck dX.s []:=cS fK.c dX.k
def eL.d:Fe:=⟨147,1,⟨[(0,.v false [.int .u8])],[],[],0,[]⟩,⟨[(0,.v false [.bool])],[],[],1000,[]⟩,.n⟩
noncomputable def eL.B:Int×Unit→Option (Bool×Unit):=fun (p0,_)=>
 (bif (decide (p0≥(48:Int))) then
 some ((decide (p0≤(57:Int))),())
 else
 some (false,()))
noncomputable def eL.F:=stk eL.B
theorem eL.eq:eL.F=eL.B:=aq _
theorem eL.k:Kk dX.s [] [] Tryz.f147 eL.d eL.B:={}
noncomputable def eL.s:SpL:=eL.d.e [] eL.F::dX.s
theorem eL.c:Ck eL.s []:=cS dX.c eL.k
def eE.d:Fe:=⟨145,1,⟨[(0,.v false [.int .u8])],[],[],0,[]⟩,⟨[(0,.v false [.bool])],[],[],1000,[]⟩,.n⟩
noncomputable def eE.B:Int×Unit→Option (Bool×Unit):=fun (p0,_)=>
 (dX.F (p0,())).bind fun y1=>
 (bif y1.1 then
 some (true,())
 else
 (eL.F (p0,())).bind fun y2=>
 (bif y2.1 then
 some (true,())
 else
 some ((p0==(95:Int)),())))
noncomputable def eE.F:=stk eE.B
theorem eE.eq:eE.F=eE.B:=aq _
theorem eE.k:Kk eL.s [] [] Tryz.f145 eE.d eE.B:={}
noncomputable def eE.s:SpL:=eE.d.e [] eE.F::eL.s
theorem eE.c:Ck eE.s []:=cS eL.c eE.k
def fm.d:Fe:=⟨146,1,⟨[(0,.v false [.str])],[],[],0,[]⟩,⟨[(0,.v false [.bool])],[],[],1000,[]⟩,(.s none .n (.s (some ⟨[],[],[0],0,[]⟩) (.s none .n (.b (.l ⟨[(3,.v false [.int .i64])],[],[0],0,[]⟩ .n))) .n))⟩
noncomputable def fm.B:ByteArray×Unit→Option (Bool×Unit):=fun (p0,_)=>
 jn (S:=Unit) (
 aK (S:=Int×Unit) (fun (x3,_)=>
 (bif (decide (x3<(p0.size:Int))) then
 ck (ib x3 p0.size)<|
 let e1:Int:=(bu p0 (Int.toNat x3))
 (eE.F (e1,())).bind fun y2=>
 (bif (!y2.1) then
 ir (.inr (false,()))
 else
 let e3:Int:=(wr (x3+(1:Int)))
 il (e3,()))
 else
 ir (.inl (())))) ((0:Int),())) fun (_)=>
 (bif (decide ((p0.size:Int)≥(1:Int))) then
 (bif (decide ((p0.size:Int)≤(30:Int))) then
 ck (ib (0:Int) p0.size)<|
 let e5:Int:=(bu p0 0)
 (dX.F (e5,())).bind fun y6=>
 some (y6.1,())
 else
 some (false,()))
 else
 some (false,()))
noncomputable def fm.F:=stk fm.B
theorem fm.eq:fm.F=fm.B:=aq _
theorem fm.k:Kk eE.s [] [] Tryz.f146 fm.d fm.B:={}
noncomputable def fm.s:SpL:=fm.d.e [] fm.F::eE.s
theorem fm.c:Ck fm.s []:=cS eE.c fm.k
def dU.d:Fe:=⟨37,1,⟨[(0,.v false [.int .i64])],[],[],0,[]⟩,⟨[(0,.v true [.int .i64,.int .i64,.str])],[],[],1000,[]⟩,.n⟩
noncomputable def dU.B:Int×Unit→Option (Int×Int×ByteArray×Unit):=fun (p0,_)=>
 some ((2:Int),p0,(⟨#[]⟩:ByteArray),())
noncomputable def dU.F:=stk dU.B
theorem dU.eq:dU.F=dU.B:=aq _
theorem dU.k:Kk fm.s [] [] Tryz.f37 dU.d dU.B:={}
noncomputable def dU.s:SpL:=dU.d.e [] dU.F::fm.s
theorem dU.c:Ck dU.s []:=cS fm.c dU.k
def eM.d:Fe:=⟨168,2,⟨[(0,.v true [.int .i64,.int .i64,.str]),(1,.v true [.int .i64,.int .i64,.str])],[],[],0,[]⟩,⟨[(0,.v false [.bool])],[],[],1000,[]⟩,.n⟩
noncomputable def eM.B:Int×Int×ByteArray×Int×Int×ByteArray×Unit→Option (Bool×Unit):=fun (p0_0,p0_1,p0_2,p1_0,p1_1,p1_2,_)=>
 (bif (p0_0==(0:Int)) then
 some (true,())
 else
 some ((p1_0==(0:Int)),()))
noncomputable def eM.F:=stk eM.B
theorem eM.eq:eM.F=eM.B:=aq _
theorem eM.k:Kk dU.s [] [] Tryz.f168 eM.d eM.B:={}
noncomputable def eM.s:SpL:=eM.d.e [] eM.F::dU.s
theorem eM.c:Ck eM.s []:=cS dU.c eM.k
def fL.d:Fe:=⟨197,2,⟨[(0,.v true [.int .i64,.int .i64,.str]),(1,.v true [.int .i64,.int .i64,.str])],[],[],0,[]⟩,⟨[(0,.v false [.bool])],[],[],1000,[]⟩,.n⟩
noncomputable def fL.B:Int×Int×ByteArray×Int×Int×ByteArray×Unit→Option (Bool×Unit):=fun (p0_0,p0_1,p0_2,p1_0,p1_1,p1_2,_)=>
 (bif (p0_0==(2:Int)) then
 some ((p1_0==(2:Int)),())
 else
 some (false,()))
noncomputable def fL.F:=stk fL.B
theorem fL.eq:fL.F=fL.B:=aq _
theorem fL.k:Kk eM.s [] [] Tryz.f197 fL.d fL.B:={}
noncomputable def fL.s:SpL:=fL.d.e [] fL.F::eM.s
theorem fL.c:Ck fL.s []:=cS eM.c fL.k
def eo.d:Fe:=⟨199,0,⟨[],[],[],0,[]⟩,⟨[(0,.v false [.int .i64])],[],[],1000,[]⟩,.n⟩
noncomputable def eo.B:Unit→Option (Int×Unit):=fun (_)=>
 some ((-9223372036854775808:Int),())
noncomputable def eo.F:=stk eo.B
theorem eo.eq:eo.F=eo.B:=aq _
theorem eo.k:Kk fL.s [] [] Tryz.f199 eo.d eo.B:={}
noncomputable def eo.s:SpL:=eo.d.e [] eo.F::fL.s
theorem eo.c:Ck eo.s []:=cS fL.c eo.k
def fT.d:Fe:=⟨164,2,⟨[(0,.v true [.int .i64,.int .i64,.str]),(1,.v true [.int .i64,.int .i64,.str])],[],[],0,[]⟩,⟨[(0,.tup [(true,[.int .i64,.int .i64,.str]),(false,[.bool])])],[],[],1000,[]⟩,(.s none .n (.s none .n (.s none .n (.s (some ⟨[],[],[2,3,4],0,[]⟩) .n (.s none (.s (some ⟨[(44,.v false [.bool])],[],[2,3,4],0,[]⟩) .n .n) .n)))))⟩
noncomputable def fT.B:Int×Int×ByteArray×Int×Int×ByteArray×Unit→Option (Int×Int×ByteArray×Bool×Unit):=fun (p0_0,p0_1,p0_2,p1_0,p1_1,p1_2,_)=>
 (eM.F (p0_0,p0_1,p0_2,p1_0,p1_1,p1_2,())).bind fun y1=>
 (bif y1.1 then
 some ((0:Int),(0:Int),(⟨#[]⟩:ByteArray),true,())
 else
 (fL.F (p0_0,p0_1,p0_2,p1_0,p1_1,p1_2,())).bind fun y2=>
 (bif (!y2.1) then
 some ((0:Int),(0:Int),(⟨#[]⟩:ByteArray),false,())
 else
 jn (S:=Unit) (
 (bif (p0_1==(0:Int)) then
 (dU.F ((0:Int),())).bind fun y3=>
 ir (y3.1,y3.2.1,y3.2.2.1,true,())
 else
 (bif (p1_1==(0:Int)) then
 (dU.F ((0:Int),())).bind fun y4=>
 ir (y4.1,y4.2.1,y4.2.2.1,true,())
 else
 il (())))) fun (_)=>
 jn (S:=Bool×Unit) (
 (bif (p0_1==(-1:Int)) then
 (eo.F (())).bind fun y6=>
 (bif (p1_1==y6.1) then
 il (true,())
 else
 (bif (p1_1==(-1:Int)) then
 (eo.F (())).bind fun y7=>
 il ((p0_1==y7.1),())
 else
 il (false,())))
 else
 (bif (p1_1==(-1:Int)) then
 (eo.F (())).bind fun y8=>
 il ((p0_1==y8.1),())
 else
 il (false,())))) fun (x44_9,_)=>
 (bif x44_9 then
 some ((0:Int),(0:Int),(⟨#[]⟩:ByteArray),false,())
 else
 let e10:Int:=(wr (p0_1*p1_1))
 ck (!decide (p1_1=0))<|
 let e11:Int:=(wr (Int.tdiv e10 p1_1))
 (bif (e11 !=p0_1) then
 some ((0:Int),(0:Int),(⟨#[]⟩:ByteArray),false,())
 else
 ck (!decide (p1_1=0))<|
 let e12:Int:=(Int.tmod e10 p1_1)
 (bif (e12 !=(0:Int)) then
 some ((0:Int),(0:Int),(⟨#[]⟩:ByteArray),false,())
 else
 (dU.F (e10,())).bind fun y13=>
 some (y13.1,y13.2.1,y13.2.2.1,true,()))))))
noncomputable def fT.F:=stk fT.B
theorem fT.eq:fT.F=fT.B:=aq _
theorem fT.k:Kk eo.s [] [] Tryz.f164 fT.d fT.B:={}
noncomputable def fT.s:SpL:=fT.d.e [] fT.F::eo.s
theorem fT.c:Ck fT.s []:=cS eo.c fT.k
def fY.d:Fe:=⟨198,0,⟨[],[],[],0,[]⟩,⟨[(0,.v false [.int .i64])],[],[],1000,[]⟩,.n⟩
noncomputable def fY.B:Unit→Option (Int×Unit):=fun (_)=>
 some ((9223372036854775807:Int),())
noncomputable def fY.F:=stk fY.B
theorem fY.eq:fY.F=fY.B:=aq _
theorem fY.k:Kk fT.s [] [] Tryz.f198 fY.d fY.B:={}
noncomputable def fY.s:SpL:=fY.d.e [] fY.F::fT.s
theorem fY.c:Ck fY.s []:=cS fT.c fY.k
def fU.d:Fe:=⟨162,2,⟨[(0,.v true [.int .i64,.int .i64,.str]),(1,.v true [.int .i64,.int .i64,.str])],[],[],0,[]⟩,⟨[(0,.tup [(true,[.int .i64,.int .i64,.str]),(false,[.bool])])],[],[],1000,[]⟩,(.s none .n (.s none .n (.s none (.s (some ⟨[(41,.v false [.bool])],[],[2,3,4],0,[]⟩) .n .n) .n)))⟩
noncomputable def fU.B:Int×Int×ByteArray×Int×Int×ByteArray×Unit→Option (Int×Int×ByteArray×Bool×Unit):=fun (p0_0,p0_1,p0_2,p1_0,p1_1,p1_2,_)=>
 (eM.F (p0_0,p0_1,p0_2,p1_0,p1_1,p1_2,())).bind fun y1=>
 (bif y1.1 then
 some ((0:Int),(0:Int),(⟨#[]⟩:ByteArray),true,())
 else
 jn (S:=Bool×Unit) (
 (fL.F (p0_0,p0_1,p0_2,p1_0,p1_1,p1_2,())).bind fun y2=>
 (bif (!y2.1) then
 il (true,())
 else
 (bif (decide (p1_1>(0:Int))) then
 (fY.F (())).bind fun y3=>
 let e4:Int:=(wr (y3.1-p1_1))
 (bif (decide (p0_1>e4)) then
 il (true,())
 else
 (bif (decide (p1_1<(0:Int))) then
 (eo.F (())).bind fun y5=>
 let e6:Int:=(wr (y5.1-p1_1))
 il ((decide (p0_1<e6)),())
 else
 il (false,())))
 else
 (bif (decide (p1_1<(0:Int))) then
 (eo.F (())).bind fun y7=>
 let e8:Int:=(wr (y7.1-p1_1))
 il ((decide (p0_1<e8)),())
 else
 il (false,()))))) fun (x41_9,_)=>
 (bif x41_9 then
 some ((0:Int),(0:Int),(⟨#[]⟩:ByteArray),false,())
 else
 let e10:Int:=(wr (p0_1+p1_1))
 (dU.F (e10,())).bind fun y11=>
 some (y11.1,y11.2.1,y11.2.2.1,true,())))
noncomputable def fU.F:=stk fU.B
theorem fU.eq:fU.F=fU.B:=aq _
theorem fU.k:Kk fY.s [] [] Tryz.f162 fU.d fU.B:={}
noncomputable def fU.s:SpL:=fU.d.e [] fU.F::fY.s
theorem fU.c:Ck fU.s []:=cS fY.c fU.k
def fV.d:Fe:=⟨163,2,⟨[(0,.v true [.int .i64,.int .i64,.str]),(1,.v true [.int .i64,.int .i64,.str])],[],[],0,[]⟩,⟨[(0,.tup [(true,[.int .i64,.int .i64,.str]),(false,[.bool])])],[],[],1000,[]⟩,(.s none .n (.s none .n (.s none (.s (some ⟨[(41,.v false [.bool])],[],[2,3,4],0,[]⟩) .n .n) .n)))⟩
noncomputable def fV.B:Int×Int×ByteArray×Int×Int×ByteArray×Unit→Option (Int×Int×ByteArray×Bool×Unit):=fun (p0_0,p0_1,p0_2,p1_0,p1_1,p1_2,_)=>
 (eM.F (p0_0,p0_1,p0_2,p1_0,p1_1,p1_2,())).bind fun y1=>
 (bif y1.1 then
 some ((0:Int),(0:Int),(⟨#[]⟩:ByteArray),true,())
 else
 jn (S:=Bool×Unit) (
 (fL.F (p0_0,p0_1,p0_2,p1_0,p1_1,p1_2,())).bind fun y2=>
 (bif (!y2.1) then
 il (true,())
 else
 (bif (decide (p1_1<(0:Int))) then
 (fY.F (())).bind fun y3=>
 let e4:Int:=(wr (y3.1+p1_1))
 (bif (decide (p0_1>e4)) then
 il (true,())
 else
 (bif (decide (p1_1>(0:Int))) then
 (eo.F (())).bind fun y5=>
 let e6:Int:=(wr (y5.1+p1_1))
 il ((decide (p0_1<e6)),())
 else
 il (false,())))
 else
 (bif (decide (p1_1>(0:Int))) then
 (eo.F (())).bind fun y7=>
 let e8:Int:=(wr (y7.1+p1_1))
 il ((decide (p0_1<e8)),())
 else
 il (false,()))))) fun (x41_9,_)=>
 (bif x41_9 then
 some ((0:Int),(0:Int),(⟨#[]⟩:ByteArray),false,())
 else
 let e10:Int:=(wr (p0_1-p1_1))
 (dU.F (e10,())).bind fun y11=>
 some (y11.1,y11.2.1,y11.2.2.1,true,())))
noncomputable def fV.F:=stk fV.B
theorem fV.eq:fV.F=fV.B:=aq _
theorem fV.k:Kk fU.s [] [] Tryz.f163 fV.d fV.B:={}
noncomputable def fV.s:SpL:=fV.d.e [] fV.F::fU.s
theorem fV.c:Ck fV.s []:=cS fU.c fV.k
def dv.d:Fe:=⟨148,1,⟨[(0,.v false [.str])],[],[],0,[]⟩,⟨[(0,.tup [(false,[.int .i64]),(false,[.bool])])],[],[],1000,[]⟩,(.s none .n (.s none .n (.s none .n (.s none .n (.s (some ⟨[(5,.v false [.ptr 0 0]),(6,.v false [.bool])],[(0,true,.box 47 [.int .i64,.int .i64,.str])],[0],1,[]⟩) (.s none .n (.b (.l ⟨[(5,.v false [.ptr 0 0]),(6,.v false [.bool]),(7,.v false [.int .i64])],[(0,true,.box 47 [.int .i64,.int .i64,.str])],[0,4],1,[]⟩ (.s none .n (.s (some ⟨[(5,.v false [.ptr 0 0]),(6,.v false [.bool])],[(0,true,.box 47 [.int .i64,.int .i64,.str])],[0,4,7],1,[]⟩) .n .n))))) .n)))))⟩
noncomputable def dv.B:ByteArray×Unit→Option (Int×Bool×Unit):=fun (p0,_)=>
 ck (ib (0:Int) p0.size)<|
 let e1:Int:=(bu p0 0)
 jn (S:=Bool×Int×Int×ByteArray×Unit) (
 aK (S:=Bool×Int×Int×Int×ByteArray×Unit) (fun (x6,x7,o5_0_0,o5_0_1,o5_0_2,_)=>
 (bif (decide (x7<(p0.size:Int))) then
 jn (S:=Bool×Int×Int×ByteArray×Unit) (
 ck (ib x7 p0.size)<|
 let e2:Int:=(bu p0 (Int.toNat x7))
 (bif (e2==(45:Int)) then
 il (x6,o5_0_0,o5_0_1,o5_0_2,())
 else
 ck (ib x7 p0.size)<|
 let e3:Int:=(bu p0 (Int.toNat x7))
 let e4:Int:=(IntKind.u8.wrap (e3-(48:Int)))
 (dU.F ((wr (e4)),())).bind fun y5=>
 (dU.F ((10:Int),())).bind fun y6=>
 (fT.F (o5_0_0,o5_0_1,o5_0_2,y6.1,y6.2.1,y6.2.2.1,())).bind fun y7=>
 (fU.F (y7.1,y7.2.1,y7.2.2.1,y5.1,y5.2.1,y5.2.2.1,())).bind fun y8=>
 (bif (e1==(45:Int)) then
 (fV.F (y7.1,y7.2.1,y7.2.2.1,y5.1,y5.2.1,y5.2.2.1,())).bind fun y9=>
 (bif x6 then
 (bif y7.2.2.2.1 then
 il (y9.2.2.2.1,y9.1,y9.2.1,y9.2.2.1,())
 else
 il (false,y9.1,y9.2.1,y9.2.2.1,()))
 else
 il (false,y9.1,y9.2.1,y9.2.2.1,()))
 else
 (bif x6 then
 (bif y7.2.2.2.1 then
 il (y8.2.2.2.1,y8.1,y8.2.1,y8.2.2.1,())
 else
 il (false,y8.1,y8.2.1,y8.2.2.1,()))
 else
 il (false,y8.1,y8.2.1,y8.2.2.1,()))))) fun (x6_10,o5_0_0_10,o5_0_1_10,o5_0_2_10,_)=>
 let e11:Int:=(wr (x7+(1:Int)))
 il (x6_10,e11,o5_0_0_10,o5_0_1_10,o5_0_2_10,())
 else
 ir (.inl (x6,o5_0_0,o5_0_1,o5_0_2,())))) (true,(0:Int),(2:Int),(0:Int),(⟨#[]⟩:ByteArray),())) fun (x6_12,o5_0_0_12,o5_0_1_12,o5_0_2_12,_)=>
 (bif x6_12 then
 (cX.F (o5_0_1_12,())).bind fun y13=>
 some (o5_0_1_12,(sq y13.1 p0),())
 else
 some (o5_0_1_12,false,()))
noncomputable def dv.F:=stk dv.B
theorem dv.eq:dv.F=dv.B:=aq _
theorem dv.k:Kk fV.s [] [] Tryz.f148 dv.d dv.B:={}
noncomputable def dv.s:SpL:=dv.d.e [] dv.F::fV.s
theorem dv.c:Ck dv.s []:=cS fV.c dv.k
def fz.d:Fe:=⟨149,2,⟨[(0,.v false [.str]),(1,.v false [.int .i64])],[],[],0,[]⟩,⟨[(0,.tup [(false,[.str]),(false,[.int .i64]),(false,[.bool])])],[],[],1000,[]⟩,(.s none .n (.s none .n (.s none .n (.s none (.b (.l ⟨[(7,.v false [.str]),(8,.v false [.int .i64])],[],[0],0,[]⟩ .n)) .n))))⟩
noncomputable def fz.B:ByteArray×Int×Unit→Option (ByteArray×Int×Bool×Unit):=fun (p0,p1,_)=>
 let e1:Int:=(wr (p1+(1:Int)))
 aK (S:=ByteArray×Int×Unit) (fun (x7,x8,_)=>
 (bif (decide (x8<(p0.size:Int))) then
 ck (ib x8 p0.size)<|
 let e2:Int:=(bu p0 (Int.toNat x8))
 (bif (e2 !=(39:Int)) then
 let e3:Int:=(wr (x8+(1:Int)))
 ck (sb x8 e3 p0.size)<|
 let e4:ByteArray:=(p0.extract (Int.toNat x8) (Int.toNat e3))
 ck (ca x7 e4)<|
 let e5:ByteArray:=(x7++e4)
 let e6:Int:=(wr (x8+(1:Int)))
 il (e5,e6,())
 else
 let e7:Int:=(wr (x8+(1:Int)))
 (bif (decide (e7<(p0.size:Int))) then
 let e8:Int:=(wr (x8+(1:Int)))
 ck (ib e8 p0.size)<|
 let e9:Int:=(bu p0 (Int.toNat e8))
 (bif (e9==(39:Int)) then
 ck (ca x7 (⟨#[39]⟩:ByteArray))<|
 let e10:ByteArray:=(x7++(⟨#[39]⟩:ByteArray))
 let e11:Int:=(wr (x8+(2:Int)))
 il (e10,e11,())
 else
 let e12:Int:=(wr (x8+(1:Int)))
 ir (x7,e12,(decide ((x7.size:Int)≤(1000:Int))),()))
 else
 let e13:Int:=(wr (x8+(1:Int)))
 ir (x7,e13,(decide ((x7.size:Int)≤(1000:Int))),())))
 else
 ir ((⟨#[]⟩:ByteArray),(0:Int),false,()))) ((⟨#[]⟩:ByteArray),e1,())
noncomputable def fz.F:=stk fz.B
theorem fz.eq:fz.F=fz.B:=aq _
theorem fz.k:Kk dv.s [] [] Tryz.f149 fz.d fz.B:={}
noncomputable def fz.s:SpL:=fz.d.e [] fz.F::dv.s
theorem fz.c:Ck fz.s []:=cS dv.c fz.k
def fW.d:Fe:=⟨109,1,⟨[(0,.v false [.str])],[],[],0,[]⟩,⟨[(0,.tup [(false,[.ref 1000]),(false,[.int .i64])])],[(1000,false,.arr 195 dI)],[],1001,[]⟩,(.s none .n (.s none .n (.s none .n (.s none .n (.s none (.b (.l ⟨[(4,.v false [.ref 0]),(5,.v false [.int .i64])],[(0,false,.arr 195 dI)],[0],1,[]⟩ (.s none .n (.b (.s none .n (.s none .n (.s none .n (.s none .n (.s none .n (.s (some ⟨[(7,.v false [.int .i64]),(8,.v false [.ptr 0 0]),(9,.v false [.bool])],[(0,true,.box 195 [.int .i64,.str,.int .i64,.int .i64,.str])],[0,4],1,[]⟩) (.s none .n (.c (.s (some ⟨[(7,.v false [.int .i64])],[],[0,4,5,8],0,[]⟩) (.b (.l ⟨[(7,.v false [.int .i64])],[],[0,4,5,8],0,[]⟩ .n)) .n) (.s (some ⟨[(80,.v false [.bool])],[],[0,4,5,6,7,8,9],0,[]⟩) .n (.c (.s (some ⟨[(7,.v false [.int .i64])],[],[0,4,5,8],0,[]⟩) (.b (.l ⟨[(7,.v false [.int .i64])],[],[0,4,5,8],0,[]⟩ .n)) .n) .n)))) .n)))))))))) .n)))))⟩
noncomputable def fW.B:ByteArray×Unit→Option (Int×(List aU)×Unit):=fun (p0,_)=>
 (bif (decide ((p0.size:Int)>(20000:Int))) then
 some ((60:Int),[],())
 else
 aK (S:=Int×(List aU)×Unit) (fun (x5,o4_0,_)=>
 (bif (decide (x5<(p0.size:Int))) then
 ck (ib x5 p0.size)<|
 let e1:Int:=(bu p0 (Int.toNat x5))
 let e2:Int:=(wr (x5+(1:Int)))
 ck (sb x5 e2 p0.size)<|
 let e3:ByteArray:=(p0.extract (Int.toNat x5) (Int.toNat e2))
 (fK.F (e1,())).bind fun y4=>
 (bif (e1==(32:Int)) then
 let e5:Int:=(wr (x5+(1:Int)))
 il (e5,o4_0,())
 else
 jn (S:=Int×Bool×Int×ByteArray×Int×Int×ByteArray×Unit) (
 (dX.F (e1,())).bind fun y6=>
 (bif y6.1 then
 jn (S:=Int×Unit) (
 aK (S:=Int×Unit) (fun (x7',_)=>
 (bif (decide (x7'<(p0.size:Int))) then
 ck (ib x7' p0.size)<|
 let e7:Int:=(bu p0 (Int.toNat x7'))
 (eE.F (e7,())).bind fun y8=>
 (bif y8.1 then
 let e9:Int:=(wr (x7'+(1:Int)))
 il (e9,())
 else
 ir (.inl (x7',())))
 else
 ir (.inl (x7',())))) (e2,())) fun (x7_10,_)=>
 ck (sb x5 x7_10 p0.size)<|
 let e11:ByteArray:=(p0.extract (Int.toNat x5) (Int.toNat x7_10))
 ck (sb x5 x7_10 p0.size)<|
 let e12:ByteArray:=(p0.extract (Int.toNat x5) (Int.toNat x7_10))
 (fm.F (e12,())).bind fun y13=>
 il (x7_10,y13.1,(0:Int),e11,(0:Int),(0:Int),(⟨#[]⟩:ByteArray),())
 else
 jn (S:=Bool×Unit) (
 (eL.F (e1,())).bind fun y14=>
 (bif y14.1 then
 il (true,())
 else
 (bif (e1==(45:Int)) then
 (bif (decide (e2<(p0.size:Int))) then
 ck (ib e2 p0.size)<|
 let e15:Int:=(bu p0 (Int.toNat e2))
 (eL.F (e15,())).bind fun y16=>
 il (y16.1,())
 else
 il (false,()))
 else
 il (false,())))) fun (x80_17,_)=>
 (bif x80_17 then
 jn (S:=Int×Unit) (
 aK (S:=Int×Unit) (fun (x7',_)=>
 (bif (decide (x7'<(p0.size:Int))) then
 ck (ib x7' p0.size)<|
 let e18:Int:=(bu p0 (Int.toNat x7'))
 (eL.F (e18,())).bind fun y19=>
 (bif y19.1 then
 let e20:Int:=(wr (x7'+(1:Int)))
 il (e20,())
 else
 ir (.inl (x7',())))
 else
 ir (.inl (x7',())))) (e2,())) fun (x7_21,_)=>
 ck (sb x5 x7_21 p0.size)<|
 let e22:ByteArray:=(p0.extract (Int.toNat x5) (Int.toNat x7_21))
 (dv.F (e22,())).bind fun y23=>
 (dU.F (y23.1,())).bind fun y24=>
 il (x7_21,y23.2.1,(1:Int),(⟨#[]⟩:ByteArray),y24.1,y24.2.1,y24.2.2.1,())
 else
 (bif (e1==(39:Int)) then
 (fz.F (p0,x5,())).bind fun y25=>
 il (y25.2.1,y25.2.2.1,(1:Int),(⟨#[]⟩:ByteArray),(3:Int),(0:Int),y25.1,())
 else
 il (e2,y4.1,(2:Int),e3,(0:Int),(0:Int),(⟨#[]⟩:ByteArray),()))))) fun (x7_26,x9_26,o8_0_0_26,o8_0_1_26,o8_0_2_26,o8_0_3_26,o8_0_4_26,_)=>
 (bif (!x9_26) then
 ir ((60:Int),[],())
 else
 ck (Nat.ble (o4_0.length+ [(o8_0_0_26,(o8_0_1_26,(o8_0_2_26,(o8_0_3_26,o8_0_4_26))))].length) 2513169434916)<|
 il (x7_26,(o4_0++ [(o8_0_0_26,(o8_0_1_26,(o8_0_2_26,(o8_0_3_26,o8_0_4_26))))]),())))
 else
 ir ((0:Int),o4_0,()))) ((0:Int),([]:List aU),()))
noncomputable def fW.F:=stk fW.B
theorem fW.eq:fW.F=fW.B:=aq _
theorem fW.k:Kk fz.s [] [] Tryz.f109 fW.d fW.B:={}
noncomputable def fW.s:SpL:=fW.d.e [] fW.F::fz.s
theorem fW.c:Ck fW.s []:=cS fz.c fW.k
def cE.d:Fe:=⟨156,2,⟨[(0,.v false [.ptr 0 0]),(1,.v false [.str])],[(0,true,.box 163 [.sl 195 dI,.int .i64,.bool])],[],1,[]⟩,⟨[(0,.v false [.bool])],[(0,true,.box 163 [.sl 195 dI,.int .i64,.bool])],[],1001,[(0,0)]⟩,.n⟩
noncomputable def cE.B:ByteArray×(List aU)×Int×Bool×Unit→Option (Bool×(List aU)×Int×Bool×Unit):=fun (p1,o0_0,o0_1,o0_2,_)=>
 (bif (decide (o0_1<(o0_0.length:Int))) then
 ck (ib o0_1 o0_0.length)<|
 let e1:aU:=(gt o0_0 o0_1 dI.z)
 (bif (e1.1 !=(1:Int)) then
 ck (ib o0_1 o0_0.length)<|
 let e2:aU:=(gt o0_0 o0_1 dI.z)
 some ((sq e2.2.1 p1),o0_0,o0_1,o0_2,())
 else
 some (false,o0_0,o0_1,o0_2,()))
 else
 some (false,o0_0,o0_1,o0_2,()))
noncomputable def cE.F:=stk cE.B
theorem cE.eq:cE.F=cE.B:=aq _
theorem cE.k:Kk fW.s [] [] Tryz.f156 cE.d cE.B:={}
noncomputable def cE.s:SpL:=cE.d.e [] cE.F::fW.s
theorem cE.c:Ck cE.s []:=cS fW.c cE.k
def aN.d:Fe:=⟨150,2,⟨[(0,.v false [.ptr 0 0]),(1,.v false [.str])],[(0,true,.box 163 [.sl 195 dI,.int .i64,.bool])],[],1,[]⟩,⟨[(0,.v false [.bool])],[(0,true,.box 163 [.sl 195 dI,.int .i64,.bool])],[],1001,[(0,0)]⟩,.n⟩
noncomputable def aN.B:ByteArray×(List aU)×Int×Bool×Unit→Option (Bool×(List aU)×Int×Bool×Unit):=fun (p1,o0_0,o0_1,o0_2,_)=>
 (cE.F (p1,o0_0,o0_1,o0_2,())).bind fun y1=>
 (bif y1.1 then
 let e2:Int:=(wr (y1.2.2.1+(1:Int)))
 some (true,y1.2.1,e2,y1.2.2.2.1,())
 else
 some (false,y1.2.1,y1.2.2.1,y1.2.2.2.1,()))
noncomputable def aN.F:=stk aN.B
theorem aN.eq:aN.F=aN.B:=aq _
theorem aN.k:Kk cE.s [] [] Tryz.f150 aN.d aN.B:={}
noncomputable def aN.s:SpL:=aN.d.e [] aN.F::cE.s
theorem aN.c:Ck aN.s []:=cS cE.c aN.k
def ci.d:Fe:=⟨110,2,⟨[(0,.v false [.ptr 0 0]),(1,.v false [.sl 9 .str])],[(0,true,.box 163 [.sl 195 dI,.int .i64,.bool])],[],1,[]⟩,⟨[(0,.v false [.int .i64])],[(0,true,.box 163 [.sl 195 dI,.int .i64,.bool])],[],1001,[(0,0)]⟩,(.s none .n (.s (some ⟨[(0,.v false [.ptr 0 0])],[(0,true,.box 163 [.sl 195 dI,.int .i64,.bool])],[],1,[]⟩) (.s none .n (.b (.l ⟨[(0,.v false [.ptr 0 0]),(5,.v false [.int .i64])],[(0,true,.box 163 [.sl 195 dI,.int .i64,.bool])],[1],1,[]⟩ .n))) .n))⟩
noncomputable def ci.B:(List ByteArray)×(List aU)×Int×Bool×Unit→Option (Int×(List aU)×Int×Bool×Unit):=fun (p1,o0_0,o0_1,o0_2,_)=>
 jn (S:=(List aU)×Int×Bool×Unit) (
 aK (S:=Int×(List aU)×Int×Bool×Unit) (fun (x5,o0_0_0,o0_0_1,o0_0_2,_)=>
 (bif (decide (x5<(p1.length:Int))) then
 ck (ib x5 p1.length)<|
 let e1:ByteArray:=(gt p1 x5 (⟨#[]⟩:ByteArray))
 (aN.F (e1,o0_0_0,o0_0_1,o0_0_2,())).bind fun y2=>
 (bif y2.1 then
 ir (.inr (x5,y2.2.1,y2.2.2.1,y2.2.2.2.1,()))
 else
 let e3:Int:=(wr (x5+(1:Int)))
 il (e3,y2.2.1,y2.2.2.1,y2.2.2.2.1,()))
 else
 ir (.inl (o0_0_0,o0_0_1,o0_0_2,())))) ((0:Int),o0_0,o0_1,o0_2,())) fun (o0_0_0_4,o0_0_1_4,o0_0_2_4,_)=>
 some ((0:Int),o0_0_0_4,o0_0_1_4,false,())
noncomputable def ci.F:=stk ci.B
theorem ci.eq:ci.F=ci.B:=aq _
theorem ci.k:Kk aN.s [] [] Tryz.f110 ci.d ci.B:={}
noncomputable def ci.s:SpL:=ci.d.e [] ci.F::aN.s
theorem ci.c:Ck ci.s []:=cS aN.c ci.k
def bw.d:Fe:=⟨189,1,⟨[(0,.v false [.ptr 0 0])],[(0,true,.box 163 [.sl 195 dI,.int .i64,.bool])],[],1,[]⟩,⟨[(0,.v true [.int .i64,.str,.int .i64,.int .i64,.str])],[(0,true,.box 163 [.sl 195 dI,.int .i64,.bool])],[],1001,[(0,0)]⟩,.n⟩
noncomputable def bw.B:(List aU)×Int×Bool×Unit→Option (Int×ByteArray×Int×Int×ByteArray×(List aU)×Int×Bool×Unit):=fun (o0_0,o0_1,o0_2,_)=>
 (bif (decide (o0_1≥(o0_0.length:Int))) then
 some ((-1:Int),(⟨#[]⟩:ByteArray),(0:Int),(0:Int),(⟨#[]⟩:ByteArray),o0_0,o0_1,false,())
 else
 let e1:Int:=(wr (o0_1+(1:Int)))
 let e2:Int:=(wr (e1-(1:Int)))
 ck (ib e2 o0_0.length)<|
 let e3:aU:=(gt o0_0 e2 dI.z)
 some (e3.1,e3.2.1,e3.2.2.1,e3.2.2.2.1,e3.2.2.2.2,o0_0,e1,o0_2,()))
noncomputable def bw.F:=stk bw.B
theorem bw.eq:bw.F=bw.B:=aq _
theorem bw.k:Kk ci.s [] [] Tryz.f189 bw.d bw.B:={}
noncomputable def bw.s:SpL:=bw.d.e [] bw.F::ci.s
theorem bw.c:Ck bw.s []:=cS ci.c bw.k
def dD.d:Fe:=⟨212,1,⟨[(0,.v false [.str])],[],[],0,[]⟩,⟨[(0,.v false [.bool])],[],[],1000,[]⟩,(.s none .n (.s none .n (.s none (.s none .n (.b (.l ⟨[(4,.v false [.int .i64])],[],[0,3],0,[]⟩ .n))) .n)))⟩
noncomputable def dD.B:ByteArray×Unit→Option (Bool×Unit):=fun (p0,_)=>
 aK (S:=Int×Unit) (fun (x4,_)=>
 (bif (decide (x4<([(⟨#[116,97,98,108,101]⟩:ByteArray),(⟨#[99,104,101,99,107]⟩:ByteArray),(⟨#[118,105,101,119]⟩:ByteArray),(⟨#[102,114,111,109]⟩:ByteArray),(⟨#[106,111,105,110]⟩:ByteArray),(⟨#[111,110]⟩:ByteArray),(⟨#[119,104,101,114,101]⟩:ByteArray),(⟨#[112,105,99,107]⟩:ByteArray),(⟨#[103,114,111,117,112]⟩:ByteArray),(⟨#[98,111,111,108]⟩:ByteArray),(⟨#[105,110,116]⟩:ByteArray),(⟨#[116,101,120,116]⟩:ByteArray),(⟨#[110,117,108,108]⟩:ByteArray),(⟨#[117,110,105,113,117,101]⟩:ByteArray),(⟨#[114,101,102]⟩:ByteArray),(⟨#[114,101,115,116,114,105,99,116]⟩:ByteArray),(⟨#[99,97,115,99,97,100,101]⟩:ByteArray),(⟨#[115,101,116,110,117,108,108]⟩:ByteArray),(⟨#[99,111,117,110,116]⟩:ByteArray),(⟨#[115,117,109]⟩:ByteArray),(⟨#[109,105,110]⟩:ByteArray),(⟨#[109,97,120]⟩:ByteArray),(⟨#[116,114,117,101]⟩:ByteArray),(⟨#[102,97,108,115,101]⟩:ByteArray),(⟨#[97,110,100]⟩:ByteArray),(⟨#[111,114]⟩:ByteArray),(⟨#[110,111,116]⟩:ByteArray)].length:Int))) then
 ck (ib x4 [(⟨#[116,97,98,108,101]⟩:ByteArray),(⟨#[99,104,101,99,107]⟩:ByteArray),(⟨#[118,105,101,119]⟩:ByteArray),(⟨#[102,114,111,109]⟩:ByteArray),(⟨#[106,111,105,110]⟩:ByteArray),(⟨#[111,110]⟩:ByteArray),(⟨#[119,104,101,114,101]⟩:ByteArray),(⟨#[112,105,99,107]⟩:ByteArray),(⟨#[103,114,111,117,112]⟩:ByteArray),(⟨#[98,111,111,108]⟩:ByteArray),(⟨#[105,110,116]⟩:ByteArray),(⟨#[116,101,120,116]⟩:ByteArray),(⟨#[110,117,108,108]⟩:ByteArray),(⟨#[117,110,105,113,117,101]⟩:ByteArray),(⟨#[114,101,102]⟩:ByteArray),(⟨#[114,101,115,116,114,105,99,116]⟩:ByteArray),(⟨#[99,97,115,99,97,100,101]⟩:ByteArray),(⟨#[115,101,116,110,117,108,108]⟩:ByteArray),(⟨#[99,111,117,110,116]⟩:ByteArray),(⟨#[115,117,109]⟩:ByteArray),(⟨#[109,105,110]⟩:ByteArray),(⟨#[109,97,120]⟩:ByteArray),(⟨#[116,114,117,101]⟩:ByteArray),(⟨#[102,97,108,115,101]⟩:ByteArray),(⟨#[97,110,100]⟩:ByteArray),(⟨#[111,114]⟩:ByteArray),(⟨#[110,111,116]⟩:ByteArray)].length)<|
 let e1:ByteArray:=(List.getD [(⟨#[116,97,98,108,101]⟩:ByteArray),(⟨#[99,104,101,99,107]⟩:ByteArray),(⟨#[118,105,101,119]⟩:ByteArray),(⟨#[102,114,111,109]⟩:ByteArray),(⟨#[106,111,105,110]⟩:ByteArray),(⟨#[111,110]⟩:ByteArray),(⟨#[119,104,101,114,101]⟩:ByteArray),(⟨#[112,105,99,107]⟩:ByteArray),(⟨#[103,114,111,117,112]⟩:ByteArray),(⟨#[98,111,111,108]⟩:ByteArray),(⟨#[105,110,116]⟩:ByteArray),(⟨#[116,101,120,116]⟩:ByteArray),(⟨#[110,117,108,108]⟩:ByteArray),(⟨#[117,110,105,113,117,101]⟩:ByteArray),(⟨#[114,101,102]⟩:ByteArray),(⟨#[114,101,115,116,114,105,99,116]⟩:ByteArray),(⟨#[99,97,115,99,97,100,101]⟩:ByteArray),(⟨#[115,101,116,110,117,108,108]⟩:ByteArray),(⟨#[99,111,117,110,116]⟩:ByteArray),(⟨#[115,117,109]⟩:ByteArray),(⟨#[109,105,110]⟩:ByteArray),(⟨#[109,97,120]⟩:ByteArray),(⟨#[116,114,117,101]⟩:ByteArray),(⟨#[102,97,108,115,101]⟩:ByteArray),(⟨#[97,110,100]⟩:ByteArray),(⟨#[111,114]⟩:ByteArray),(⟨#[110,111,116]⟩:ByteArray)] (Int.toNat x4) (⟨#[]⟩:ByteArray))
 (bif (sq e1 p0) then
 ir (true,())
 else
 let e2:Int:=(wr (x4+(1:Int)))
 il (e2,()))
 else
 ir (false,()))) ((0:Int),())
noncomputable def dD.F:=stk dD.B
theorem dD.eq:dD.F=dD.B:=aq _
theorem dD.k:Kk bw.s [] [] Tryz.f212 dD.d dD.B:={}
noncomputable def dD.s:SpL:=dD.d.e [] dD.F::bw.s
theorem dD.c:Ck dD.s []:=cS bw.c dD.k
def fA.d:Fe:=⟨190,1,⟨[(0,.v false [.str])],[],[],0,[]⟩,⟨[(0,.v false [.bool])],[],[],1000,[]⟩,.n⟩
noncomputable def fA.B:ByteArray×Unit→Option (Bool×Unit):=fun (p0,_)=>
 (fm.F (p0,())).bind fun y1=>
 (bif y1.1 then
 (dD.F (p0,())).bind fun y2=>
 some ((!y2.1),())
 else
 some (false,()))
noncomputable def fA.F:=stk fA.B
theorem fA.eq:fA.F=fA.B:=aq _
theorem fA.k:Kk dD.s [] [] Tryz.f190 fA.d fA.B:={}
noncomputable def fA.s:SpL:=fA.d.e [] fA.F::dD.s
theorem fA.c:Ck fA.s []:=cS dD.c fA.k
def bO.d:Fe:=⟨151,1,⟨[(0,.v false [.ptr 0 0])],[(0,true,.box 163 [.sl 195 dI,.int .i64,.bool])],[],1,[]⟩,⟨[(0,.v false [.str])],[(0,true,.box 163 [.sl 195 dI,.int .i64,.bool])],[],1001,[(0,0)]⟩,.n⟩
noncomputable def bO.B:(List aU)×Int×Bool×Unit→Option (ByteArray×(List aU)×Int×Bool×Unit):=fun (o0_0,o0_1,o0_2,_)=>
 (bw.F (o0_0,o0_1,o0_2,())).bind fun y1=>
 (bif (y1.1 !=(0:Int)) then
 some (y1.2.1,y1.2.2.2.2.2.1,y1.2.2.2.2.2.2.1,false,())
 else
 (fA.F (y1.2.1,())).bind fun y2=>
 (bif (!y2.1) then
 some (y1.2.1,y1.2.2.2.2.2.1,y1.2.2.2.2.2.2.1,false,())
 else
 some (y1.2.1,y1.2.2.2.2.2.1,y1.2.2.2.2.2.2.1,y1.2.2.2.2.2.2.2.1,())))
noncomputable def bO.F:=stk bO.B
theorem bO.eq:bO.F=bO.B:=aq _
theorem bO.k:Kk fA.s [] [] Tryz.f151 bO.d bO.B:={}
noncomputable def bO.s:SpL:=bO.d.e [] bO.F::fA.s
theorem bO.c:Ck bO.s []:=cS fA.c bO.k
def bE.d:Fe:=⟨152,2,⟨[(0,.v false [.ptr 0 0]),(1,.v false [.str])],[(0,true,.box 163 [.sl 195 dI,.int .i64,.bool])],[],1,[]⟩,⟨[(0,.tup [])],[(0,true,.box 163 [.sl 195 dI,.int .i64,.bool])],[],1001,[(0,0)]⟩,.n⟩
noncomputable def bE.B:ByteArray×(List aU)×Int×Bool×Unit→Option ((List aU)×Int×Bool×Unit):=fun (p1,o0_0,o0_1,o0_2,_)=>
 (aN.F (p1,o0_0,o0_1,o0_2,())).bind fun y1=>
 (bif (!y1.1) then
 some (y1.2.1,y1.2.2.1,false,())
 else
 some (y1.2.1,y1.2.2.1,y1.2.2.2.1,()))
noncomputable def bE.F:=stk bE.B
theorem bE.eq:bE.F=bE.B:=aq _
theorem bE.k:Kk bO.s [] [] Tryz.f152 bE.d bE.B:={}
noncomputable def bE.s:SpL:=bE.d.e [] bE.F::bO.s
theorem bE.c:Ck bE.s []:=cS bO.c bE.k
def bG.d:Fe:=⟨153,1,⟨[(0,.v false [.ptr 0 0])],[(0,true,.box 163 [.sl 195 dI,.int .i64,.bool])],[],1,[]⟩,⟨[(0,.v true [.str,.int .i64,.bool,.bool,.str,.int .i64])],[(0,true,.box 163 [.sl 195 dI,.int .i64,.bool])],[],1001,[(0,0)]⟩,.n⟩
noncomputable def bG.B:(List aU)×Int×Bool×Unit→Option (ByteArray×Int×Bool×Bool×ByteArray×Int×(List aU)×Int×Bool×Unit):=fun (o0_0,o0_1,o0_2,_)=>
 (bO.F (o0_0,o0_1,o0_2,())).bind fun y1=>
 (ci.F ([(⟨#[98,111,111,108]⟩:ByteArray),(⟨#[105,110,116]⟩:ByteArray),(⟨#[116,101,120,116]⟩:ByteArray)],y1.2.1,y1.2.2.1,y1.2.2.2.1,())).bind fun y2=>
 let e3:Int:=(wr ((1:Int)+y2.1))
 (aN.F ((⟨#[110,117,108,108]⟩:ByteArray),y2.2.1,y2.2.2.1,y2.2.2.2.1,())).bind fun y4=>
 (aN.F ((⟨#[117,110,105,113,117,101]⟩:ByteArray),y4.2.1,y4.2.2.1,y4.2.2.2.1,())).bind fun y5=>
 (aN.F ((⟨#[114,101,102]⟩:ByteArray),y5.2.1,y5.2.2.1,y5.2.2.2.1,())).bind fun y6=>
 (bif y6.1 then
 (bO.F (y6.2.1,y6.2.2.1,y6.2.2.2.1,())).bind fun y7=>
 (ci.F ([(⟨#[114,101,115,116,114,105,99,116]⟩:ByteArray),(⟨#[99,97,115,99,97,100,101]⟩:ByteArray),(⟨#[115,101,116,110,117,108,108]⟩:ByteArray)],y7.2.1,y7.2.2.1,y7.2.2.2.1,())).bind fun y8=>
 some (y1.1,e3,y4.1,y5.1,y7.1,y8.1,y8.2.1,y8.2.2.1,y8.2.2.2.1,())
 else
 some (y1.1,e3,y4.1,y5.1,(⟨#[]⟩:ByteArray),(0:Int),y6.2.1,y6.2.2.1,y6.2.2.2.1,()))
noncomputable def bG.F:=stk bG.B
theorem bG.eq:bG.F=bG.B:=aq _
theorem bG.k:Kk bE.s [] [] Tryz.f153 bG.d bG.B:={}
noncomputable def bG.s:SpL:=bG.d.e [] bG.F::bE.s
theorem bG.c:Ck bG.s []:=cS bE.c bG.k
def cM.d:Fe:=⟨83,1,⟨[(0,.v false [.bool])],[],[],0,[]⟩,⟨[(0,.v true [.int .i64,.int .i64,.str])],[],[],1000,[]⟩,.n⟩
noncomputable def cM.B:Bool×Unit→Option (Int×Int×ByteArray×Unit):=fun (p0,_)=>
 (bif p0 then
 some ((1:Int),(1:Int),(⟨#[]⟩:ByteArray),())
 else
 some ((1:Int),(0:Int),(⟨#[]⟩:ByteArray),()))
noncomputable def cM.F:=stk cM.B
theorem cM.eq:cM.F=cM.B:=aq _
theorem cM.k:Kk bG.s [] [] Tryz.f83 cM.d cM.B:={}
noncomputable def cM.s:SpL:=cM.d.e [] cM.F::bG.s
theorem cM.c:Ck cM.s []:=cS bG.c cM.k
def cl.d:Fe:=⟨191,1,⟨[(0,.v false [.ptr 0 0])],[(0,true,.box 163 [.sl 195 dI,.int .i64,.bool])],[],1,[]⟩,⟨[(0,.v true [.int .i64,.int .i64,.int .i64,.int .i64,.str])],[(0,true,.box 163 [.sl 195 dI,.int .i64,.bool])],[],1001,[(0,0)]⟩,(.s none .n (.s none .n (.s none .n (.s none .n (.s none .n (.s (some ⟨[(0,.v false [.ptr 0 0])],[(0,true,.box 163 [.sl 195 dI,.int .i64,.bool])],[2],1,[]⟩) (.s none .n (.b (.l ⟨[(0,.v false [.ptr 0 0]),(4,.v false [.int .i64])],[(0,true,.box 163 [.sl 195 dI,.int .i64,.bool])],[2,3],1,[]⟩ .n))) (.s none .n (.s none .n (.s (some ⟨[],[],[0,2],0,[]⟩) (.s none .n (.b (.l ⟨[(6,.v false [.int .i64])],[],[0,2,5],0,[]⟩ .n))) .n)))))))))⟩
noncomputable def cl.B:(List aU)×Int×Bool×Unit→Option (Int×Int×Int×Int×ByteArray×(List aU)×Int×Bool×Unit):=fun (o0_0,o0_1,o0_2,_)=>
 (aN.F ((⟨#[110,117,108,108]⟩:ByteArray),o0_0,o0_1,o0_2,())).bind fun y1=>
 (bif y1.1 then
 (aN.F ((⟨#[63]⟩:ByteArray),y1.2.1,y1.2.2.1,y1.2.2.2.1,())).bind fun y2=>
 (bif y2.1 then
 some ((10:Int),(0:Int),(0:Int),(0:Int),(⟨#[]⟩:ByteArray),y2.2.1,y2.2.2.1,y2.2.2.2.1,())
 else
 some ((1:Int),(0:Int),(0:Int),(0:Int),(⟨#[]⟩:ByteArray),y2.2.1,y2.2.2.1,y2.2.2.2.1,()))
 else
 (aN.F ((⟨#[116,114,117,101]⟩:ByteArray),y1.2.1,y1.2.2.1,y1.2.2.2.1,())).bind fun y3=>
 (bif y3.1 then
 (cM.F (true,())).bind fun y4=>
 some ((1:Int),(0:Int),y4.1,y4.2.1,y4.2.2.1,y3.2.1,y3.2.2.1,y3.2.2.2.1,())
 else
 (aN.F ((⟨#[102,97,108,115,101]⟩:ByteArray),y3.2.1,y3.2.2.1,y3.2.2.2.1,())).bind fun y5=>
 (bif y5.1 then
 (cM.F (false,())).bind fun y6=>
 some ((1:Int),(0:Int),y6.1,y6.2.1,y6.2.2.1,y5.2.1,y5.2.2.1,y5.2.2.2.1,())
 else
 jn (S:=(List aU)×Int×Bool×Unit) (
 aK (S:=Int×(List aU)×Int×Bool×Unit) (fun (x4,o0_0_0,o0_0_1,o0_0_2,_)=>
 (bif (decide (x4<(8:Int))) then
 ck (ib x4 [(⟨#[43]⟩:ByteArray),(⟨#[45]⟩:ByteArray),(⟨#[42]⟩:ByteArray),(⟨#[61]⟩:ByteArray),(⟨#[60]⟩:ByteArray),(⟨#[97,110,100]⟩:ByteArray),(⟨#[111,114]⟩:ByteArray),(⟨#[110,111,116]⟩:ByteArray)].length)<|
 let e7:ByteArray:=(List.getD [(⟨#[43]⟩:ByteArray),(⟨#[45]⟩:ByteArray),(⟨#[42]⟩:ByteArray),(⟨#[61]⟩:ByteArray),(⟨#[60]⟩:ByteArray),(⟨#[97,110,100]⟩:ByteArray),(⟨#[111,114]⟩:ByteArray),(⟨#[110,111,116]⟩:ByteArray)] (Int.toNat x4) (⟨#[]⟩:ByteArray))
 (aN.F (e7,o0_0_0,o0_0_1,o0_0_2,())).bind fun y8=>
 (bif y8.1 then
 let e9:Int:=(wr ((2:Int)+x4))
 ir (.inr (e9,(0:Int),(0:Int),(0:Int),(⟨#[]⟩:ByteArray),y8.2.1,y8.2.2.1,y8.2.2.2.1,()))
 else
 let e10:Int:=(wr (x4+(1:Int)))
 il (e10,y8.2.1,y8.2.2.1,y8.2.2.2.1,()))
 else
 ir (.inl (o0_0_0,o0_0_1,o0_0_2,())))) ((0:Int),y5.2.1,y5.2.2.1,y5.2.2.2.1,())) fun (o0_0_0_11,o0_0_1_11,o0_0_2_11,_)=>
 (bw.F (o0_0_0_11,o0_0_1_11,o0_0_2_11,())).bind fun y12=>
 (bif (y12.1==(1:Int)) then
 some ((1:Int),(0:Int),y12.2.2.1,y12.2.2.2.1,y12.2.2.2.2.1,y12.2.2.2.2.2.1,y12.2.2.2.2.2.2.1,y12.2.2.2.2.2.2.2.1,())
 else
 jn (S:=Unit) (
 aK (S:=Int×Unit) (fun (x6,_)=>
 (bif (decide (x6<(100:Int))) then
 (bif (y12.1==(0:Int)) then
 (cX.F (x6,())).bind fun y13=>
 ck (ca (⟨#[99]⟩:ByteArray) y13.1)<|
 let e14:ByteArray:=((⟨#[99]⟩:ByteArray)++y13.1)
 (bif (sq y12.2.1 e14) then
 ir (.inr ((0:Int),x6,(0:Int),(0:Int),(⟨#[]⟩:ByteArray),y12.2.2.2.2.2.1,y12.2.2.2.2.2.2.1,y12.2.2.2.2.2.2.2.1,()))
 else
 let e15:Int:=(wr (x6+(1:Int)))
 il (e15,()))
 else
 let e16:Int:=(wr (x6+(1:Int)))
 il (e16,()))
 else
 ir (.inl (())))) ((0:Int),())) fun (_)=>
 some ((0:Int),(0:Int),(0:Int),(0:Int),(⟨#[]⟩:ByteArray),y12.2.2.2.2.2.1,y12.2.2.2.2.2.2.1,false,())))))
noncomputable def cl.F:=stk cl.B
theorem cl.eq:cl.F=cl.B:=aq _
theorem cl.k:Kk cM.s [] [] Tryz.f191 cl.d cl.B:={}
noncomputable def cl.s:SpL:=cl.d.e [] cl.F::cM.s
theorem cl.c:Ck cl.s []:=cS cM.c cl.k
def b7.d:Fe:=⟨154,1,⟨[(0,.v false [.ptr 0 0])],[(0,true,.box 163 [.sl 195 dI,.int .i64,.bool])],[],1,[]⟩,⟨[(0,.v false [.ref 1001])],[(0,true,.box 163 [.sl 195 dI,.int .i64,.bool]),(1001,false,.arr 126 bD)],[],1002,[(0,0)]⟩,(.s none .n (.s none .n (.s none .n (.s none (.b (.l ⟨[(0,.v false [.ptr 1 0]),(3,.v false [.ref 0])],[(0,false,.arr 126 bD),(1,true,.box 163 [.sl 195 dI,.int .i64,.bool])],[],2,[]⟩ .n)) .n))))⟩
noncomputable def b7.B:(List aU)×Int×Bool×Unit→Option ((List aU)×Int×Bool×(List ao)×Unit):=fun (o0_0,o0_1,o0_2,_)=>
 (bE.F ((⟨#[91]⟩:ByteArray),o0_0,o0_1,o0_2,())).bind fun y1=>
 aK (S:=(List ao)×(List aU)×Int×Bool×Unit) (fun (o3_0,o0_0_0,o0_0_1,o0_0_2,_)=>
 (bif o0_0_2 then
 (aN.F ((⟨#[93]⟩:ByteArray),o0_0_0,o0_0_1,o0_0_2,())).bind fun y2=>
 (bif (!y2.1) then
 (cl.F (y2.2.1,y2.2.2.1,y2.2.2.2.1,())).bind fun y3=>
 ck (Nat.ble (o3_0.length+ [(y3.1,(y3.2.1,(y3.2.2.1,(y3.2.2.2.1,y3.2.2.2.2.1))))].length) 2932031007402)<|
 (bif (decide (((o3_0++ [(y3.1,(y3.2.1,(y3.2.2.1,(y3.2.2.2.1,y3.2.2.2.2.1))))]).length:Int)>(100:Int))) then
 il ((o3_0++ [(y3.1,(y3.2.1,(y3.2.2.1,(y3.2.2.2.1,y3.2.2.2.2.1))))]),y3.2.2.2.2.2.1,y3.2.2.2.2.2.2.1,false,())
 else
 il ((o3_0++ [(y3.1,(y3.2.1,(y3.2.2.1,(y3.2.2.2.1,y3.2.2.2.2.1))))]),y3.2.2.2.2.2.1,y3.2.2.2.2.2.2.1,y3.2.2.2.2.2.2.2.1,()))
 else
 ir (y2.2.1,y2.2.2.1,y2.2.2.2.1,o3_0,()))
 else
 ir (o0_0_0,o0_0_1,o0_0_2,o3_0,()))) (([]:List ao),y1.1,y1.2.1,y1.2.2.1,())
noncomputable def b7.F:=stk b7.B
theorem b7.eq:b7.F=b7.B:=aq _
theorem b7.k:Kk cl.s [] [] Tryz.f154 b7.d b7.B:={}
noncomputable def b7.s:SpL:=b7.d.e [] b7.F::cl.s
theorem b7.c:Ck b7.s []:=cS cl.c b7.k
def bX.d:Fe:=⟨111,1,⟨[(0,.v false [.ptr 0 0])],[(0,true,.box 163 [.sl 195 dI,.int .i64,.bool])],[],1,[]⟩,⟨[(0,.v true [.str,.ref 1001,.ref 1002])],[(0,true,.box 163 [.sl 195 dI,.int .i64,.bool]),(1001,false,.arr 75 aX),(1002,false,.arr 78 (.sl 126 bD))],[],1003,[(0,0)]⟩,(.s none .n (.s none .n (.s none .n (.s none .n (.s (some ⟨[(0,.v false [.ptr 0 0]),(3,.v false [.ptr 1 0])],[(0,true,.box 163 [.sl 195 dI,.int .i64,.bool]),(1,true,.box 40 [.str,.ref 2,.ref 3]),(2,false,.arr 75 aX),(3,false,.arr 78 (.sl 126 bD))],[2],4,[]⟩) (.b (.l ⟨[(0,.v false [.ptr 0 0]),(3,.v false [.ptr 1 0])],[(0,true,.box 163 [.sl 195 dI,.int .i64,.bool]),(1,true,.box 40 [.str,.ref 2,.ref 3]),(2,false,.arr 75 aX),(3,false,.arr 78 (.sl 126 bD))],[2],4,[]⟩ .n)) (.s none .n (.s (some ⟨[(0,.v false [.ptr 0 0]),(3,.v false [.ptr 1 0])],[(0,true,.box 163 [.sl 195 dI,.int .i64,.bool]),(1,true,.box 40 [.str,.ref 2,.ref 3]),(2,false,.arr 75 aX),(3,false,.arr 78 (.sl 126 bD))],[2],4,[]⟩) (.b (.l ⟨[(0,.v false [.ptr 0 0]),(3,.v false [.ptr 1 0])],[(0,true,.box 163 [.sl 195 dI,.int .i64,.bool]),(1,true,.box 40 [.str,.ref 2,.ref 3]),(2,false,.arr 75 aX),(3,false,.arr 78 (.sl 126 bD))],[2],4,[]⟩ .n)) .n)))))))⟩
noncomputable def bX.B:(List aU)×Int×Bool×Unit→Option (ByteArray×(List aU)×Int×Bool×(List aC)×(List (List ao))×Unit):=fun (o0_0,o0_1,o0_2,_)=>
 (bO.F (o0_0,o0_1,o0_2,())).bind fun y1=>
 (bE.F ((⟨#[40]⟩:ByteArray),y1.2.1,y1.2.2.1,y1.2.2.2.1,())).bind fun y2=>
 (bG.F (y2.1,y2.2.1,y2.2.2.1,())).bind fun y3=>
 ck (Nat.ble [(y3.1,(y3.2.1,(y3.2.2.1,(y3.2.2.2.1,(y3.2.2.2.2.1,y3.2.2.2.2.2.1)))))].length 2513169434916)<|
 jn (S:=(List aU)×Int×Bool×ByteArray×(List aC)×(List (List ao))×Unit) (
 aK (S:=(List aU)×Int×Bool×ByteArray×(List aC)×(List (List ao))×Unit) (fun (o0_0_0,o0_0_1,o0_0_2,o3_0_0,o3_0_1,o3_0_2,_)=>
 (bif o0_0_2 then
 (aN.F ((⟨#[44]⟩:ByteArray),o0_0_0,o0_0_1,o0_0_2,())).bind fun y4=>
 (bif y4.1 then
 (bG.F (y4.2.1,y4.2.2.1,y4.2.2.2.1,())).bind fun y5=>
 ck (Nat.ble (o3_0_1.length+ [(y5.1,(y5.2.1,(y5.2.2.1,(y5.2.2.2.1,(y5.2.2.2.2.1,y5.2.2.2.2.2.1)))))].length) 2513169434916)<|
 il (y5.2.2.2.2.2.2.1,y5.2.2.2.2.2.2.2.1,y5.2.2.2.2.2.2.2.2.1,o3_0_0,(o3_0_1++ [(y5.1,(y5.2.1,(y5.2.2.1,(y5.2.2.2.1,(y5.2.2.2.2.1,y5.2.2.2.2.2.1)))))]),o3_0_2,())
 else
 ir (.inl (y4.2.1,y4.2.2.1,y4.2.2.2.1,o3_0_0,o3_0_1,o3_0_2,())))
 else
 ir (.inl (o0_0_0,o0_0_1,o0_0_2,o3_0_0,o3_0_1,o3_0_2,())))) (y3.2.2.2.2.2.2.1,y3.2.2.2.2.2.2.2.1,y3.2.2.2.2.2.2.2.2.1,y1.1,[(y3.1,(y3.2.1,(y3.2.2.1,(y3.2.2.2.1,(y3.2.2.2.2.1,y3.2.2.2.2.2.1)))))],[],())) fun (o0_0_0_6,o0_0_1_6,o0_0_2_6,o3_0_0_6,o3_0_1_6,o3_0_2_6,_)=>
 (bE.F ((⟨#[41]⟩:ByteArray),o0_0_0_6,o0_0_1_6,o0_0_2_6,())).bind fun y7=>
 jn (S:=(List aU)×Int×Bool×ByteArray×(List aC)×(List (List ao))×Unit) (
 aK (S:=(List aU)×Int×Bool×ByteArray×(List aC)×(List (List ao))×Unit) (fun (o0_0_0,o0_0_1,o0_0_2,o3_0_0,o3_0_1,o3_0_2,_)=>
 (bif o0_0_2 then
 (aN.F ((⟨#[99,104,101,99,107]⟩:ByteArray),o0_0_0,o0_0_1,o0_0_2,())).bind fun y8=>
 (bif y8.1 then
 (b7.F (y8.2.1,y8.2.2.1,y8.2.2.2.1,())).bind fun y9=>
 ck (Nat.ble (o3_0_2.length+ [y9.2.2.2.1].length) 5864062014805)<|
 il (y9.1,y9.2.1,y9.2.2.1,o3_0_0,o3_0_1,(o3_0_2++ [y9.2.2.2.1]),())
 else
 ir (.inl (y8.2.1,y8.2.2.1,y8.2.2.2.1,o3_0_0,o3_0_1,o3_0_2,())))
 else
 ir (.inl (o0_0_0,o0_0_1,o0_0_2,o3_0_0,o3_0_1,o3_0_2,())))) (y7.1,y7.2.1,y7.2.2.1,o3_0_0_6,o3_0_1_6,o3_0_2_6,())) fun (o0_0_0_10,o0_0_1_10,o0_0_2_10,o3_0_0_10,o3_0_1_10,o3_0_2_10,_)=>
 (bif (decide ((o3_0_1_10.length:Int)>(40:Int))) then
 some (o3_0_0_10,o0_0_0_10,o0_0_1_10,false,o3_0_1_10,o3_0_2_10,())
 else
 (bif (decide ((o3_0_2_10.length:Int)>(40:Int))) then
 some (o3_0_0_10,o0_0_0_10,o0_0_1_10,false,o3_0_1_10,o3_0_2_10,())
 else
 some (o3_0_0_10,o0_0_0_10,o0_0_1_10,o0_0_2_10,o3_0_1_10,o3_0_2_10,())))
noncomputable def bX.F:=stk bX.B
theorem bX.eq:bX.F=bX.B:=aq _
theorem bX.k:Kk b7.s [] [] Tryz.f111 bX.d bX.B:={}
noncomputable def bX.s:SpL:=bX.d.e [] bX.F::b7.s
theorem bX.c:Ck bX.s []:=cS b7.c bX.k
def ce.d:Fe:=⟨155,1,⟨[(0,.v false [.ptr 0 0])],[(0,true,.box 163 [.sl 195 dI,.int .i64,.bool])],[],1,[]⟩,⟨[(0,.v false [.int .i64])],[(0,true,.box 163 [.sl 195 dI,.int .i64,.bool])],[],1001,[(0,0)]⟩,(.s none .n (.s none .n (.s none (.s (some ⟨[(26,.v false [.bool])],[],[0,3],0,[]⟩) .n .n) .n)))⟩
noncomputable def ce.B:(List aU)×Int×Bool×Unit→Option (Int×(List aU)×Int×Bool×Unit):=fun (o0_0,o0_1,o0_2,_)=>
 (bw.F (o0_0,o0_1,o0_2,())).bind fun y1=>
 jn (S:=Bool×Unit) (
 (bif (y1.1 !=(1:Int)) then
 il (true,())
 else
 (bif (y1.2.2.1 !=(2:Int)) then
 il (true,())
 else
 (bif (decide (y1.2.2.2.1<(0:Int))) then
 il (true,())
 else
 il ((decide (y1.2.2.2.1>(99:Int))),()))))) fun (x26_2,_)=>
 (bif x26_2 then
 some (y1.2.2.2.1,y1.2.2.2.2.2.1,y1.2.2.2.2.2.2.1,false,())
 else
 some (y1.2.2.2.1,y1.2.2.2.2.2.1,y1.2.2.2.2.2.2.1,y1.2.2.2.2.2.2.2.1,()))
noncomputable def ce.F:=stk ce.B
theorem ce.eq:ce.F=ce.B:=aq _
theorem ce.k:Kk bX.s [] [] Tryz.f155 ce.d ce.B:={}
noncomputable def ce.s:SpL:=ce.d.e [] ce.F::bX.s
theorem ce.c:Ck ce.s []:=cS bX.c ce.k
def ct.d:Fe:=⟨157,1,⟨[(0,.v false [.ptr 0 0])],[(0,true,.box 163 [.sl 195 dI,.int .i64,.bool])],[],1,[]⟩,⟨[(0,.v true [.int .i64,.int .i64])],[(0,true,.box 163 [.sl 195 dI,.int .i64,.bool])],[],1001,[(0,0)]⟩,.n⟩
noncomputable def ct.B:(List aU)×Int×Bool×Unit→Option (Int×Int×(List aU)×Int×Bool×Unit):=fun (o0_0,o0_1,o0_2,_)=>
 (ci.F ([(⟨#[99,111,117,110,116]⟩:ByteArray),(⟨#[115,117,109]⟩:ByteArray),(⟨#[109,105,110]⟩:ByteArray),(⟨#[109,97,120]⟩:ByteArray)],o0_0,o0_1,o0_2,())).bind fun y1=>
 (bif (y1.1 !=(0:Int)) then
 (ce.F (y1.2.1,y1.2.2.1,y1.2.2.2.1,())).bind fun y2=>
 some (y1.1,y2.1,y2.2.1,y2.2.2.1,y2.2.2.2.1,())
 else
 some (y1.1,(0:Int),y1.2.1,y1.2.2.1,y1.2.2.2.1,()))
noncomputable def ct.F:=stk ct.B
theorem ct.eq:ct.F=ct.B:=aq _
theorem ct.k:Kk ce.s [] [] Tryz.f157 ct.d ct.B:={}
noncomputable def ct.s:SpL:=ct.d.e [] ct.F::ce.s
theorem ct.c:Ck ct.s []:=cS ce.c ct.k
def cn.d:Fe:=⟨112,1,⟨[(0,.v false [.ptr 0 0])],[(0,true,.box 163 [.sl 195 dI,.int .i64,.bool])],[],1,[]⟩,⟨[(0,.v true [.str,.str,.str,.int .i64,.int .i64,.ref 1001,.ref 1002,.bool,.ref 1003])],[(0,true,.box 163 [.sl 195 dI,.int .i64,.bool]),(1001,false,.arr 126 bD),(1002,false,.arr 3 (.int .i64)),(1003,false,.arr 156 dW)],[],1004,[(0,0)]⟩,(.s none .n (.s none .n (.s none .n (.s none .n (.s (some ⟨[(0,.v false [.ptr 0 0]),(3,.v false [.ptr 1 0])],[(0,true,.box 163 [.sl 195 dI,.int .i64,.bool]),(1,true,.box 82 [.str,.str,.str,.int .i64,.int .i64,.ref 2,.ref 3,.bool,.ref 4]),(2,false,.arr 126 bD),(3,false,.arr 3 (.int .i64)),(4,false,.arr 156 dW)],[2],5,[]⟩) .n (.s (some ⟨[(0,.v false [.ptr 0 0]),(3,.v false [.ptr 1 0])],[(0,true,.box 163 [.sl 195 dI,.int .i64,.bool]),(1,true,.box 82 [.str,.str,.str,.int .i64,.int .i64,.ref 2,.ref 3,.bool,.ref 4]),(2,false,.arr 126 bD),(3,false,.arr 3 (.int .i64)),(4,false,.arr 156 dW)],[2],5,[]⟩) .n (.s none .n (.s (some ⟨[(0,.v false [.ptr 0 0]),(3,.v false [.ptr 1 0])],[(0,true,.box 163 [.sl 195 dI,.int .i64,.bool]),(1,true,.box 82 [.str,.str,.str,.int .i64,.int .i64,.ref 2,.ref 3,.bool,.ref 4]),(2,false,.arr 126 bD),(3,false,.arr 3 (.int .i64)),(4,false,.arr 156 dW)],[2],5,[]⟩) (.s (some ⟨[(0,.v false [.ptr 0 0]),(52,.v false [.bool])],[(0,true,.box 163 [.sl 195 dI,.int .i64,.bool])],[2,3],1,[]⟩) .n (.c (.s none .n (.b (.l ⟨[(0,.v false [.ptr 0 0]),(3,.v false [.ptr 1 0])],[(0,true,.box 163 [.sl 195 dI,.int .i64,.bool]),(1,true,.box 82 [.str,.str,.str,.int .i64,.int .i64,.ref 2,.ref 3,.bool,.ref 4]),(2,false,.arr 126 bD),(3,false,.arr 3 (.int .i64)),(4,false,.arr 156 dW)],[2],5,[]⟩ .n))) .n)) (.s none .n (.s (some ⟨[(0,.v false [.ptr 0 0]),(3,.v false [.ptr 1 0])],[(0,true,.box 163 [.sl 195 dI,.int .i64,.bool]),(1,true,.box 82 [.str,.str,.str,.int .i64,.int .i64,.ref 2,.ref 3,.bool,.ref 4]),(2,false,.arr 126 bD),(3,false,.arr 3 (.int .i64)),(4,false,.arr 156 dW)],[2],5,[]⟩) (.s (some ⟨[(91,.v false [.bool])],[],[0,2,3],0,[]⟩) .n (.c (.s none .n (.b (.l ⟨[(0,.v false [.ptr 0 0]),(3,.v false [.ptr 1 0])],[(0,true,.box 163 [.sl 195 dI,.int .i64,.bool]),(1,true,.box 82 [.str,.str,.str,.int .i64,.int .i64,.ref 2,.ref 3,.bool,.ref 4]),(2,false,.arr 126 bD),(3,false,.arr 3 (.int .i64)),(4,false,.arr 156 dW)],[2],5,[]⟩ .n))) .n)) .n))))))))))⟩
noncomputable def cn.B:(List aU)×Int×Bool×Unit→Option (ByteArray×ByteArray×ByteArray×Int×Int×Bool×(List aU)×Int×Bool×(List ao)×(List Int)×(List cH)×Unit):=fun (o0_0,o0_1,o0_2,_)=>
 (bO.F (o0_0,o0_1,o0_2,())).bind fun y1=>
 (bE.F ((⟨#[102,114,111,109]⟩:ByteArray),y1.2.1,y1.2.2.1,y1.2.2.2.1,())).bind fun y2=>
 (bO.F (y2.1,y2.2.1,y2.2.2.1,())).bind fun y3=>
 jn (S:=(List aU)×Int×Bool×ByteArray×ByteArray×ByteArray×Int×Int×Bool×(List ao)×(List Int)×(List cH)×Unit) (
 (aN.F ((⟨#[106,111,105,110]⟩:ByteArray),y3.2.1,y3.2.2.1,y3.2.2.2.1,())).bind fun y4=>
 (bif y4.1 then
 (bO.F (y4.2.1,y4.2.2.1,y4.2.2.2.1,())).bind fun y5=>
 (bE.F ((⟨#[111,110]⟩:ByteArray),y5.2.1,y5.2.2.1,y5.2.2.2.1,())).bind fun y6=>
 (ce.F (y6.1,y6.2.1,y6.2.2.1,())).bind fun y7=>
 (bE.F ((⟨#[61]⟩:ByteArray),y7.2.1,y7.2.2.1,y7.2.2.2.1,())).bind fun y8=>
 (ce.F (y8.1,y8.2.1,y8.2.2.1,())).bind fun y9=>
 il (y9.2.1,y9.2.2.1,y9.2.2.2.1,y1.1,y3.1,y5.1,y7.1,y9.1,false,[],[],[],())
 else
 il (y4.2.1,y4.2.2.1,y4.2.2.2.1,y1.1,y3.1,(⟨#[]⟩:ByteArray),(0:Int),(0:Int),false,[],[],[],()))) fun (o0_0_0_10,o0_0_1_10,o0_0_2_10,o3_0_0_10,o3_0_1_10,o3_0_2_10,o3_0_3_10,o3_0_4_10,o3_0_7_10,o3_0_5_10,o3_0_6_10,o3_0_8_10,_)=>
 jn (S:=(List aU)×Int×Bool×ByteArray×ByteArray×ByteArray×Int×Int×Bool×(List ao)×(List Int)×(List cH)×Unit) (
 (aN.F ((⟨#[119,104,101,114,101]⟩:ByteArray),o0_0_0_10,o0_0_1_10,o0_0_2_10,())).bind fun y11=>
 (bif y11.1 then
 (b7.F (y11.2.1,y11.2.2.1,y11.2.2.2.1,())).bind fun y12=>
 il (y12.1,y12.2.1,y12.2.2.1,o3_0_0_10,o3_0_1_10,o3_0_2_10,o3_0_3_10,o3_0_4_10,o3_0_7_10,y12.2.2.2.1,o3_0_6_10,o3_0_8_10,())
 else
 il (y11.2.1,y11.2.2.1,y11.2.2.2.1,o3_0_0_10,o3_0_1_10,o3_0_2_10,o3_0_3_10,o3_0_4_10,o3_0_7_10,o3_0_5_10,o3_0_6_10,o3_0_8_10,()))) fun (o0_0_0_13,o0_0_1_13,o0_0_2_13,o3_0_0_13,o3_0_1_13,o3_0_2_13,o3_0_3_13,o3_0_4_13,o3_0_7_13,o3_0_5_13,o3_0_6_13,o3_0_8_13,_)=>
 (bE.F ((⟨#[112,105,99,107]⟩:ByteArray),o0_0_0_13,o0_0_1_13,o0_0_2_13,())).bind fun y14=>
 jn (S:=(List aU)×Int×Bool×ByteArray×ByteArray×ByteArray×Int×Int×Bool×(List ao)×(List Int)×(List cH)×Unit) (
 jn (S:=Bool×(List aU)×Int×Bool×Unit) (
 (bif (decide (y14.2.1<(y14.1.length:Int))) then
 (cE.F ((⟨#[103,114,111,117,112]⟩:ByteArray),y14.1,y14.2.1,y14.2.2.1,())).bind fun y15=>
 il ((!y15.1),y15.2.1,y15.2.2.1,y15.2.2.2.1,())
 else
 il (false,y14.1,y14.2.1,y14.2.2.1,()))) fun (x52_16,o0_0_0_16,o0_0_1_16,o0_0_2_16,_)=>
 (bif x52_16 then
 (ce.F (o0_0_0_16,o0_0_1_16,o0_0_2_16,())).bind fun y17=>
 ck (Nat.ble (o3_0_6_13.length+ [y17.1].length) 17592186044416)<|
 aK (S:=(List aU)×Int×Bool×ByteArray×ByteArray×ByteArray×Int×Int×Bool×(List ao)×(List Int)×(List cH)×Unit) (fun (o0_0_0,o0_0_1,o0_0_2,o3_0_0,o3_0_1,o3_0_2,o3_0_3,o3_0_4,o3_0_7,o3_0_5,o3_0_6,o3_0_8,_)=>
 (bif o0_0_2 then
 (aN.F ((⟨#[44]⟩:ByteArray),o0_0_0,o0_0_1,o0_0_2,())).bind fun y18=>
 (bif y18.1 then
 (ce.F (y18.2.1,y18.2.2.1,y18.2.2.2.1,())).bind fun y19=>
 ck (Nat.ble (o3_0_6.length+ [y19.1].length) 17592186044416)<|
 il (y19.2.1,y19.2.2.1,y19.2.2.2.1,o3_0_0,o3_0_1,o3_0_2,o3_0_3,o3_0_4,o3_0_7,o3_0_5,(o3_0_6++ [y19.1]),o3_0_8,())
 else
 ir (.inl (y18.2.1,y18.2.2.1,y18.2.2.2.1,o3_0_0,o3_0_1,o3_0_2,o3_0_3,o3_0_4,o3_0_7,o3_0_5,o3_0_6,o3_0_8,())))
 else
 ir (.inl (o0_0_0,o0_0_1,o0_0_2,o3_0_0,o3_0_1,o3_0_2,o3_0_3,o3_0_4,o3_0_7,o3_0_5,o3_0_6,o3_0_8,())))) (y17.2.1,y17.2.2.1,y17.2.2.2.1,o3_0_0_13,o3_0_1_13,o3_0_2_13,o3_0_3_13,o3_0_4_13,o3_0_7_13,o3_0_5_13,(o3_0_6_13++ [y17.1]),o3_0_8_13,())
 else
 il (o0_0_0_16,o0_0_1_16,o0_0_2_16,o3_0_0_13,o3_0_1_13,o3_0_2_13,o3_0_3_13,o3_0_4_13,o3_0_7_13,o3_0_5_13,o3_0_6_13,o3_0_8_13,()))) fun (o0_0_0_20,o0_0_1_20,o0_0_2_20,o3_0_0_20,o3_0_1_20,o3_0_2_20,o3_0_3_20,o3_0_4_20,o3_0_7_20,o3_0_5_20,o3_0_6_20,o3_0_8_20,_)=>
 (aN.F ((⟨#[103,114,111,117,112]⟩:ByteArray),o0_0_0_20,o0_0_1_20,o0_0_2_20,())).bind fun y21=>
 jn (S:=(List aU)×Int×Bool×ByteArray×ByteArray×ByteArray×Int×Int×Bool×(List ao)×(List Int)×(List cH)×Unit) (
 jn (S:=Bool×Unit) (
 (bif y21.1 then
 il ((decide (y21.2.2.1<(y21.2.1.length:Int))),())
 else
 il (false,()))) fun (x91_22,_)=>
 (bif x91_22 then
 (ct.F (y21.2.1,y21.2.2.1,y21.2.2.2.1,())).bind fun y23=>
 ck (Nat.ble (o3_0_8_20.length+ [(y23.1,y23.2.1)].length) 8796093022208)<|
 aK (S:=(List aU)×Int×Bool×ByteArray×ByteArray×ByteArray×Int×Int×Bool×(List ao)×(List Int)×(List cH)×Unit) (fun (o0_0_0,o0_0_1,o0_0_2,o3_0_0,o3_0_1,o3_0_2,o3_0_3,o3_0_4,o3_0_7,o3_0_5,o3_0_6,o3_0_8,_)=>
 (bif o0_0_2 then
 (aN.F ((⟨#[44]⟩:ByteArray),o0_0_0,o0_0_1,o0_0_2,())).bind fun y24=>
 (bif y24.1 then
 (ct.F (y24.2.1,y24.2.2.1,y24.2.2.2.1,())).bind fun y25=>
 ck (Nat.ble (o3_0_8.length+ [(y25.1,y25.2.1)].length) 8796093022208)<|
 il (y25.2.2.1,y25.2.2.2.1,y25.2.2.2.2.1,o3_0_0,o3_0_1,o3_0_2,o3_0_3,o3_0_4,o3_0_7,o3_0_5,o3_0_6,(o3_0_8++ [(y25.1,y25.2.1)]),())
 else
 ir (.inl (y24.2.1,y24.2.2.1,y24.2.2.2.1,o3_0_0,o3_0_1,o3_0_2,o3_0_3,o3_0_4,o3_0_7,o3_0_5,o3_0_6,o3_0_8,())))
 else
 ir (.inl (o0_0_0,o0_0_1,o0_0_2,o3_0_0,o3_0_1,o3_0_2,o3_0_3,o3_0_4,o3_0_7,o3_0_5,o3_0_6,o3_0_8,())))) (y23.2.2.1,y23.2.2.2.1,y23.2.2.2.2.1,o3_0_0_20,o3_0_1_20,o3_0_2_20,o3_0_3_20,o3_0_4_20,y21.1,o3_0_5_20,o3_0_6_20,(o3_0_8_20++ [(y23.1,y23.2.1)]),())
 else
 il (y21.2.1,y21.2.2.1,y21.2.2.2.1,o3_0_0_20,o3_0_1_20,o3_0_2_20,o3_0_3_20,o3_0_4_20,y21.1,o3_0_5_20,o3_0_6_20,o3_0_8_20,()))) fun (o0_0_0_26,o0_0_1_26,o0_0_2_26,o3_0_0_26,o3_0_1_26,o3_0_2_26,o3_0_3_26,o3_0_4_26,o3_0_7_26,o3_0_5_26,o3_0_6_26,o3_0_8_26,_)=>
 (bif (decide ((o3_0_6_26.length:Int)>(40:Int))) then
 some (o3_0_0_26,o3_0_1_26,o3_0_2_26,o3_0_3_26,o3_0_4_26,o3_0_7_26,o0_0_0_26,o0_0_1_26,false,o3_0_5_26,o3_0_6_26,o3_0_8_26,())
 else
 (bif (decide ((o3_0_8_26.length:Int)>(40:Int))) then
 some (o3_0_0_26,o3_0_1_26,o3_0_2_26,o3_0_3_26,o3_0_4_26,o3_0_7_26,o0_0_0_26,o0_0_1_26,false,o3_0_5_26,o3_0_6_26,o3_0_8_26,())
 else
 some (o3_0_0_26,o3_0_1_26,o3_0_2_26,o3_0_3_26,o3_0_4_26,o3_0_7_26,o0_0_0_26,o0_0_1_26,o0_0_2_26,o3_0_5_26,o3_0_6_26,o3_0_8_26,())))
noncomputable def cn.F:=stk cn.B
theorem cn.eq:cn.F=cn.B:=aq _
theorem cn.k:Kk ct.s [] [] Tryz.f112 cn.d cn.B:={}
noncomputable def cn.s:SpL:=cn.d.e [] cn.F::ct.s
theorem cn.c:Ck cn.s []:=cS ct.c cn.k
def eF.d:Fe:=⟨74,1,⟨[(0,.v false [.str])],[],[],0,[]⟩,⟨[(0,.tup [(true,[.int .i64,.str,.ref 1000,.ref 1001,.str,.str,.str,.int .i64,.int .i64,.ref 1002,.ref 1003,.bool,.ref 1004]),(false,[.int .i64])])],[(1000,false,.arr 75 aX),(1001,false,.arr 78 (.sl 126 bD)),(1002,false,.arr 126 bD),(1003,false,.arr 3 (.int .i64)),(1004,false,.arr 156 dW)],[],1005,[]⟩,(.s none .n (.s none .n (.s none .n (.s none .n (.s none .n (.s (some ⟨[(6,.v false [.ptr 0 0]),(7,.v false [.ptr 1 0])],[(0,true,.box 163 [.sl 195 dI,.int .i64,.bool]),(1,true,.box 84 [.int .i64,.str,.ref 2,.ref 3,.str,.str,.str,.int .i64,.int .i64,.ref 4,.ref 5,.bool,.ref 6]),(2,false,.arr 75 aX),(3,false,.arr 78 (.sl 126 bD)),(4,false,.arr 126 bD),(5,false,.arr 3 (.int .i64)),(6,false,.arr 156 dW)],[2,4],7,[]⟩) (.s (some ⟨[(32,.v false [.bool])],[],[2,4,6,7],0,[]⟩) .n .n) .n))))))⟩
noncomputable def eF.B:ByteArray×Unit→Option (Int×ByteArray×ByteArray×ByteArray×ByteArray×Int×Int×Bool×Int×(List aC)×(List (List ao))×(List ao)×(List Int)×(List cH)×Unit):=fun (p0,_)=>
 (fW.F (p0,())).bind fun y1=>
 (bif (y1.1 !=(0:Int)) then
 some ((0:Int),(⟨#[]⟩:ByteArray),(⟨#[]⟩:ByteArray),(⟨#[]⟩:ByteArray),(⟨#[]⟩:ByteArray),(0:Int),(0:Int),false,y1.1,[],[],[],[],[],())
 else
 (ci.F ([(⟨#[116,97,98,108,101]⟩:ByteArray),(⟨#[118,105,101,119]⟩:ByteArray)],y1.2.1,(0:Int),true,())).bind fun y2=>
 jn (S:=(List aU)×Int×Bool×Int×ByteArray×ByteArray×ByteArray×ByteArray×Int×Int×Bool×(List aC)×(List (List ao))×(List ao)×(List Int)×(List cH)×Unit) (
 jn (S:=Bool×Unit) (
 (bif y2.2.2.2.1 then
 il ((y2.1==(0:Int)),())
 else
 il (false,()))) fun (x32_3,_)=>
 (bif x32_3 then
 (bX.F (y2.2.1,y2.2.2.1,y2.2.2.2.1,())).bind fun y4=>
 il (y4.2.1,y4.2.2.1,y4.2.2.2.1,y2.1,y4.1,(⟨#[]⟩:ByteArray),(⟨#[]⟩:ByteArray),(⟨#[]⟩:ByteArray),(0:Int),(0:Int),false,y4.2.2.2.2.1,y4.2.2.2.2.2.1,[],[],[],())
 else
 (bif y2.2.2.2.1 then
 (cn.F (y2.2.1,y2.2.2.1,y2.2.2.2.1,())).bind fun y5=>
 il (y5.2.2.2.2.2.2.1,y5.2.2.2.2.2.2.2.1,y5.2.2.2.2.2.2.2.2.1,y2.1,(⟨#[]⟩:ByteArray),y5.1,y5.2.1,y5.2.2.1,y5.2.2.2.1,y5.2.2.2.2.1,y5.2.2.2.2.2.1,[],[],y5.2.2.2.2.2.2.2.2.2.1,y5.2.2.2.2.2.2.2.2.2.2.1,y5.2.2.2.2.2.2.2.2.2.2.2.1,())
 else
 il (y2.2.1,y2.2.2.1,y2.2.2.2.1,y2.1,(⟨#[]⟩:ByteArray),(⟨#[]⟩:ByteArray),(⟨#[]⟩:ByteArray),(⟨#[]⟩:ByteArray),(0:Int),(0:Int),false,[],[],[],[],[],())))) fun (o6_0_0_6,o6_0_1_6,o6_0_2_6,o7_0_0_6,o7_0_1_6,o7_0_4_6,o7_0_5_6,o7_0_6_6,o7_0_7_6,o7_0_8_6,o7_0_11_6,o7_0_2_6,o7_0_3_6,o7_0_9_6,o7_0_10_6,o7_0_12_6,_)=>
 (bif (!o6_0_2_6) then
 some ((0:Int),(⟨#[]⟩:ByteArray),(⟨#[]⟩:ByteArray),(⟨#[]⟩:ByteArray),(⟨#[]⟩:ByteArray),(0:Int),(0:Int),false,(70:Int),[],[],[],[],[],())
 else
 (bif (decide (o6_0_1_6<(y1.2.1.length:Int))) then
 some ((0:Int),(⟨#[]⟩:ByteArray),(⟨#[]⟩:ByteArray),(⟨#[]⟩:ByteArray),(⟨#[]⟩:ByteArray),(0:Int),(0:Int),false,(70:Int),[],[],[],[],[],())
 else
 some (o7_0_0_6,o7_0_1_6,o7_0_4_6,o7_0_5_6,o7_0_6_6,o7_0_7_6,o7_0_8_6,o7_0_11_6,(0:Int),o7_0_2_6,o7_0_3_6,o7_0_9_6,o7_0_10_6,o7_0_12_6,()))))
noncomputable def eF.F:=stk eF.B
theorem eF.eq:eF.F=eF.B:=aq _
theorem eF.k:Kk cn.s [] [] Tryz.f74 eF.d eF.B:={}
noncomputable def eF.s:SpL:=eF.d.e [] eF.F::cn.s
theorem eF.c:Ck eF.s []:=cS cn.c eF.k
def fo.d:Fe:=⟨158,2,⟨[(0,.v false [.sl 126 bD]),(1,.v false [.sl 126 bD])],[],[],0,[]⟩,⟨[(0,.v false [.bool])],[],[],1000,[]⟩,(.s none .n (.s none .n (.s none (.s none .n (.b (.l ⟨[(5,.v false [.int .i64])],[],[0,1],0,[]⟩ .n))) .n)))⟩
noncomputable def fo.B:(List ao)×(List ao)×Unit→Option (Bool×Unit):=fun (p0,p1,_)=>
 (bif ((p0.length:Int) !=(p1.length:Int)) then
 some (false,())
 else
 aK (S:=Int×Unit) (fun (x5,_)=>
 (bif (decide (x5<(p0.length:Int))) then
 ck (ib x5 p0.length)<|
 let e1:ao:=(gt p0 x5 bD.z)
 ck (ib x5 p1.length)<|
 let e2:ao:=(gt p1 x5 bD.z)
 (bif (!(Ty.eq bD e1 e2)) then
 ir (false,())
 else
 let e3:Int:=(wr (x5+(1:Int)))
 il (e3,()))
 else
 ir (true,()))) ((0:Int),()))
noncomputable def fo.F:=stk fo.B
theorem fo.eq:fo.F=fo.B:=aq _
theorem fo.k:Kk eF.s [] [] Tryz.f158 fo.d fo.B:={}
noncomputable def fo.s:SpL:=fo.d.e [] fo.F::eF.s
theorem fo.c:Ck fo.s []:=cS eF.c fo.k
def cK.d:Fe:=⟨113,2,⟨[(0,.v true [.str,.sl 75 aX,.sl 78 (.sl 126 bD)]),(1,.v true [.str,.sl 75 aX,.sl 78 (.sl 126 bD)])],[],[],0,[]⟩,⟨[(0,.v false [.bool])],[],[],1000,[]⟩,(.s none .n (.s (some ⟨[],[],[2,3],0,[]⟩) .n (.s (some ⟨[],[],[2,3],0,[]⟩) (.s none .n (.b (.l ⟨[(5,.v false [.int .i64])],[],[2,3],0,[]⟩ .n))) (.s none (.s none .n (.b (.l ⟨[(6,.v false [.int .i64])],[],[2,3],0,[]⟩ .n))) .n))))⟩
noncomputable def cK.B:ByteArray×(List aC)×(List (List ao))×ByteArray×(List aC)×(List (List ao))×Unit→Option (Bool×Unit):=fun (p0_0,p0_1,p0_2,p1_0,p1_1,p1_2,_)=>
 jn (S:=Unit) (
 (bif (!sq p0_0 p1_0) then
 ir (false,())
 else
 (bif ((p0_1.length:Int) !=(p1_1.length:Int)) then
 ir (false,())
 else
 (bif ((p0_2.length:Int) !=(p1_2.length:Int)) then
 ir (false,())
 else
 il (()))))) fun (_)=>
 jn (S:=Unit) (
 aK (S:=Int×Unit) (fun (x5,_)=>
 (bif (decide (x5<(p0_1.length:Int))) then
 ck (ib x5 p0_1.length)<|
 let e2:aC:=(gt p0_1 x5 aX.z)
 ck (ib x5 p1_1.length)<|
 let e3:aC:=(gt p1_1 x5 aX.z)
 (bif (!(Ty.eq aX e2 e3)) then
 ir (.inr (false,()))
 else
 let e4:Int:=(wr (x5+(1:Int)))
 il (e4,()))
 else
 ir (.inl (())))) ((0:Int),())) fun (_)=>
 aK (S:=Int×Unit) (fun (x6,_)=>
 (bif (decide (x6<(p0_2.length:Int))) then
 ck (ib x6 p0_2.length)<|
 let e6:(List ao):=(gt p0_2 x6 [])
 ck (ib x6 p1_2.length)<|
 let e7:(List ao):=(gt p1_2 x6 [])
 (fo.F (e6,e7,())).bind fun y8=>
 (bif (!y8.1) then
 ir (false,())
 else
 let e9:Int:=(wr (x6+(1:Int)))
 il (e9,()))
 else
 ir (true,()))) ((0:Int),())
noncomputable def cK.F:=stk cK.B
theorem cK.eq:cK.F=cK.B:=aq _
theorem cK.k:Kk fo.s [] [] Tryz.f113 cK.d cK.B:={}
noncomputable def cK.s:SpL:=cK.d.e [] cK.F::fo.s
theorem cK.c:Ck cK.s []:=cS fo.c cK.k
def fM.d:Fe:=⟨159,2,⟨[(0,.v false [.sl 3 (.int .i64)]),(1,.v false [.sl 3 (.int .i64)])],[],[],0,[]⟩,⟨[(0,.v false [.bool])],[],[],1000,[]⟩,(.s none .n (.s none .n (.s none (.s none .n (.b (.l ⟨[(5,.v false [.int .i64])],[],[0,1],0,[]⟩ .n))) .n)))⟩
noncomputable def fM.B:(List Int)×(List Int)×Unit→Option (Bool×Unit):=fun (p0,p1,_)=>
 (bif ((p0.length:Int) !=(p1.length:Int)) then
 some (false,())
 else
 aK (S:=Int×Unit) (fun (x5,_)=>
 (bif (decide (x5<(p0.length:Int))) then
 ck (ib x5 p0.length)<|
 let e1:Int:=(gt p0 x5 (0:Int))
 ck (ib x5 p1.length)<|
 let e2:Int:=(gt p1 x5 (0:Int))
 (bif (e1 !=e2) then
 ir (false,())
 else
 let e3:Int:=(wr (x5+(1:Int)))
 il (e3,()))
 else
 ir (true,()))) ((0:Int),()))
noncomputable def fM.F:=stk fM.B
theorem fM.eq:fM.F=fM.B:=aq _
theorem fM.k:Kk cK.s [] [] Tryz.f159 fM.d fM.B:={}
noncomputable def fM.s:SpL:=fM.d.e [] fM.F::cK.s
theorem fM.c:Ck fM.s []:=cS cK.c fM.k
def dh.d:Fe:=⟨114,2,⟨[(0,.v true [.str,.str,.str,.int .i64,.int .i64,.sl 126 bD,.sl 3 (.int .i64),.bool,.sl 156 dW]),(1,.v true [.str,.str,.str,.int .i64,.int .i64,.sl 126 bD,.sl 3 (.int .i64),.bool,.sl 156 dW])],[],[],0,[]⟩,⟨[(0,.v false [.bool])],[],[],1000,[]⟩,(.s none .n (.s none (.s (some ⟨[(63,.v false [.bool])],[],[2,3],0,[]⟩) .n .n) (.s none (.s none .n (.b (.l ⟨[(5,.v false [.int .i64])],[],[2,3],0,[]⟩ .n))) .n)))⟩
noncomputable def dh.B:ByteArray×ByteArray×ByteArray×Int×Int×(List ao)×(List Int)×Bool×(List cH)×ByteArray×ByteArray×ByteArray×Int×Int×(List ao)×(List Int)×Bool×(List cH)×Unit→Option (Bool×Unit):=fun (p0_0,p0_1,p0_2,p0_3,p0_4,p0_5,p0_6,p0_7,p0_8,p1_0,p1_1,p1_2,p1_3,p1_4,p1_5,p1_6,p1_7,p1_8,_)=>
 jn (S:=Bool×Unit) (
 (bif (!sq p0_0 p1_0) then
 il (true,())
 else
 (bif (!sq p0_1 p1_1) then
 il (true,())
 else
 (bif (!sq p0_2 p1_2) then
 il (true,())
 else
 (bif (!(Ty.eq dW (p0_3,p0_4) (p1_3,p1_4))) then
 il (true,())
 else
 (fo.F (p0_5,p1_5,())).bind fun y1=>
 (bif (!y1.1) then
 il (true,())
 else
 (fM.F (p0_6,p1_6,())).bind fun y2=>
 (bif (!y2.1) then
 il (true,())
 else
 (bif (!(p0_7==p1_7)) then
 il (true,())
 else
 il (((p0_8.length:Int) !=(p1_8.length:Int)),()))))))))) fun (x63_3,_)=>
 (bif x63_3 then
 some (false,())
 else
 aK (S:=Int×Unit) (fun (x5,_)=>
 (bif (decide (x5<(p0_8.length:Int))) then
 ck (ib x5 p0_8.length)<|
 let e4:cH:=(gt p0_8 x5 dW.z)
 ck (ib x5 p1_8.length)<|
 let e5:cH:=(gt p1_8 x5 dW.z)
 (bif (!(Ty.eq dW e4 e5)) then
 ir (false,())
 else
 let e6:Int:=(wr (x5+(1:Int)))
 il (e6,()))
 else
 ir (true,()))) ((0:Int),()))
noncomputable def dh.F:=stk dh.B
theorem dh.eq:dh.F=dh.B:=aq _
theorem dh.k:Kk fM.s [] [] Tryz.f114 dh.d dh.B:={}
noncomputable def dh.s:SpL:=dh.d.e [] dh.F::fM.s
theorem dh.c:Ck dh.s []:=cS fM.c dh.k
def fB.d:Fe:=⟨75,2,⟨[(0,.v true [.int .i64,.str,.sl 75 aX,.sl 78 (.sl 126 bD),.str,.str,.str,.int .i64,.int .i64,.sl 126 bD,.sl 3 (.int .i64),.bool,.sl 156 dW]),(1,.v true [.int .i64,.str,.sl 75 aX,.sl 78 (.sl 126 bD),.str,.str,.str,.int .i64,.int .i64,.sl 126 bD,.sl 3 (.int .i64),.bool,.sl 156 dW])],[],[],0,[]⟩,⟨[(0,.v false [.bool])],[],[],1000,[]⟩,.n⟩
noncomputable def fB.B:Int×ByteArray×(List aC)×(List (List ao))×ByteArray×ByteArray×ByteArray×Int×Int×(List ao)×(List Int)×Bool×(List cH)×Int×ByteArray×(List aC)×(List (List ao))×ByteArray×ByteArray×ByteArray×Int×Int×(List ao)×(List Int)×Bool×(List cH)×Unit→Option (Bool×Unit):=fun (p0_0,p0_1,p0_2,p0_3,p0_4,p0_5,p0_6,p0_7,p0_8,p0_9,p0_10,p0_11,p0_12,p1_0,p1_1,p1_2,p1_3,p1_4,p1_5,p1_6,p1_7,p1_8,p1_9,p1_10,p1_11,p1_12,_)=>
 (bif (p0_0==p1_0) then
 (cK.F (p0_1,p0_2,p0_3,p1_1,p1_2,p1_3,())).bind fun y1=>
 (bif y1.1 then
 (dh.F (p0_4,p0_5,p0_6,p0_7,p0_8,p0_9,p0_10,p0_11,p0_12,p1_4,p1_5,p1_6,p1_7,p1_8,p1_9,p1_10,p1_11,p1_12,())).bind fun y2=>
 some (y2.1,())
 else
 some (false,()))
 else
 some (false,()))
noncomputable def fB.F:=stk fB.B
theorem fB.eq:fB.F=fB.B:=aq _
theorem fB.k:Kk dh.s [] [] Tryz.f75 fB.d fB.B:={}
noncomputable def fB.s:SpL:=fB.d.e [] fB.F::dh.s
theorem fB.c:Ck fB.s []:=cS dh.c fB.k
def eG.d:Fe:=⟨39,1,⟨[(0,.v true [.int .i64,.str,.sl 75 aX,.sl 78 (.sl 126 bD),.str,.str,.str,.int .i64,.int .i64,.sl 126 bD,.sl 3 (.int .i64),.bool,.sl 156 dW])],[],[],0,[]⟩,⟨[(0,.v false [.str])],[],[],1000,[]⟩,(.s none .n (.s none .n (.s (some ⟨[(3,.v false [.str])],[],[1],0,[]⟩) .n .n)))⟩
noncomputable def eG.B:Int×ByteArray×(List aC)×(List (List ao))×ByteArray×ByteArray×ByteArray×Int×Int×(List ao)×(List Int)×Bool×(List cH)×Unit→Option (ByteArray×Unit):=fun (p0_0,p0_1,p0_2,p0_3,p0_4,p0_5,p0_6,p0_7,p0_8,p0_9,p0_10,p0_11,p0_12,_)=>
 (dg.F (p0_4,p0_5,p0_6,p0_7,p0_8,p0_9,p0_10,p0_11,p0_12,())).bind fun y1=>
 jn (S:=ByteArray×Unit) (
 (bif (p0_0==(0:Int)) then
 (cJ.F (p0_1,p0_2,p0_3,())).bind fun y2=>
 il (y2.1,())
 else
 il (y1.1,()))) fun (x3_3,_)=>
 (bif (decide ((x3_3.size:Int)>(20000:Int))) then
 some ((⟨#[]⟩:ByteArray),())
 else
 (eF.F (x3_3,())).bind fun y4=>
 (bif (y4.2.2.2.2.2.2.2.2.1 !=(0:Int)) then
 some ((⟨#[]⟩:ByteArray),())
 else
 (fB.F (p0_0,p0_1,p0_2,p0_3,p0_4,p0_5,p0_6,p0_7,p0_8,p0_9,p0_10,p0_11,p0_12,y4.1,y4.2.1,y4.2.2.2.2.2.2.2.2.2.1,y4.2.2.2.2.2.2.2.2.2.2.1,y4.2.2.1,y4.2.2.2.1,y4.2.2.2.2.1,y4.2.2.2.2.2.1,y4.2.2.2.2.2.2.1,y4.2.2.2.2.2.2.2.2.2.2.2.1,y4.2.2.2.2.2.2.2.2.2.2.2.2.1,y4.2.2.2.2.2.2.2.1,y4.2.2.2.2.2.2.2.2.2.2.2.2.2.1,())).bind fun y5=>
 (bif (!y5.1) then
 some ((⟨#[]⟩:ByteArray),())
 else
 some (x3_3,()))))
noncomputable def eG.F:=stk eG.B
theorem eG.eq:eG.F=eG.B:=aq _
theorem eG.k:Kk fB.s [] [] Tryz.f39 eG.d eG.B:={}
noncomputable def eG.s:SpL:=eG.d.e [] eG.F::fB.s
theorem eG.c:Ck eG.s []:=cS fB.c eG.k
def gA.d:Fe:=⟨10,1,⟨[(0,.v false [.sl 84 gv])],[],[],0,[]⟩,⟨[(0,.v false [.bool])],[],[],1000,[]⟩,(.s none .n (.s none .n (.s (some ⟨[(3,.v false [.int .i64])],[],[0],0,[]⟩) (.s none .n (.b (.l ⟨[(3,.v false [.int .i64]),(4,.v false [.int .i64])],[],[0],0,[]⟩ (.s none .n (.s none (.b (.s (some ⟨[],[],[0,3,4],0,[]⟩) .n .n)) .n))))) (.s none .n (.s (some ⟨[(5,.v false [.int .i64])],[],[0,3],0,[]⟩) (.s none .n (.b (.l ⟨[(5,.v false [.int .i64]),(6,.v false [.int .i64])],[],[0,3],0,[]⟩ .n))) .n)))))⟩
noncomputable def gA.B:(List bx)×Unit→Option (Bool×Unit):=fun (p0,_)=>
 jn (S:=Int×Unit) (
 aK (S:=Int×Int×Unit) (fun (x3,x4,_)=>
 (bif (decide (x4<(p0.length:Int))) then
 jn (S:=Unit) (
 ck (ib x4 p0.length)<|
 let e1:bx:=(gt p0 x4 gv.z)
 (gF.F (e1.1,e1.2.1.1,e1.2.1.2.1,e1.2.1.2.2,e1.2.2.1,e1.2.2.2.1,e1.2.2.2.2.1,e1.2.2.2.2.2.1.1,e1.2.2.2.2.2.1.2,e1.2.2.2.2.2.2.1,e1.2.2.2.2.2.2.2.1,e1.2.2.2.2.2.2.2.2.1,e1.2.2.2.2.2.2.2.2.2,())).bind fun y2=>
 (bif y2.1 then
 ir (.inr (.inr (true,())))
 else
 ck (ib x4 p0.length)<|
 let e3:bx:=(gt p0 x4 gv.z)
 (eG.F (e3.1,e3.2.1.1,e3.2.1.2.1,e3.2.1.2.2,e3.2.2.1,e3.2.2.2.1,e3.2.2.2.2.1,e3.2.2.2.2.2.1.1,e3.2.2.2.2.2.1.2,e3.2.2.2.2.2.2.1,e3.2.2.2.2.2.2.2.1,e3.2.2.2.2.2.2.2.2.1,e3.2.2.2.2.2.2.2.2.2,())).bind fun y4=>
 (bif (decide ((y4.1.size:Int)>(2000:Int))) then
 ir (.inr (.inr (true,())))
 else
 il (())))) fun (_)=>
 ck (ib x4 p0.length)<|
 let e6:bx:=(gt p0 x4 gv.z)
 ck (ib x4 p0.length)<|
 let e7:bx:=(gt p0 x4 gv.z)
 let e8:Int:=(wr ((e6.2.1.2.1.length:Int)+(e7.2.2.2.2.2.2.2.1.length:Int)))
 let e9:Int:=(wr (x3+e8))
 let e10:Int:=(wr (x4+(1:Int)))
 il (e9,e10,())
 else
 ir (.inl (x3,())))) ((0:Int),(0:Int),())) fun (x3_11,_)=>
 jn (S:=Int×Unit) (
 aK (S:=Int×Int×Unit) (fun (x5,x6,_)=>
 (bif (decide (x6<(p0.length:Int))) then
 ck (ib x6 p0.length)<|
 let e12:bx:=(gt p0 x6 gv.z)
 (bif (!sq e12.2.2.2.2.1 (⟨#[]⟩:ByteArray)) then
 let e13:Int:=(wr (x5+(1:Int)))
 let e14:Int:=(wr (x6+(1:Int)))
 il (e13,e14,())
 else
 let e15:Int:=(wr (x6+(1:Int)))
 il (x5,e15,()))
 else
 ir (.inl (x5,())))) ((0:Int),(0:Int),())) fun (x5_16,_)=>
 (bif (decide ((p0.length:Int)>(22:Int))) then
 some (true,())
 else
 (bif (decide (x3_11>(200:Int))) then
 some (true,())
 else
 some ((decide (x5_16>(6:Int))),())))
noncomputable def gA.F:=stk gA.B
theorem gA.eq:gA.F=gA.B:=aq _
theorem gA.k:Kk eG.s [] [] Tryz.f10 gA.d gA.B:={}
noncomputable def gA.s:SpL:=gA.d.e [] gA.F::eG.s
theorem gA.c:Ck gA.s []:=cS eG.c gA.k
def ft.d:Fe:=⟨115,1,⟨[(0,.v false [.sl 47 bh])],[],[],0,[]⟩,⟨[(0,.v false [.bool])],[],[],1000,[]⟩,(.s none .n (.s (some ⟨[],[],[0],0,[]⟩) (.s none .n (.b (.l ⟨[(3,.v false [.int .i64])],[],[0],0,[]⟩ .n))) .n))⟩
noncomputable def ft.B:(List ax)×Unit→Option (Bool×Unit):=fun (p0,_)=>
 jn (S:=Unit) (
 aK (S:=Int×Unit) (fun (x3,_)=>
 (bif (decide (x3<(p0.length:Int))) then
 ck (ib x3 p0.length)<|
 let e1:ax:=(gt p0 x3 bh.z)
 (bif (decide ((e1.2.2.size:Int)>(1000:Int))) then
 ir (.inr (false,()))
 else
 let e2:Int:=(wr (x3+(1:Int)))
 il (e2,()))
 else
 ir (.inl (())))) ((0:Int),())) fun (_)=>
 some ((decide ((p0.length:Int)≤(40:Int))),())
noncomputable def ft.F:=stk ft.B
theorem ft.eq:ft.F=ft.B:=aq _
theorem ft.k:Kk gA.s [] [] Tryz.f115 ft.d ft.B:={}
noncomputable def ft.s:SpL:=ft.d.e [] ft.F::gA.s
theorem ft.c:Ck ft.s []:=cS gA.c ft.k
def fu.d:Fe:=⟨76,1,⟨[(0,.v false [.sl 62 dq])],[],[],0,[]⟩,⟨[(0,.v false [.bool])],[],[],1000,[]⟩,(.s none .n (.s (some ⟨[],[],[0],0,[]⟩) (.s none .n (.b (.l ⟨[(3,.v false [.int .i64])],[],[0],0,[]⟩ .n))) .n))⟩
noncomputable def fu.B:(List bj)×Unit→Option (Bool×Unit):=fun (p0,_)=>
 jn (S:=Unit) (
 aK (S:=Int×Unit) (fun (x3,_)=>
 (bif (decide (x3<(p0.length:Int))) then
 ck (ib x3 p0.length)<|
 let e1:bj:=(gt p0 x3 dq.z)
 (ft.F (e1.1,())).bind fun y2=>
 (bif (!y2.1) then
 ir (.inr (false,()))
 else
 let e3:Int:=(wr (x3+(1:Int)))
 il (e3,()))
 else
 ir (.inl (())))) ((0:Int),())) fun (_)=>
 some ((decide ((p0.length:Int)≤(60:Int))),())
noncomputable def fu.F:=stk fu.B
theorem fu.eq:fu.F=fu.B:=aq _
theorem fu.k:Kk ft.s [] [] Tryz.f76 fu.d fu.B:={}
noncomputable def fu.s:SpL:=fu.d.e [] fu.F::ft.s
theorem fu.c:Ck fu.s []:=cS ft.c fu.k
def gG.d:Fe:=⟨40,1,⟨[(0,.v false [.sl 62 dq])],[],[],0,[]⟩,⟨[(0,.v false [.bool])],[],[],1000,[]⟩,(.s none .n (.s (some ⟨[],[],[0],0,[]⟩) (.s none .n (.b (.l ⟨[(3,.v false [.int .i64])],[],[0],0,[]⟩ .n))) .n))⟩
noncomputable def gG.B:(List bj)×Unit→Option (Bool×Unit):=fun (p0,_)=>
 jn (S:=Unit) (
 aK (S:=Int×Unit) (fun (x3,_)=>
 (bif (decide (x3<(p0.length:Int))) then
 ck (ib x3 p0.length)<|
 let e1:bj:=(gt p0 x3 dq.z)
 (bif (decide (e1.2>(1000:Int))) then
 ir (.inr (false,()))
 else
 ck (ib x3 p0.length)<|
 let e2:bj:=(gt p0 x3 dq.z)
 (bif (decide (e2.2<(-1000:Int))) then
 ir (.inr (false,()))
 else
 let e3:Int:=(wr (x3+(1:Int)))
 il (e3,())))
 else
 ir (.inl (())))) ((0:Int),())) fun (_)=>
 (fu.F (p0,())).bind fun y5=>
 some (y5.1,())
noncomputable def gG.F:=stk gG.B
theorem gG.eq:gG.F=gG.B:=aq _
theorem gG.k:Kk fu.s [] [] Tryz.f40 gG.d gG.B:={}
noncomputable def gG.s:SpL:=gG.d.e [] gG.F::fu.s
theorem gG.c:Ck gG.s []:=cS fu.c gG.k
def ff.d:Fe:=⟨11,1,⟨[(0,.v false [.sl 44 dS])],[],[],0,[]⟩,⟨[(0,.v false [.bool])],[],[],1000,[]⟩,(.s none .n (.s (some ⟨[],[],[0],0,[]⟩) (.s none .n (.b (.l ⟨[(3,.v false [.int .i64])],[],[0],0,[]⟩ .n))) .n))⟩
noncomputable def ff.B:(List bC)×Unit→Option (Bool×Unit):=fun (p0,_)=>
 jn (S:=Unit) (
 aK (S:=Int×Unit) (fun (x3,_)=>
 (bif (decide (x3<(p0.length:Int))) then
 ck (ib x3 p0.length)<|
 let e1:bC:=(gt p0 x3 dS.z)
 (bif (decide ((e1.2.length:Int)>(12:Int))) then
 ir (.inr (false,()))
 else
 ck (ib x3 p0.length)<|
 let e2:bC:=(gt p0 x3 dS.z)
 (gG.F (e2.2,())).bind fun y3=>
 (bif (!y3.1) then
 ir (.inr (false,()))
 else
 let e4:Int:=(wr (x3+(1:Int)))
 il (e4,())))
 else
 ir (.inl (())))) ((0:Int),())) fun (_)=>
 some ((decide ((p0.length:Int)≤(6:Int))),())
noncomputable def ff.F:=stk ff.B
theorem ff.eq:ff.F=ff.B:=aq _
theorem ff.k:Kk gG.s [] [] Tryz.f11 ff.d ff.B:={}
noncomputable def ff.s:SpL:=ff.d.e [] ff.F::gG.s
theorem ff.c:Ck ff.s []:=cS gG.c ff.k
def fP.d:Fe:=⟨87,1,⟨[(0,.v true [.int .i64,.str,.sl 75 aX,.sl 78 (.sl 126 bD),.str,.str,.str,.int .i64,.int .i64,.sl 126 bD,.sl 3 (.int .i64),.bool,.sl 156 dW])],[],[],0,[]⟩,⟨[(0,.v false [.str])],[],[],1000,[]⟩,.n⟩
noncomputable def fP.B:Int×ByteArray×(List aC)×(List (List ao))×ByteArray×ByteArray×ByteArray×Int×Int×(List ao)×(List Int)×Bool×(List cH)×Unit→Option (ByteArray×Unit):=fun (p0_0,p0_1,p0_2,p0_3,p0_4,p0_5,p0_6,p0_7,p0_8,p0_9,p0_10,p0_11,p0_12,_)=>
 (bif (p0_0==(0:Int)) then
 some (p0_1,())
 else
 some (p0_4,()))
noncomputable def fP.F:=stk fP.B
theorem fP.eq:fP.F=fP.B:=aq _
theorem fP.k:Kk ff.s [] [] Tryz.f87 fP.d fP.B:={}
noncomputable def fP.s:SpL:=fP.d.e [] fP.F::ff.s
theorem fP.c:Ck fP.s []:=cS ff.c fP.k
def eK.d:Fe:=⟨46,2,⟨[(0,.v false [.sl 84 gv]),(1,.v false [.str])],[],[],0,[]⟩,⟨[(0,.v false [.int .i64])],[],[],1000,[]⟩,(.s none .n (.s none (.s none .n (.b (.l ⟨[(5,.v false [.int .i64])],[],[0,1],0,[]⟩ .n))) .n))⟩
noncomputable def eK.B:(List bx)×ByteArray×Unit→Option (Int×Unit):=fun (p0,p1,_)=>
 aK (S:=Int×Unit) (fun (x5,_)=>
 (bif (decide (x5<(p0.length:Int))) then
 ck (ib x5 p0.length)<|
 let e1:bx:=(gt p0 x5 gv.z)
 (fP.F (e1.1,e1.2.1.1,e1.2.1.2.1,e1.2.1.2.2,e1.2.2.1,e1.2.2.2.1,e1.2.2.2.2.1,e1.2.2.2.2.2.1.1,e1.2.2.2.2.2.1.2,e1.2.2.2.2.2.2.1,e1.2.2.2.2.2.2.2.1,e1.2.2.2.2.2.2.2.2.1,e1.2.2.2.2.2.2.2.2.2,())).bind fun y2=>
 (bif (sq y2.1 p1) then
 ir (x5,())
 else
 let e3:Int:=(wr (x5+(1:Int)))
 il (e3,()))
 else
 ir ((-1:Int),()))) ((0:Int),())
noncomputable def eK.F:=stk eK.B
theorem eK.eq:eK.F=eK.B:=aq _
theorem eK.k:Kk fP.s [] [] Tryz.f46 eK.d eK.B:={}
noncomputable def eK.s:SpL:=eK.d.e [] eK.F::fP.s
theorem eK.c:Ck eK.s []:=cS fP.c eK.k
def bV.d:Fe:=⟨127,1,⟨[(0,.v true [.str,.sl 75 aX,.sl 78 (.sl 126 bD)])],[],[],0,[]⟩,⟨[(0,.tup [(false,[.ref 1000]),(false,[.ref 1001])])],[(1000,false,.arr 3 (.int .i64)),(1001,false,.arr 4 .bool)],[],1002,[]⟩,(.s none .n (.s none .n (.s none (.s none .n (.b (.l ⟨[(4,.v false [.ref 0]),(5,.v false [.ref 1]),(6,.v false [.int .i64])],[(0,false,.arr 3 (.int .i64)),(1,false,.arr 4 .bool)],[1],2,[]⟩ .n))) .n)))⟩
noncomputable def bV.B:ByteArray×(List aC)×(List (List ao))×Unit→Option ((List Int)×(List Bool)×Unit):=fun (p0_0,p0_1,p0_2,_)=>
 aK (S:=Int×(List Int)×(List Bool)×Unit) (fun (x6,o4_0,o5_0,_)=>
 (bif (decide (x6<(p0_1.length:Int))) then
 ck (ib x6 p0_1.length)<|
 let e1:aC:=(gt p0_1 x6 aX.z)
 ck (Nat.ble (o4_0.length+ [e1.2.1].length) 17592186044416)<|
 ck (ib x6 p0_1.length)<|
 let e2:aC:=(gt p0_1 x6 aX.z)
 ck (Nat.ble (o5_0.length+ [e2.2.2.1].length) 140737488355328)<|
 let e3:Int:=(wr (x6+(1:Int)))
 il (e3,(o4_0++ [e1.2.1]),(o5_0++ [e2.2.2.1]),())
 else
 ir (o4_0,o5_0,()))) ((0:Int),([]:List Int),([]:List Bool),())
noncomputable def bV.F:=stk bV.B
theorem bV.eq:bV.F=bV.B:=aq _
theorem bV.k:Kk eK.s [] [] Tryz.f127 bV.d bV.B:={}
noncomputable def bV.s:SpL:=bV.d.e [] bV.F::eK.s
theorem bV.c:Ck bV.s []:=cS eK.c bV.k
def bq.d:Fe:=⟨169,2,⟨[(0,.v false [.sl 84 gv]),(1,.v true [.str,.str,.str,.int .i64,.int .i64,.sl 126 bD,.sl 3 (.int .i64),.bool,.sl 156 dW])],[],[],0,[]⟩,⟨[(0,.v false [.ref 1000])],[(1000,false,.arr 3 (.int .i64))],[],1001,[]⟩,.n⟩
def cA.d:Fe:=⟨170,2,⟨[(0,.v false [.sl 84 gv]),(1,.v true [.int .i64,.str,.sl 75 aX,.sl 78 (.sl 126 bD),.str,.str,.str,.int .i64,.int .i64,.sl 126 bD,.sl 3 (.int .i64),.bool,.sl 156 dW])],[],[],0,[]⟩,⟨[(0,.tup [(false,[.ref 1000]),(false,[.ref 1001])])],[(1000,false,.arr 3 (.int .i64)),(1001,false,.arr 4 .bool)],[],1002,[]⟩,(.s none .n (.s none .n (.s none .n (.s none .n (.s (some ⟨[(7,.v false [.ref 0]),(8,.v false [.ref 1])],[(0,false,.arr 3 (.int .i64)),(1,false,.arr 4 .bool)],[3,6],2,[]⟩) (.s none .n (.b (.l ⟨[(7,.v false [.ref 0]),(8,.v false [.ref 1]),(9,.v false [.int .i64])],[(0,false,.arr 3 (.int .i64)),(1,false,.arr 4 .bool)],[3,6],2,[]⟩ .n))) (.s none (.s none .n (.b (.l ⟨[(7,.v false [.ref 0]),(8,.v false [.ref 1]),(10,.v false [.int .i64])],[(0,false,.arr 3 (.int .i64)),(1,false,.arr 4 .bool)],[3,6],2,[]⟩ .n))) .n))))))⟩
noncomputable def cA.b (f:TS bq.d.si→Option (TS bq.d.so)):(List bx)×Int×ByteArray×(List aC)×(List (List ao))×ByteArray×ByteArray×ByteArray×Int×Int×(List ao)×(List Int)×Bool×(List cH)×Unit→Option ((List Int)×(List Bool)×Unit):=fun (p0,p1_0,p1_1,p1_2,p1_3,p1_4,p1_5,p1_6,p1_7,p1_8,p1_9,p1_10,p1_11,p1_12,_)=>
 (bif (p1_0==(0:Int)) then
 (bV.F (p1_1,p1_2,p1_3,())).bind fun y1=>
 some (y1.1,y1.2.1,())
 else
 (f (p0,p1_4,p1_5,p1_6,p1_7,p1_8,p1_9,p1_10,p1_11,p1_12,())).bind fun y2=>
 jn (S:=(List Int)×(List Bool)×Unit) (
 aK (S:=Int×(List Int)×(List Bool)×Unit) (fun (x9,o7_0,o8_0,_)=>
 (bif (decide (x9<(p1_10.length:Int))) then
 ck (ib x9 p1_10.length)<|
 let e3:Int:=(gt p1_10 x9 (0:Int))
 ck (ib e3 y2.1.length)<|
 let e4:Int:=(List.getD y2.1 (Int.toNat e3) (0:Int))
 ck (Nat.ble (o7_0.length+ [e4].length) 17592186044416)<|
 ck (Nat.ble (o8_0.length+ [true].length) 140737488355328)<|
 let e5:Int:=(wr (x9+(1:Int)))
 il (e5,(o7_0++ [e4]),(o8_0++ [true]),())
 else
 ir (.inl (o7_0,o8_0,())))) ((0:Int),([]:List Int),([]:List Bool),())) fun (o7_0_6,o8_0_6,_)=>
 aK (S:=Int×(List Int)×(List Bool)×Unit) (fun (x10,o7_0,o8_0,_)=>
 (bif (decide (x10<(p1_12.length:Int))) then
 ck (ib x10 p1_12.length)<|
 let e7:cH:=(gt p1_12 x10 dW.z)
 (bif (decide (e7.1≥(2:Int))) then
 ck (ib e7.2 y2.1.length)<|
 let e8:Int:=(List.getD y2.1 (Int.toNat e7.2) (0:Int))
 ck (Nat.ble (o7_0.length+ [e8].length) 17592186044416)<|
 ck (Nat.ble (o8_0.length+ [true].length) 140737488355328)<|
 let e9:Int:=(wr (x10+(1:Int)))
 il (e9,(o7_0++ [e8]),(o8_0++ [true]),())
 else
 ck (Nat.ble (o7_0.length+ [(2:Int)].length) 17592186044416)<|
 ck (Nat.ble (o8_0.length+ [true].length) 140737488355328)<|
 let e10:Int:=(wr (x10+(1:Int)))
 il (e10,(o7_0++ [(2:Int)]),(o8_0++ [true]),()))
 else
 ir (o7_0,o8_0,()))) ((0:Int),o7_0_6,o8_0_6,()))
theorem cA.k (f:TS bq.d.si→Option (TS bq.d.so)):Fk PP (cx (bq.d.e [] f::bV.s) []) [] Tryz.f170 cA.d (cA.b f):={}
theorem cA.en:Lv.kZ PP 170:=⟨_,Tryz.func170,by kernel_rfl,by decide⟩
noncomputable def bq.b (f:TS cA.d.si→Option (TS cA.d.so)):(List bx)×ByteArray×ByteArray×ByteArray×Int×Int×(List ao)×(List Int)×Bool×(List cH)×Unit→Option ((List Int)×Unit):=fun (p0,p1_0,p1_1,p1_2,p1_3,p1_4,p1_5,p1_6,p1_7,p1_8,_)=>
 (eK.F (p0,p1_1,())).bind fun y1=>
 ck (ib y1.1 p0.length)<|
 let e2:bx:=(gt p0 y1.1 gv.z)
 (f (p0,e2.1,e2.2.1.1,e2.2.1.2.1,e2.2.1.2.2,e2.2.2.1,e2.2.2.2.1,e2.2.2.2.2.1,e2.2.2.2.2.2.1.1,e2.2.2.2.2.2.1.2,e2.2.2.2.2.2.2.1,e2.2.2.2.2.2.2.2.1,e2.2.2.2.2.2.2.2.2.1,e2.2.2.2.2.2.2.2.2.2,())).bind fun y3=>
 (bif (sq p1_2 (⟨#[]⟩:ByteArray)) then
 some (y3.1,())
 else
 (eK.F (p0,p1_2,())).bind fun y4=>
 ck (ib y4.1 p0.length)<|
 let e5:bx:=(gt p0 y4.1 gv.z)
 (f (p0,e5.1,e5.2.1.1,e5.2.1.2.1,e5.2.1.2.2,e5.2.2.1,e5.2.2.2.1,e5.2.2.2.2.1,e5.2.2.2.2.2.1.1,e5.2.2.2.2.2.1.2,e5.2.2.2.2.2.2.1,e5.2.2.2.2.2.2.2.1,e5.2.2.2.2.2.2.2.2.1,e5.2.2.2.2.2.2.2.2.2,())).bind fun y6=>
 ck (Nat.ble (([]:List Int).length+y3.1.length) 17592186044416)<|
 ck (Nat.ble ((([]:List Int)++y3.1).length+y6.1.length) 17592186044416)<|
 some (((([]:List Int)++y3.1)++y6.1),()))
theorem bq.k (f:TS cA.d.si→Option (TS cA.d.so)):Fk PP (cx (cA.d.e [] f::bV.s) []) [] Tryz.f169 bq.d (bq.b f):={}
theorem bq.en:Lv.kZ PP 169:=⟨_,Tryz.func169,by kernel_rfl,by decide⟩
theorem cA.step (f:TS bq.d.si→Option (TS bq.d.so)) (hf:bq.d.ok PP f):cA.d.ok PP (cA.b f):=(cA.k f).okF (gK.consS bV.c [] bq.en hf) mixed
theorem bq.step (f:TS cA.d.si→Option (TS cA.d.so)) (hf:cA.d.ok PP f):bq.d.ok PP (bq.b f):=(bq.k f).okF (gK.consS bV.c [] cA.en hf) mixed
noncomputable def cA.r:Nat→TS cA.d.si→Option (TS cA.d.so)
 |0=>fun _=>none
 |n+1=>cA.b (bq.b (cA.r n))
theorem cA.r_ok:∀n,cA.d.ok PP (cA.r n)
 |0=>fun _ _ h=>by cases h
 |n+1=>cA.step _ (bq.step _ (cA.r_ok n))
noncomputable def cA.F:TS cA.d.si→Option (TS cA.d.so):=stk (cA.r 64)
theorem cA.eq:cA.F=cA.r 64:=aq _
theorem cA.ok:cA.d.ok PP cA.F:=by
 rw [cA.eq]
 exact cA.r_ok 64
noncomputable def cA.s:SpL:=cA.d.e [] cA.F::bV.s
theorem cA.c:Ck cA.s []:=gK.consS bV.c [] cA.en cA.ok
noncomputable def bq.F:TS bq.d.si→Option (TS bq.d.so):=stk (bq.b (cA.r 64))
theorem bq.eq:bq.F=bq.b (cA.r 64):=aq _
theorem bq.ok:bq.d.ok PP bq.F:=by
 rw [bq.eq]
 exact bq.step _ (cA.r_ok 64)
noncomputable def bq.s:SpL:=bq.d.e [] bq.F::cA.s
theorem bq.c:Ck bq.s []:=gK.consS cA.c [] bq.en bq.ok
def eH.d:Fe:=⟨120,1,⟨[(0,.v false [.int .i64])],[],[],0,[]⟩,⟨[(0,.v false [.int .i64])],[],[],1000,[]⟩,(.s none .n (.s (some ⟨[],[],[0],0,[]⟩) .n .n))⟩
noncomputable def eH.B:Int×Unit→Option (Int×Unit):=fun (p0,_)=>
 jn (S:=Unit) (
 (bif (p0==(0:Int)) then
 ir ((0:Int),())
 else
 (bif (p0==(1:Int)) then
 ir ((0:Int),())
 else
 il (())))) fun (_)=>
 (bif (p0==(9:Int)) then
 some ((1:Int),())
 else
 (bif (p0==(10:Int)) then
 some ((1:Int),())
 else
 (bif (decide (p0≥(2:Int))) then
 (bif (decide (p0≤(8:Int))) then
 some ((2:Int),())
 else
 some ((-1:Int),()))
 else
 some ((-1:Int),()))))
noncomputable def eH.F:=stk eH.B
theorem eH.eq:eH.F=eH.B:=aq _
theorem eH.k:Kk bq.s [] [] Tryz.f120 eH.d eH.B:={}
noncomputable def eH.s:SpL:=eH.d.e [] eH.F::bq.s
theorem eH.c:Ck eH.s []:=cS bq.c eH.k
def da.d:Fe:=⟨122,3,⟨[(0,.v false [.int .i64]),(1,.v false [.int .i64]),(2,.v false [.int .i64])],[],[],0,[]⟩,⟨[(0,.tup [(false,[.int .i64]),(false,[.bool])])],[],[],1000,[]⟩,(.s none .n (.s none (.s (some ⟨[(17,.v false [.bool])],[],[0,1,2],0,[]⟩) .n .n) (.s (some ⟨[],[],[0,1,2],0,[]⟩) .n .n)))⟩
noncomputable def da.B:Int×Int×Int×Unit→Option (Int×Bool×Unit):=fun (p0,p1,p2,_)=>
 jn (S:=Bool×Unit) (
 (bif (p0==(2:Int)) then
 il (true,())
 else
 (bif (p0==(3:Int)) then
 il (true,())
 else
 il ((p0==(4:Int)),())))) fun (x17_1,_)=>
 (bif x17_1 then
 (bif (p1==(2:Int)) then
 (bif (p2==(2:Int)) then
 some ((2:Int),true,())
 else
 some ((2:Int),(p2==(0:Int)),()))
 else
 (bif (p1==(0:Int)) then
 (bif (p2==(2:Int)) then
 some ((2:Int),true,())
 else
 some ((2:Int),(p2==(0:Int)),()))
 else
 some ((2:Int),false,())))
 else
 jn (S:=Unit) (
 (bif (p0==(5:Int)) then
 (bif (p1==p2) then
 ir ((1:Int),true,())
 else
 (bif (p1==(0:Int)) then
 ir ((1:Int),true,())
 else
 ir ((1:Int),(p2==(0:Int)),())))
 else
 (bif (p0==(6:Int)) then
 (bif (p1==p2) then
 ir ((1:Int),true,())
 else
 (bif (p1==(0:Int)) then
 ir ((1:Int),true,())
 else
 ir ((1:Int),(p2==(0:Int)),())))
 else
 il (())))) fun (_)=>
 (bif (p0==(7:Int)) then
 (bif (p1==(1:Int)) then
 (bif (p2==(1:Int)) then
 some ((1:Int),true,())
 else
 some ((1:Int),(p2==(0:Int)),()))
 else
 (bif (p1==(0:Int)) then
 (bif (p2==(1:Int)) then
 some ((1:Int),true,())
 else
 some ((1:Int),(p2==(0:Int)),()))
 else
 some ((1:Int),false,())))
 else
 (bif (p0==(8:Int)) then
 (bif (p1==(1:Int)) then
 (bif (p2==(1:Int)) then
 some ((1:Int),true,())
 else
 some ((1:Int),(p2==(0:Int)),()))
 else
 (bif (p1==(0:Int)) then
 (bif (p2==(1:Int)) then
 some ((1:Int),true,())
 else
 some ((1:Int),(p2==(0:Int)),()))
 else
 some ((1:Int),false,())))
 else
 (bif (p0==(9:Int)) then
 (bif (p2==(1:Int)) then
 some ((1:Int),true,())
 else
 some ((1:Int),(p2==(0:Int)),()))
 else
 some ((1:Int),true,())))))
noncomputable def da.F:=stk da.B
theorem da.eq:da.F=da.B:=aq _
theorem da.k:Kk eH.s [] [] Tryz.f122 da.d da.B:={}
noncomputable def da.s:SpL:=da.d.e [] da.F::eH.s
theorem da.c:Ck da.s []:=cS eH.c da.k
def eY.d:Fe:=⟨171,2,⟨[(0,.v false [.sl 126 bD]),(1,.v false [.sl 3 (.int .i64)])],[],[],0,[]⟩,⟨[(0,.tup [(false,[.int .i64]),(false,[.int .i64])])],[],[],1000,[]⟩,(.s none .n (.s none .n (.s none .n (.s (some ⟨[(6,.v false [.ref 0])],[(0,false,.arr 3 (.int .i64))],[],1,[]⟩) (.s none .n (.b (.l ⟨[(6,.v false [.ref 0]),(7,.v false [.int .i64])],[(0,false,.arr 3 (.int .i64))],[0,1],1,[]⟩ (.s none .n (.s none (.b (.s none .n (.s none .n (.s (some ⟨[],[],[0,1,6,7,8,9],0,[]⟩) .n (.s none .n (.s (some ⟨[(11,.v false [.int .i64])],[],[0,1,6,7,8,9,10],0,[]⟩) .n (.s (some ⟨[(10,.v false [.int .i64])],[],[0,1,6,7,8,9,11],0,[]⟩) .n (.s none .n (.s none .n (.s (some ⟨[(12,.v false [.int .i64]),(13,.v false [.bool])],[],[0,1,6,7,8],0,[]⟩) .n .n)))))))))) .n))))) .n))))⟩
noncomputable def eY.B:(List ao)×(List Int)×Unit→Option (Int×Int×Unit):=fun (p0,p1,_)=>
 (bif (decide ((p0.length:Int)>(100:Int))) then
 some ((0:Int),(1:Int),())
 else
 jn (S:=(List Int)×Unit) (
 aK (S:=Int×(List Int)×Unit) (fun (x7,o6_0,_)=>
 (bif (decide (x7<(p0.length:Int))) then
 ck (ib x7 p0.length)<|
 let e1:ao:=(gt p0 x7 bD.z)
 (eH.F (e1.1,())).bind fun y2=>
 jn (S:=Unit) (
 (bif (decide (y2.1<(0:Int))) then
 ir (.inr (.inr ((0:Int),(30:Int),())))
 else
 (bif (decide ((o6_0.length:Int)<y2.1)) then
 ir (.inr (.inr ((0:Int),(30:Int),())))
 else
 il (())))) fun (_)=>
 jn (S:=Int×Unit) (
 (bif (decide (y2.1>(0:Int))) then
 let e4:Int:=(wr ((o6_0.length:Int)-(1:Int)))
 ck (ib e4 o6_0.length)<|
 let e5:Int:=(List.getD o6_0 (Int.toNat e4) (0:Int))
 il (e5,())
 else
 il ((0:Int),()))) fun (x11_6,_)=>
 jn (S:=Int×Unit) (
 (bif (decide (y2.1>(1:Int))) then
 let e7:Int:=(wr ((o6_0.length:Int)-(2:Int)))
 ck (ib e7 o6_0.length)<|
 let e8:Int:=(List.getD o6_0 (Int.toNat e7) (0:Int))
 il (e8,())
 else
 il ((0:Int),()))) fun (x10_9,_)=>
 let e10:Int:=(wr ((o6_0.length:Int)-y2.1))
 ck (sb (0:Int) e10 o6_0.length)<|
 ck (Nat.ble (([]:List Int).length+(List.take (Int.toNat e10) o6_0).length) 17592186044416)<|
 (da.F (e1.1,x10_9,x11_6,())).bind fun y11=>
 jn (S:=Int×Bool×Unit) (
 (bif (e1.1==(0:Int)) then
 (bif (decide (e1.2.1≥(0:Int))) then
 (bif (decide (e1.2.1<(p1.length:Int))) then
 ck (ib e1.2.1 p1.length)<|
 let e12:Int:=(gt p1 e1.2.1 (0:Int))
 (bif (decide (e12≥(1:Int))) then
 il (e12,(decide (e12≤(3:Int))),())
 else
 il (e12,false,()))
 else
 il (y11.1,(decide (e1.2.1<(p1.length:Int))),()))
 else
 il (y11.1,false,()))
 else
 il (y11.1,y11.2.1,()))) fun (x12_13,x13_13,_)=>
 (bif (e1.1==(1:Int)) then
 (dT.F (e1.2.2.1,e1.2.2.2.1,e1.2.2.2.2,())).bind fun y14=>
 (bif (!y14.1) then
 ir (.inr ((0:Int),(30:Int),()))
 else
 ck (Nat.ble ((([]:List Int)++(List.take (Int.toNat e10) o6_0)).length+ [e1.2.2.1].length) 17592186044416)<|
 let e15:Int:=(wr (x7+(1:Int)))
 il (e15,((([]:List Int)++(List.take (Int.toNat e10) o6_0))++ [e1.2.2.1]),()))
 else
 (bif (!x13_13) then
 ir (.inr ((0:Int),(30:Int),()))
 else
 ck (Nat.ble ((([]:List Int)++(List.take (Int.toNat e10) o6_0)).length+ [x12_13].length) 17592186044416)<|
 let e16:Int:=(wr (x7+(1:Int)))
 il (e16,((([]:List Int)++(List.take (Int.toNat e10) o6_0))++ [x12_13]),())))
 else
 ir (.inl (o6_0,())))) ((0:Int),([]:List Int),())) fun (o6_0_17,_)=>
 (bif ((o6_0_17.length:Int) !=(1:Int)) then
 some ((0:Int),(30:Int),())
 else
 ck (ib (0:Int) o6_0_17.length)<|
 let e18:Int:=(List.getD o6_0_17 0 (0:Int))
 some (e18,(0:Int),())))
noncomputable def eY.F:=stk eY.B
theorem eY.eq:eY.F=eY.B:=aq _
theorem eY.k:Kk da.s [] [] Tryz.f171 eY.d eY.B:={}
noncomputable def eY.s:SpL:=eY.d.e [] eY.F::da.s
theorem eY.c:Ck eY.s []:=cS da.c eY.k
def ep.d:Fe:=⟨128,2,⟨[(0,.v false [.sl 126 bD]),(1,.v false [.sl 3 (.int .i64)])],[],[],0,[]⟩,⟨[(0,.v false [.bool])],[],[],1000,[]⟩,.n⟩
noncomputable def ep.B:(List ao)×(List Int)×Unit→Option (Bool×Unit):=fun (p0,p1,_)=>
 (eY.F (p0,p1,())).bind fun y1=>
 (bif (y1.2.1==(0:Int)) then
 some ((decide (y1.1<(2:Int))),())
 else
 some (false,()))
noncomputable def ep.F:=stk ep.B
theorem ep.eq:ep.F=ep.B:=aq _
theorem ep.k:Kk eY.s [] [] Tryz.f128 ep.d ep.B:={}
noncomputable def ep.s:SpL:=ep.d.e [] ep.F::eY.s
theorem ep.c:Ck ep.s []:=cS eY.c ep.k
def fC.d:Fe:=⟨124,2,⟨[(0,.v false [.sl 84 gv]),(1,.v true [.str,.str,.str,.int .i64,.int .i64,.sl 126 bD,.sl 3 (.int .i64),.bool,.sl 156 dW])],[],[],0,[]⟩,⟨[(0,.v false [.bool])],[],[],1000,[]⟩,(.s none .n (.s (some ⟨[],[],[0,3],0,[]⟩) .n (.s none .n (.s none .n (.s (some ⟨[],[],[3,5],0,[]⟩) (.s none .n (.c (.s (some ⟨[],[],[3,5,6],0,[]⟩) .n .n) .n)) (.s (some ⟨[(5,.v false [.sl 3 (.int .i64)])],[],[3],0,[]⟩) .n (.s (some ⟨[],[],[3,5],0,[]⟩) (.s none .n (.b (.l ⟨[(8,.v false [.int .i64])],[],[3,5],0,[]⟩ .n))) (.s (some ⟨[],[],[3],0,[]⟩) (.s none .n (.b (.l ⟨[(9,.v false [.int .i64])],[],[3,5],0,[]⟩ .n))) .n))))))))⟩
noncomputable def fC.B:(List bx)×ByteArray×ByteArray×ByteArray×Int×Int×(List ao)×(List Int)×Bool×(List cH)×Unit→Option (Bool×Unit):=fun (p0,p1_0,p1_1,p1_2,p1_3,p1_4,p1_5,p1_6,p1_7,p1_8,_)=>
 jn (S:=Unit) (
 (eK.F (p0,p1_1,())).bind fun y1=>
 (bif (decide (y1.1<(0:Int))) then
 ir (true,())
 else
 (bif (!sq p1_2 (⟨#[]⟩:ByteArray)) then
 (eK.F (p0,p1_2,())).bind fun y2=>
 (bif (decide (y2.1<(0:Int))) then
 ir (true,())
 else
 il (()))
 else
 il (())))) fun (_)=>
 (bq.F (p0,p1_0,p1_1,p1_2,p1_3,p1_4,p1_5,p1_6,p1_7,p1_8,())).bind fun y4=>
 (eK.F (p0,p1_1,())).bind fun y5=>
 ck (ib y5.1 p0.length)<|
 let e6:bx:=(gt p0 y5.1 gv.z)
 (cA.F (p0,e6.1,e6.2.1.1,e6.2.1.2.1,e6.2.1.2.2,e6.2.2.1,e6.2.2.2.1,e6.2.2.2.2.1,e6.2.2.2.2.2.1.1,e6.2.2.2.2.2.1.2,e6.2.2.2.2.2.2.1,e6.2.2.2.2.2.2.2.1,e6.2.2.2.2.2.2.2.2.1,e6.2.2.2.2.2.2.2.2.2,())).bind fun y7=>
 jn (S:=Unit) (
 (bif (!sq p1_2 (⟨#[]⟩:ByteArray)) then
 jn (S:=Unit) (
 ck (ib (0:Int) 2)<|
 (bif (decide (p1_3≥(y7.1.length:Int))) then
 ir (.inr (true,()))
 else
 ck (ib (1:Int) 2)<|
 let e8:Int:=(wr ((y7.1.length:Int)+p1_4))
 (bif (decide (e8≥(y4.1.length:Int))) then
 ir (.inr (true,()))
 else
 il (())))) fun (_)=>
 ck (ib (0:Int) 2)<|
 ck (ib p1_3 y4.1.length)<|
 let e10:Int:=(List.getD y4.1 (Int.toNat p1_3) (0:Int))
 ck (ib (1:Int) 2)<|
 let e11:Int:=(wr ((y7.1.length:Int)+p1_4))
 ck (ib e11 y4.1.length)<|
 let e12:Int:=(List.getD y4.1 (Int.toNat e11) (0:Int))
 (bif (e10 !=e12) then
 ir (true,())
 else
 il (()))
 else
 il (()))) fun (_)=>
 jn (S:=(List Int)×Unit) (
 (bif (decide ((p1_5.length:Int)>(0:Int))) then
 (ep.F (p1_5,y4.1,())).bind fun y14=>
 (bif (!y14.1) then
 ir (true,())
 else
 il (y4.1,()))
 else
 il (y4.1,()))) fun (x5_15,_)=>
 jn (S:=Unit) (
 aK (S:=Int×Unit) (fun (x8,_)=>
 (bif (decide (x8<(p1_6.length:Int))) then
 ck (ib x8 p1_6.length)<|
 let e16:Int:=(gt p1_6 x8 (0:Int))
 (bif (decide (e16≥(x5_15.length:Int))) then
 ir (.inr (true,()))
 else
 let e17:Int:=(wr (x8+(1:Int)))
 il (e17,()))
 else
 ir (.inl (())))) ((0:Int),())) fun (_)=>
 jn (S:=Unit) (
 aK (S:=Int×Unit) (fun (x9,_)=>
 (bif (decide (x9<(p1_8.length:Int))) then
 ck (ib x9 p1_8.length)<|
 let e19:cH:=(gt p1_8 x9 dW.z)
 (bif (e19.1==(0:Int)) then
 let e20:Int:=(wr (x9+(1:Int)))
 il (e20,())
 else
 (bif (decide (e19.2≥(x5_15.length:Int))) then
 ir (.inr (true,()))
 else
 (bif (e19.1==(1:Int)) then
 ck (ib e19.2 x5_15.length)<|
 let e21:Int:=(gt x5_15 e19.2 (0:Int))
 (bif (e21 !=(2:Int)) then
 ir (.inr (true,()))
 else
 let e22:Int:=(wr (x9+(1:Int)))
 il (e22,()))
 else
 let e23:Int:=(wr (x9+(1:Int)))
 il (e23,()))))
 else
 ir (.inl (())))) ((0:Int),())) fun (_)=>
 let e25:Int:=(wr ((p1_6.length:Int)+(p1_8.length:Int)))
 (bif (!p1_7) then
 (bif (decide ((p1_8.length:Int)>(0:Int))) then
 some (true,())
 else
 (bif (e25==(0:Int)) then
 some (true,())
 else
 some ((decide (e25>(40:Int))),())))
 else
 (bif (e25==(0:Int)) then
 some (true,())
 else
 some ((decide (e25>(40:Int))),())))
noncomputable def fC.F:=stk fC.B
theorem fC.eq:fC.F=fC.B:=aq _
theorem fC.k:Kk ep.s [] [] Tryz.f124 fC.d fC.B:={}
noncomputable def fC.s:SpL:=fC.d.e [] fC.F::ep.s
theorem fC.c:Ck fC.s []:=cS ep.c fC.k
def fp.d:Fe:=⟨125,1,⟨[(0,.v true [.str,.sl 75 aX,.sl 78 (.sl 126 bD)])],[],[],0,[]⟩,⟨[(0,.v false [.bool])],[],[],1000,[]⟩,(.s none .n (.s (some ⟨[],[],[1],0,[]⟩) (.s none .n (.b (.l ⟨[(3,.v false [.int .i64])],[],[1],0,[]⟩ (.s none .n (.s (some ⟨[],[],[1,3],0,[]⟩) (.b (.s none .n (.b (.l ⟨[(4,.v false [.int .i64])],[],[1,3],0,[]⟩ .n)))) .n))))) .n))⟩
noncomputable def fp.B:ByteArray×(List aC)×(List (List ao))×Unit→Option (Bool×Unit):=fun (p0_0,p0_1,p0_2,_)=>
 jn (S:=Unit) (
 aK (S:=Int×Unit) (fun (x3,_)=>
 (bif (decide (x3<(p0_1.length:Int))) then
 jn (S:=Unit) (
 aK (S:=Int×Unit) (fun (x4',_)=>
 (bif (decide (x4'<x3)) then
 ck (ib x3 p0_1.length)<|
 let e1:aC:=(gt p0_1 x3 aX.z)
 ck (ib x4' p0_1.length)<|
 let e2:aC:=(gt p0_1 x4' aX.z)
 (bif (sq e1.1 e2.1) then
 ir (.inr (.inr (.inr (true,()))))
 else
 let e3:Int:=(wr (x4'+(1:Int)))
 il (e3,()))
 else
 ir (.inl (())))) ((0:Int),())) fun (_)=>
 let e5:Int:=(wr (x3+(1:Int)))
 il (e5,())
 else
 ir (.inl (())))) ((0:Int),())) fun (_)=>
 ck (ib (0:Int) p0_1.length)<|
 let e7:aC:=(List.getD p0_1 0 aX.z)
 (bif e7.2.2.1 then
 some (true,())
 else
 ck (ib (0:Int) p0_1.length)<|
 let e8:aC:=(List.getD p0_1 0 aX.z)
 (bif (e8.2.1==(1:Int)) then
 some (true,())
 else
 ck (ib (0:Int) p0_1.length)<|
 let e9:aC:=(List.getD p0_1 0 aX.z)
 some ((!sq e9.2.2.2.2.1 (⟨#[]⟩:ByteArray)),())))
noncomputable def fp.F:=stk fp.B
theorem fp.eq:fp.F=fp.B:=aq _
theorem fp.k:Kk fC.s [] [] Tryz.f125 fp.d fp.B:={}
noncomputable def fp.s:SpL:=fp.d.e [] fp.F::fC.s
theorem fp.c:Ck fp.s []:=cS fC.c fp.k
def fD.d:Fe:=⟨126,2,⟨[(0,.v false [.sl 84 gv]),(1,.v true [.str,.sl 75 aX,.sl 78 (.sl 126 bD)])],[],[],0,[]⟩,⟨[(0,.v false [.bool])],[],[],1000,[]⟩,(.s none .n (.s none (.s none .n (.b (.l ⟨[(5,.v false [.int .i64])],[],[0,3],0,[]⟩ (.s none .n (.s none (.b (.s none .n (.s none .n (.s none .n (.s (some ⟨[(7,.v false [.int .i64])],[],[0,3,5,6],0,[]⟩) .n .n))))) .n))))) .n))⟩
noncomputable def fD.B:(List bx)×ByteArray×(List aC)×(List (List ao))×Unit→Option (Bool×Unit):=fun (p0,p1_0,p1_1,p1_2,_)=>
 aK (S:=Int×Unit) (fun (x5,_)=>
 (bif (decide (x5<(p1_1.length:Int))) then
 ck (ib x5 p1_1.length)<|
 let e1:aC:=(gt p1_1 x5 aX.z)
 (bif (sq e1.2.2.2.2.1 (⟨#[]⟩:ByteArray)) then
 let e2:Int:=(wr (x5+(1:Int)))
 il (e2,())
 else
 ck (ib (0:Int) p1_1.length)<|
 let e3:aC:=(List.getD p1_1 0 aX.z)
 jn (S:=Int×Unit) (
 (bif (!sq e1.2.2.2.2.1 p1_0) then
 (eK.F (p0,e1.2.2.2.2.1,())).bind fun y4=>
 (bif (decide (y4.1<(0:Int))) then
 ir (.inr (true,()))
 else
 ck (ib y4.1 p0.length)<|
 let e5:bx:=(gt p0 y4.1 gv.z)
 (bif (e5.1 !=(0:Int)) then
 ir (.inr (true,()))
 else
 ck (ib y4.1 p0.length)<|
 let e6:bx:=(gt p0 y4.1 gv.z)
 ck (ib (0:Int) e6.2.1.2.1.length)<|
 let e7:aC:=(List.getD e6.2.1.2.1 0 aX.z)
 il (e7.2.1,())))
 else
 il (e3.2.1,()))) fun (x7_8,_)=>
 (bif (e1.2.1 !=x7_8) then
 ir (true,())
 else
 (bif (e1.2.2.2.2.2==(2:Int)) then
 (bif (!e1.2.2.1) then
 ir (true,())
 else
 let e9:Int:=(wr (x5+(1:Int)))
 il (e9,()))
 else
 let e10:Int:=(wr (x5+(1:Int)))
 il (e10,()))))
 else
 ir (false,()))) ((0:Int),())
noncomputable def fD.F:=stk fD.B
theorem fD.eq:fD.F=fD.B:=aq _
theorem fD.k:Kk fp.s [] [] Tryz.f126 fD.d fD.B:={}
noncomputable def fD.s:SpL:=fD.d.e [] fD.F::fp.s
theorem fD.c:Ck fD.s []:=cS fp.c fD.k
def eN.d:Fe:=⟨88,2,⟨[(0,.v false [.sl 84 gv]),(1,.v true [.int .i64,.str,.sl 75 aX,.sl 78 (.sl 126 bD),.str,.str,.str,.int .i64,.int .i64,.sl 126 bD,.sl 3 (.int .i64),.bool,.sl 156 dW])],[],[],0,[]⟩,⟨[(0,.v false [.int .i64])],[],[],1000,[]⟩,(.s none .n (.s none .n (.s none .n (.s none .n (.s none .n (.s none .n (.s none .n (.s none .n (.s none (.s none .n (.b (.l ⟨[(5,.v false [.sl 3 (.int .i64)]),(7,.v false [.int .i64])],[],[3],0,[]⟩ .n))) .n)))))))))⟩
noncomputable def eN.B:(List bx)×Int×ByteArray×(List aC)×(List (List ao))×ByteArray×ByteArray×ByteArray×Int×Int×(List ao)×(List Int)×Bool×(List cH)×Unit→Option (Int×Unit):=fun (p0,p1_0,p1_1,p1_2,p1_3,p1_4,p1_5,p1_6,p1_7,p1_8,p1_9,p1_10,p1_11,p1_12,_)=>
 (eG.F (p1_0,p1_1,p1_2,p1_3,p1_4,p1_5,p1_6,p1_7,p1_8,p1_9,p1_10,p1_11,p1_12,())).bind fun y1=>
 (bif (sq y1.1 (⟨#[]⟩:ByteArray)) then
 some ((1:Int),())
 else
 (bif (decide ((p0.length:Int)≥(20:Int))) then
 some ((95:Int),())
 else
 (fP.F (p1_0,p1_1,p1_2,p1_3,p1_4,p1_5,p1_6,p1_7,p1_8,p1_9,p1_10,p1_11,p1_12,())).bind fun y2=>
 (eK.F (p0,y2.1,())).bind fun y3=>
 (bif (decide (y3.1≥(0:Int))) then
 some ((90:Int),())
 else
 (bif (p1_0 !=(0:Int)) then
 (fC.F (p0,p1_4,p1_5,p1_6,p1_7,p1_8,p1_9,p1_10,p1_11,p1_12,())).bind fun y4=>
 (bif y4.1 then
 some ((94:Int),())
 else
 some ((0:Int),()))
 else
 (fp.F (p1_1,p1_2,p1_3,())).bind fun y5=>
 (bif y5.1 then
 some ((91:Int),())
 else
 (fD.F (p0,p1_1,p1_2,p1_3,())).bind fun y6=>
 (bif y6.1 then
 some ((92:Int),())
 else
 (bV.F (p1_1,p1_2,p1_3,())).bind fun y7=>
 aK (S:=(List Int)×Int×Unit) (fun (x5,x7,_)=>
 (bif (decide (x7<(p1_3.length:Int))) then
 ck (ib x7 p1_3.length)<|
 let e8:(List ao):=(gt p1_3 x7 [])
 (ep.F (e8,x5,())).bind fun y9=>
 (bif (!y9.1) then
 ir ((93:Int),())
 else
 let e10:Int:=(wr (x7+(1:Int)))
 il (x5,e10,()))
 else
 ir ((0:Int),()))) (y7.1,(0:Int),())))))))
noncomputable def eN.F:=stk eN.B
theorem eN.eq:eN.F=eN.B:=aq _
theorem eN.k:Kk fD.s [] [] Tryz.f88 eN.d eN.B:={}
noncomputable def eN.s:SpL:=eN.d.e [] eN.F::fD.s
theorem eN.c:Ck eN.s []:=cS fD.c eN.k
def gk.d:Fe:=⟨47,1,⟨[(0,.v false [.sl 84 gv])],[],[],0,[]⟩,⟨[(0,.v false [.bool])],[],[],1000,[]⟩,(.s none .n (.s none (.s none .n (.b (.l ⟨[(3,.v false [.int .i64])],[],[0],0,[]⟩ .n))) .n))⟩
noncomputable def gk.B:(List bx)×Unit→Option (Bool×Unit):=fun (p0,_)=>
 aK (S:=Int×Unit) (fun (x3,_)=>
 (bif (decide (x3<(p0.length:Int))) then
 ck (sb (0:Int) x3 p0.length)<|
 let e1:List bx:=(List.drop (Int.toNat (0:Int)) (List.take (Int.toNat x3) p0))
 ck (ib x3 p0.length)<|
 let e2:bx:=(gt p0 x3 gv.z)
 (eN.F (e1,e2.1,e2.2.1.1,e2.2.1.2.1,e2.2.1.2.2,e2.2.2.1,e2.2.2.2.1,e2.2.2.2.2.1,e2.2.2.2.2.2.1.1,e2.2.2.2.2.2.1.2,e2.2.2.2.2.2.2.1,e2.2.2.2.2.2.2.2.1,e2.2.2.2.2.2.2.2.2.1,e2.2.2.2.2.2.2.2.2.2,())).bind fun y3=>
 (bif (y3.1 !=(0:Int)) then
 ir (false,())
 else
 let e4:Int:=(wr (x3+(1:Int)))
 il (e4,()))
 else
 ir (true,()))) ((0:Int),())
noncomputable def gk.F:=stk gk.B
theorem gk.eq:gk.F=gk.B:=aq _
theorem gk.k:Kk eN.s [] [] Tryz.f47 gk.d gk.B:={}
noncomputable def gk.s:SpL:=gk.d.e [] gk.F::eN.s
theorem gk.c:Ck gk.s []:=cS eN.c gk.k
def dY.d:Fe:=⟨18,1,⟨[(0,.v false [.sl 84 gv])],[],[],0,[]⟩,⟨[(0,.v false [.ref 1000])],[(1000,false,.arr 40 io)],[],1001,[]⟩,(.s none .n (.s none .n (.s none (.s none .n (.b (.l ⟨[(3,.v false [.ref 0]),(4,.v false [.int .i64])],[(0,false,.arr 40 io)],[0],1,[]⟩ .n))) .n)))⟩
noncomputable def dY.B:(List bx)×Unit→Option ((List fR)×Unit):=fun (p0,_)=>
 aK (S:=Int×(List fR)×Unit) (fun (x4,o3_0,_)=>
 (bif (decide (x4<(p0.length:Int))) then
 ck (ib x4 p0.length)<|
 let e1:bx:=(gt p0 x4 gv.z)
 (bif (e1.1==(0:Int)) then
 ck (ib x4 p0.length)<|
 let e2:bx:=(gt p0 x4 gv.z)
 ck (Nat.ble (o3_0.length+ [e2.2.1].length) 2199023255552)<|
 let e3:Int:=(wr (x4+(1:Int)))
 il (e3,(o3_0++ [e2.2.1]),())
 else
 let e4:Int:=(wr (x4+(1:Int)))
 il (e4,o3_0,()))
 else
 ir (o3_0,()))) ((0:Int),([]:List fR),())
noncomputable def dY.F:=stk dY.B
theorem dY.eq:dY.F=dY.B:=aq _
theorem dY.k:Kk gk.s [] [] Tryz.f18 dY.d dY.B:={}
noncomputable def dY.s:SpL:=dY.d.e [] dY.F::gk.s
theorem dY.c:Ck dY.s []:=cS gk.c dY.k
def fQ.d:Fe:=⟨89,1,⟨[(0,.v false [.int .i64])],[],[],0,[]⟩,⟨[(0,.v false [.bool])],[],[],1000,[]⟩,.n⟩
noncomputable def fQ.B:Int×Unit→Option (Bool×Unit):=fun (p0,_)=>
 (bif (decide (p0≥(-1000000000:Int))) then
 some ((decide (p0≤(1000000000:Int))),())
 else
 some (false,()))
noncomputable def fQ.F:=stk fQ.B
theorem fQ.eq:fQ.F=fQ.B:=aq _
theorem fQ.k:Kk dY.s [] [] Tryz.f89 fQ.d fQ.B:={}
noncomputable def fQ.s:SpL:=fQ.d.e [] fQ.F::dY.s
theorem fQ.c:Ck fQ.s []:=cS dY.c fQ.k
def gB.d:Fe:=⟨99,1,⟨[(0,.v false [.sl 47 bh])],[],[],0,[]⟩,⟨[(0,.v false [.bool])],[],[],1000,[]⟩,(.s none .n (.s none (.s none .n (.b (.l ⟨[(3,.v false [.int .i64])],[],[0],0,[]⟩ .n))) .n))⟩
noncomputable def gB.B:(List ax)×Unit→Option (Bool×Unit):=fun (p0,_)=>
 aK (S:=Int×Unit) (fun (x3,_)=>
 (bif (decide (x3<(p0.length:Int))) then
 ck (ib x3 p0.length)<|
 let e1:ax:=(gt p0 x3 bh.z)
 (dT.F (e1.1,e1.2.1,e1.2.2,())).bind fun y2=>
 (bif (!y2.1) then
 ir (false,())
 else
 let e3:Int:=(wr (x3+(1:Int)))
 il (e3,()))
 else
 ir (true,()))) ((0:Int),())
noncomputable def gB.F:=stk gB.B
theorem gB.eq:gB.F=gB.B:=aq _
theorem gB.k:Kk fQ.s [] [] Tryz.f99 gB.d gB.B:={}
noncomputable def gB.s:SpL:=gB.d.e [] gB.F::fQ.s
theorem gB.c:Ck gB.s []:=cS fQ.c gB.k
def gh.d:Fe:=⟨59,1,⟨[(0,.v false [.sl 47 bh])],[],[],0,[]⟩,⟨[(0,.v false [.bool])],[],[],1000,[]⟩,.n⟩
noncomputable def gh.B:(List ax)×Unit→Option (Bool×Unit):=fun (p0,_)=>
 (bif (decide ((p0.length:Int)≤(40:Int))) then
 (gB.F (p0,())).bind fun y1=>
 some (y1.1,())
 else
 some (false,()))
noncomputable def gh.F:=stk gh.B
theorem gh.eq:gh.F=gh.B:=aq _
theorem gh.k:Kk gB.s [] [] Tryz.f59 gh.d gh.B:={}
noncomputable def gh.s:SpL:=gh.d.e [] gh.F::gB.s
theorem gh.c:Ck gh.s []:=cS gB.c gh.k
def dj.d:Fe:=⟨106,2,⟨[(0,.v true [.int .i64,.int .i64,.str]),(1,.v true [.int .i64,.int .i64,.str])],[],[],0,[]⟩,⟨[(0,.v false [.int .i64])],[],[],1000,[]⟩,.n⟩
noncomputable def dj.B:Int×Int×ByteArray×Int×Int×ByteArray×Unit→Option (Int×Unit):=fun (p0_0,p0_1,p0_2,p1_0,p1_1,p1_2,_)=>
 (bif (p0_0 !=p1_0) then
 (bif (decide (p0_0<p1_0)) then
 some ((-1:Int),())
 else
 some ((1:Int),()))
 else
 (bif (p0_1 !=p1_1) then
 (bif (decide (p0_1<p1_1)) then
 some ((-1:Int),())
 else
 some ((1:Int),()))
 else
 (bif (Op.bytesLess p0_2.toList p1_2.toList) then
 some ((-1:Int),())
 else
 (bif (!(Op.bytesLess p0_2.toList p1_2.toList||p0_2.toList==p1_2.toList)) then
 some ((1:Int),())
 else
 some ((0:Int),())))))
noncomputable def dj.F:=stk dj.B
theorem dj.eq:dj.F=dj.B:=aq _
theorem dj.k:Kk gh.s [] [] Tryz.f106 dj.d dj.B:={}
noncomputable def dj.s:SpL:=dj.d.e [] dj.F::gh.s
theorem dj.c:Ck dj.s []:=cS gh.c dj.k
def dk.d:Fe:=⟨70,2,⟨[(0,.v false [.sl 47 bh]),(1,.v false [.sl 47 bh])],[],[],0,[]⟩,⟨[(0,.v false [.int .i64])],[],[],1000,[]⟩,(.s none .n (.s (some ⟨[],[],[0,1],0,[]⟩) (.s none .n (.b (.l ⟨[(5,.v false [.int .i64])],[],[0,1],0,[]⟩ .n))) .n))⟩
noncomputable def dk.B:(List ax)×(List ax)×Unit→Option (Int×Unit):=fun (p0,p1,_)=>
 jn (S:=Unit) (
 aK (S:=Int×Unit) (fun (x5,_)=>
 (bif (decide (x5<(p0.length:Int))) then
 (bif (decide (x5<(p1.length:Int))) then
 ck (ib x5 p0.length)<|
 let e1:ax:=(gt p0 x5 bh.z)
 ck (ib x5 p1.length)<|
 let e2:ax:=(gt p1 x5 bh.z)
 (dj.F (e1.1,e1.2.1,e1.2.2,e2.1,e2.2.1,e2.2.2,())).bind fun y3=>
 (bif (y3.1 !=(0:Int)) then
 ir (.inr (y3.1,()))
 else
 let e4:Int:=(wr (x5+(1:Int)))
 il (e4,()))
 else
 ir (.inl (())))
 else
 ir (.inl (())))) ((0:Int),())) fun (_)=>
 (bif (decide ((p0.length:Int)<(p1.length:Int))) then
 some ((-1:Int),())
 else
 (bif (decide ((p0.length:Int)>(p1.length:Int))) then
 some ((1:Int),())
 else
 some ((0:Int),())))
noncomputable def dk.F:=stk dk.B
theorem dk.eq:dk.F=dk.B:=aq _
theorem dk.k:Kk dj.s [] [] Tryz.f70 dk.d dk.B:={}
noncomputable def dk.s:SpL:=dk.d.e [] dk.F::dj.s
theorem dk.c:Ck dk.s []:=cS dj.c dk.k
def gm.d:Fe:=⟨48,1,⟨[(0,.v false [.sl 62 dq])],[],[],0,[]⟩,⟨[(0,.v false [.bool])],[],[],1000,[]⟩,(.s none .n (.s none (.s none .n (.b (.l ⟨[(3,.v false [.int .i64])],[],[0],0,[]⟩ (.s none .n (.s none (.b (.s (some ⟨[(52,.v false [.bool])],[],[0,3],0,[]⟩) .n .n)) .n))))) .n))⟩
noncomputable def gm.B:(List bj)×Unit→Option (Bool×Unit):=fun (p0,_)=>
 aK (S:=Int×Unit) (fun (x3,_)=>
 (bif (decide (x3<(p0.length:Int))) then
 jn (S:=Bool×Unit) (
 ck (ib x3 p0.length)<|
 let e1:bj:=(gt p0 x3 dq.z)
 (bif (e1.2==(0:Int)) then
 il (true,())
 else
 ck (ib x3 p0.length)<|
 let e2:bj:=(gt p0 x3 dq.z)
 (fQ.F (e2.2,())).bind fun y3=>
 (bif (!y3.1) then
 il (true,())
 else
 ck (ib x3 p0.length)<|
 let e4:bj:=(gt p0 x3 dq.z)
 (gh.F (e4.1,())).bind fun y5=>
 (bif (!y5.1) then
 il (true,())
 else
 (bif (decide (x3>(0:Int))) then
 let e6:Int:=(wr (x3-(1:Int)))
 ck (ib e6 p0.length)<|
 let e7:bj:=(gt p0 e6 dq.z)
 ck (ib x3 p0.length)<|
 let e8:bj:=(gt p0 x3 dq.z)
 (dk.F (e7.1,e8.1,())).bind fun y9=>
 il ((decide (y9.1≥(0:Int))),())
 else
 il (false,())))))) fun (x52_10,_)=>
 (bif x52_10 then
 ir (false,())
 else
 let e11:Int:=(wr (x3+(1:Int)))
 il (e11,()))
 else
 ir (true,()))) ((0:Int),())
noncomputable def gm.F:=stk gm.B
theorem gm.eq:gm.F=gm.B:=aq _
theorem gm.k:Kk dk.s [] [] Tryz.f48 gm.d gm.B:={}
noncomputable def gm.s:SpL:=gm.d.e [] gm.F::dk.s
theorem gm.c:Ck gm.s []:=cS dk.c gm.k
def fE.d:Fe:=⟨49,2,⟨[(0,.v true [.str,.sl 75 aX,.sl 78 (.sl 126 bD)]),(1,.v false [.sl 62 dq])],[],[],0,[]⟩,⟨[(0,.v false [.bool])],[],[],1000,[]⟩,(.s none .n (.s none (.s none .n (.b (.l ⟨[(5,.v false [.int .i64])],[],[1,2],0,[]⟩ (.s none .n (.s (some ⟨[],[],[1,2,5],0,[]⟩) (.b (.s (some ⟨[],[],[1,2,5],0,[]⟩) .n (.s none .n (.s none .n (.b (.l ⟨[(6,.v false [.int .i64])],[],[1,2,5],0,[]⟩ .n)))))) .n))))) .n))⟩
noncomputable def fE.B:ByteArray×(List aC)×(List (List ao))×(List bj)×Unit→Option (Bool×Unit):=fun (p0_0,p0_1,p0_2,p1,_)=>
 aK (S:=Int×Unit) (fun (x5,_)=>
 (bif (decide (x5<(p1.length:Int))) then
 jn (S:=Unit) (
 jn (S:=Unit) (
 ck (ib x5 p1.length)<|
 let e1:bj:=(gt p1 x5 dq.z)
 (bif (e1.2 !=(1:Int)) then
 ir (.inr (.inr (false,())))
 else
 ck (ib x5 p1.length)<|
 let e2:bj:=(gt p1 x5 dq.z)
 (bif ((e2.1.length:Int) !=(p0_1.length:Int)) then
 ir (.inr (.inr (false,())))
 else
 il (())))) fun (_)=>
 ck (ib x5 p1.length)<|
 let e4:bj:=(gt p1 x5 dq.z)
 ck (ib (0:Int) e4.1.length)<|
 let e5:ax:=(List.getD e4.1 0 bh.z)
 (bif (e5.1==(0:Int)) then
 ir (.inr (false,()))
 else
 aK (S:=Int×Unit) (fun (x6',_)=>
 (bif (decide (x6'<x5)) then
 ck (ib x6' p1.length)<|
 let e6:bj:=(gt p1 x6' dq.z)
 ck (ib (0:Int) e6.1.length)<|
 let e7:ax:=(List.getD e6.1 0 bh.z)
 ck (ib x5 p1.length)<|
 let e8:bj:=(gt p1 x5 dq.z)
 ck (ib (0:Int) e8.1.length)<|
 let e9:ax:=(List.getD e8.1 0 bh.z)
 (bif (Ty.eq bh e7 e9) then
 ir (.inr (.inr (false,())))
 else
 let e10:Int:=(wr (x6'+(1:Int)))
 il (e10,()))
 else
 ir (.inl (())))) ((0:Int),()))) fun (_)=>
 let e12:Int:=(wr (x5+(1:Int)))
 il (e12,())
 else
 ir (true,()))) ((0:Int),())
noncomputable def fE.F:=stk fE.B
theorem fE.eq:fE.F=fE.B:=aq _
theorem fE.k:Kk gm.s [] [] Tryz.f49 fE.d fE.B:={}
noncomputable def fE.s:SpL:=fE.d.e [] fE.F::gm.s
theorem fE.c:Ck fE.s []:=cS gm.c fE.k
def fX.d:Fe:=⟨17,2,⟨[(0,.v false [.sl 84 gv]),(1,.v false [.sl 44 dS])],[],[],0,[]⟩,⟨[(0,.v false [.bool])],[],[],1000,[]⟩,(.s none .n (.s none .n (.s none .n (.s none .n (.s none (.s none .n (.b (.l ⟨[(6,.v false [.int .i64])],[],[1,5],0,[]⟩ .n))) .n)))))⟩
noncomputable def fX.B:(List bx)×(List bC)×Unit→Option (Bool×Unit):=fun (p0,p1,_)=>
 (gk.F (p0,())).bind fun y1=>
 (bif (!y1.1) then
 some (false,())
 else
 (dY.F (p0,())).bind fun y2=>
 (bif ((y2.1.length:Int) !=(p1.length:Int)) then
 some (false,())
 else
 aK (S:=Int×Unit) (fun (x6,_)=>
 (bif (decide (x6<(y2.1.length:Int))) then
 ck (ib x6 p1.length)<|
 let e3:bC:=(gt p1 x6 dS.z)
 ck (ib x6 y2.1.length)<|
 let e4:fR:=(List.getD y2.1 (Int.toNat x6) io.z)
 (bif (!sq e3.1 e4.1) then
 ir (false,())
 else
 ck (ib x6 p1.length)<|
 let e5:bC:=(gt p1 x6 dS.z)
 (gm.F (e5.2,())).bind fun y6=>
 (bif (!y6.1) then
 ir (false,())
 else
 ck (ib x6 y2.1.length)<|
 let e7:fR:=(List.getD y2.1 (Int.toNat x6) io.z)
 ck (ib x6 p1.length)<|
 let e8:bC:=(gt p1 x6 dS.z)
 (fE.F (e7.1,e7.2.1,e7.2.2,e8.2,())).bind fun y9=>
 (bif (!y9.1) then
 ir (false,())
 else
 let e10:Int:=(wr (x6+(1:Int)))
 il (e10,()))))
 else
 ir (true,()))) ((0:Int),())))
noncomputable def fX.F:=stk fX.B
theorem fX.eq:fX.F=fX.B:=aq _
theorem fX.k:Kk fE.s [] [] Tryz.f17 fX.d fX.B:={}
noncomputable def fX.s:SpL:=fX.d.e [] fX.F::fE.s
theorem fX.c:Ck fX.s []:=cS fE.c fX.k
def bd.d:Fe:=⟨224,2,⟨[(0,.v false [.ptr 0 0]),(1,.v false [.sl 9 .str])],[(0,true,.box 243 [.ref 1]),(1,true,.arr 9 .str)],[],2,[]⟩,⟨[(0,.tup [])],[(0,true,.box 243 [.ref 1001]),(1001,false,.arr 9 .str)],[],1002,[(0,0)]⟩,.n⟩
noncomputable def bd.B:(List ByteArray)×(List ByteArray)×Unit→Option ((List ByteArray)×Unit):=fun (p1,o0_0,_)=>
 ck (Nat.ble (o0_0.length+p1.length) 8796093022208)<|
 some ((o0_0++p1),())
noncomputable def bd.F:=stk bd.B
theorem bd.eq:bd.F=bd.B:=aq _
theorem bd.k:Kk fX.s [] [] Tryz.f224 bd.d bd.B:={}
noncomputable def bd.s:SpL:=bd.d.e [] bd.F::fX.s
theorem bd.c:Ck bd.s []:=cS fX.c bd.k
def eZ.d:Fe:=⟨227,2,⟨[(0,.v false [.int .i64]),(1,.v false [.sl 9 .str])],[],[],0,[]⟩,⟨[(0,.v false [.str])],[],[],1000,[]⟩,.n⟩
noncomputable def eZ.B:Int×(List ByteArray)×Unit→Option (ByteArray×Unit):=fun (p0,p1,_)=>
 (bif (decide (p0<(0:Int))) then
 some ((⟨#[33]⟩:ByteArray),())
 else
 (bif (decide (p0≥(p1.length:Int))) then
 some ((⟨#[33]⟩:ByteArray),())
 else
 ck (ib p0 p1.length)<|
 let e1:ByteArray:=(gt p1 p0 (⟨#[]⟩:ByteArray))
 some (e1,())))
noncomputable def eZ.F:=stk eZ.B
theorem eZ.eq:eZ.F=eZ.B:=aq _
theorem eZ.k:Kk bd.s [] [] Tryz.f227 eZ.d eZ.B:={}
noncomputable def eZ.s:SpL:=eZ.d.e [] eZ.F::bd.s
theorem eZ.c:Ck eZ.s []:=cS bd.c eZ.k
def bm.d:Fe:=⟨228,3,⟨[(0,.v false [.ptr 0 0]),(1,.v false [.bool]),(2,.v false [.sl 9 .str])],[(0,true,.box 243 [.ref 1]),(1,true,.arr 9 .str)],[],2,[]⟩,⟨[(0,.tup [])],[(0,true,.box 243 [.ref 1001]),(1001,false,.arr 9 .str)],[],1002,[(0,0)]⟩,.n⟩
noncomputable def bm.B:Bool×(List ByteArray)×(List ByteArray)×Unit→Option ((List ByteArray)×Unit):=fun (p1,p2,o0_0,_)=>
 (bif p1 then
 (bd.F (p2,o0_0,())).bind fun y1=>
 some (y1.1,())
 else
 some (o0_0,()))
noncomputable def bm.F:=stk bm.B
theorem bm.eq:bm.F=bm.B:=aq _
theorem bm.k:Kk eZ.s [] [] Tryz.f228 bm.d bm.B:={}
noncomputable def bm.s:SpL:=bm.d.e [] bm.F::eZ.s
theorem bm.c:Ck bm.s []:=cS eZ.c bm.k
def strconv_Itoa.d:Fe:=⟨230,1,⟨[(0,.v false [.int .i64])],[],[],0,[]⟩,⟨[(0,.v false [.str])],[],[],1000,[]⟩,.n⟩
noncomputable def strconv_Itoa.B:TS strconv_Itoa.d.si→Option (TS strconv_Itoa.d.so):=BD
noncomputable def strconv_Itoa.F:=stk strconv_Itoa.B
theorem strconv_Itoa.eq:strconv_Itoa.F=strconv_Itoa.B:=aq _
theorem strconv_Itoa.ok:fk PP 230 ⟨1,strconv_Itoa.d.si,strconv_Itoa.d.so,strconv_Itoa.F⟩:=by
 rw [strconv_Itoa.eq]
 exact Am
noncomputable def strconv_Itoa.s:SpL:=strconv_Itoa.d.e [] strconv_Itoa.F::bm.s
theorem strconv_Itoa.c:Ck strconv_Itoa.s []:=gK.consS bm.c [] ⟨_,Tryz.func230,by kernel_rfl,by decide⟩ strconv_Itoa.ok
def ge.d:Fe:=⟨288,1,⟨[(0,.v false [.int .u8])],[],[],0,[]⟩,⟨[(0,.v false [.int .i64])],[],[],1000,[]⟩,(.s none .n (.s none (.b (.s (some ⟨[(3,.v false [.bool])],[],[0],0,[]⟩) .n (.c .n (.s (some ⟨[(10,.v false [.bool])],[],[0],0,[]⟩) .n .n)))) .n))⟩
noncomputable def ge.B:Int×Unit→Option (Int×Unit):=fun (p0,_)=>
 jn (S:=Bool×Unit) (
 (bif (decide (p0≥(97:Int))) then
 il ((decide (p0≤(122:Int))),())
 else
 il (false,()))) fun (x3_1,_)=>
 (bif x3_1 then
 some ((1:Int),())
 else
 jn (S:=Bool×Unit) (
 (bif (decide (p0≥(48:Int))) then
 il ((decide (p0≤(57:Int))),())
 else
 il (false,()))) fun (x10_2,_)=>
 (bif x10_2 then
 some ((2:Int),())
 else
 (bif (p0==(95:Int)) then
 some ((3:Int),())
 else
 (bif (p0==(39:Int)) then
 some ((4:Int),())
 else
 (bif (p0==(32:Int)) then
 some ((5:Int),())
 else
 some ((0:Int),()))))))
noncomputable def ge.F:=stk ge.B
theorem ge.eq:ge.F=ge.B:=aq _
theorem ge.k:Kk strconv_Itoa.s [] [] Tryz.f288 ge.d ge.B:={}
noncomputable def ge.s:SpL:=ge.d.e [] ge.F::strconv_Itoa.s
theorem ge.c:Ck ge.s []:=cS strconv_Itoa.c ge.k
def bB.d:Fe:=⟨263,2,⟨[(0,.v false [.ptr 0 0]),(1,.v false [.sl 298 (.int .i64)])],[(0,true,.box 296 [.str,.int .i64])],[],1,[]⟩,⟨[(0,.v false [.str])],[(0,true,.box 296 [.str,.int .i64])],[],1001,[(0,0)]⟩,(.s none .n (.s none .n (.s (some ⟨[(0,.v false [.ptr 0 0])],[(0,true,.box 296 [.str,.int .i64])],[5],1,[]⟩) (.b (.l ⟨[(0,.v false [.ptr 0 0])],[(0,true,.box 296 [.str,.int .i64])],[1,5],1,[]⟩ (.s none .n (.b (.s none .n (.s none .n (.s (some ⟨[(7,.v false [.bool])],[],[0,1,5],0,[]⟩) (.s none .n (.b (.l ⟨[(7,.v false [.bool]),(36,.v false [.int .i64])],[],[0,1,5,6,34,35],0,[]⟩ .n))) .n))))))) .n)))⟩
noncomputable def bB.B:(List Int)×ByteArray×Int×Unit→Option (ByteArray×ByteArray×Int×Unit):=fun (p1,o0_0,o0_1,_)=>
 jn (S:=ByteArray×Int×Unit) (
 aK (S:=ByteArray×Int×Unit) (fun (o0_0_0,o0_0_1,_)=>
 (bif (decide (o0_0_1<(o0_0_0.size:Int))) then
 ck (ib o0_0_1 o0_0_0.size)<|
 let e1:Int:=(bu o0_0_0 (Int.toNat o0_0_1))
 (ge.F (e1,())).bind fun y2=>
 jn (S:=Bool×Unit) (
 aK (S:=Bool×Int×Unit) (fun (x7',x36',_)=>
 (bif (decide (x36'<(p1.length:Int))) then
 ck (ib x36' p1.length)<|
 let e3:Int:=(gt p1 x36' (0:Int))
 (bif x7' then
 let e4:Int:=(wr (x36'+(1:Int)))
 il (true,e4,())
 else
 let e5:Int:=(wr (x36'+(1:Int)))
 il ((e3==y2.1),e5,()))
 else
 ir (.inl (x7',())))) (false,(0:Int),())) fun (x7_6,_)=>
 (bif (!x7_6) then
 ir (.inl (o0_0_0,o0_0_1,()))
 else
 let e7:Int:=(wr (o0_0_1+(1:Int)))
 il (o0_0_0,e7,()))
 else
 ir (.inl (o0_0_0,o0_0_1,())))) (o0_0,o0_1,())) fun (o0_0_0_8,o0_0_1_8,_)=>
 ck (sb o0_1 o0_0_1_8 o0_0_0_8.size)<|
 let e9:ByteArray:=(o0_0_0_8.extract (Int.toNat o0_1) (Int.toNat o0_0_1_8))
 some (e9,o0_0_0_8,o0_0_1_8,())
noncomputable def bB.F:=stk bB.B
theorem bB.eq:bB.F=bB.B:=aq _
theorem bB.k:Kk ge.s [] [] Tryz.f263 bB.d bB.B:={}
noncomputable def bB.s:SpL:=bB.d.e [] bB.F::ge.s
theorem bB.c:Ck bB.s []:=cS ge.c bB.k
def fq.d:Fe:=⟨299,1,⟨[(0,.v false [.str])],[],[],0,[]⟩,⟨[(0,.v false [.bool])],[],[],1000,[]⟩,(.s none .n (.s (some ⟨[],[],[0],0,[]⟩) .n .n))⟩
noncomputable def fq.B:ByteArray×Unit→Option (Bool×Unit):=fun (p0,_)=>
 jn (S:=Unit) (
 (bif (sq p0 (⟨#[]⟩:ByteArray)) then
 ir (false,())
 else
 (bif (decide ((p0.size:Int)>(30:Int))) then
 ir (false,())
 else
 ck (ib (0:Int) p0.size)<|
 let e1:Int:=(bu p0 0)
 (ge.F (e1,())).bind fun y2=>
 (bif (y2.1 !=(1:Int)) then
 ir (false,())
 else
 il (()))))) fun (_)=>
 (bB.F ([(1:Int),(2:Int),(3:Int)],p0,(0:Int),())).bind fun y4=>
 some ((sq y4.1 p0),())
noncomputable def fq.F:=stk fq.B
theorem fq.eq:fq.F=fq.B:=aq _
theorem fq.k:Kk bB.s [] [] Tryz.f299 fq.d fq.B:={}
noncomputable def fq.s:SpL:=fq.d.e [] fq.F::bB.s
theorem fq.c:Ck fq.s []:=cS bB.c fq.k
def dm.d:Fe:=⟨96,1,⟨[(0,.v true [.int .i64,.int .i64,.str])],[],[],0,[]⟩,⟨[(0,.v false [.bool])],[],[],1000,[]⟩,.n⟩
noncomputable def dm.B:Int×Int×ByteArray×Unit→Option (Bool×Unit):=fun (p0_0,p0_1,p0_2,_)=>
 (bif (p0_0==(0:Int)) then
 some ((Ty.eq bh (p0_0,(p0_1,p0_2)) ((0:Int),((0:Int),(⟨#[]⟩:ByteArray)))),())
 else
 (bif (p0_0==(1:Int)) then
 (bif (p0_1==(0:Int)) then
 some ((sq p0_2 (⟨#[]⟩:ByteArray)),())
 else
 (bif (p0_1==(1:Int)) then
 some ((sq p0_2 (⟨#[]⟩:ByteArray)),())
 else
 some (false,())))
 else
 (bif (p0_0==(2:Int)) then
 some ((sq p0_2 (⟨#[]⟩:ByteArray)),())
 else
 (bif (p0_0==(3:Int)) then
 (bif (p0_1==(0:Int)) then
 some ((decide ((p0_2.size:Int)≤(1000:Int))),())
 else
 some (false,()))
 else
 some (false,())))))
noncomputable def dm.F:=stk dm.B
theorem dm.eq:dm.F=dm.B:=aq _
theorem dm.k:Kk fq.s [] [] Tryz.f96 dm.d dm.B:={}
noncomputable def dm.s:SpL:=dm.d.e [] dm.F::fq.s
theorem dm.c:Ck dm.s []:=cS fq.c dm.k
def strings_Contains.d:Fe:=⟨293,2,⟨[(0,.v false [.str]),(1,.v false [.str])],[],[],0,[]⟩,⟨[(0,.v false [.bool])],[],[],1000,[]⟩,.n⟩
noncomputable def strings_Contains.B:TS strings_Contains.d.si→Option (TS strings_Contains.d.so):=ql
noncomputable def strings_Contains.F:=stk strings_Contains.B
theorem strings_Contains.eq:strings_Contains.F=strings_Contains.B:=aq _
theorem strings_Contains.ok:fk PP 293 ⟨2,strings_Contains.d.si,strings_Contains.d.so,strings_Contains.F⟩:=by
 rw [strings_Contains.eq]
 exact sH
noncomputable def strings_Contains.s:SpL:=strings_Contains.d.e [] strings_Contains.F::dm.s
theorem strings_Contains.c:Ck strings_Contains.s []:=gK.consS dm.c [] ⟨_,Tryz.func293,by kernel_rfl,by decide⟩ strings_Contains.ok
def fj.d:Fe:=⟨283,1,⟨[(0,.v true [.int .i64,.str,.int .i64,.int .i64,.str])],[],[],0,[]⟩,⟨[(0,.v false [.bool])],[],[],1000,[]⟩,.n⟩
noncomputable def fj.B:Int×ByteArray×Int×Int×ByteArray×Unit→Option (Bool×Unit):=fun (p0_0,p0_1,p0_2,p0_3,p0_4,_)=>
 (bif (p0_0==(0:Int)) then
 (fq.F (p0_1,())).bind fun y1=>
 (bif y1.1 then
 some ((Ty.eq bh (p0_2,(p0_3,p0_4)) ((0:Int),((0:Int),(⟨#[]⟩:ByteArray)))),())
 else
 some (false,()))
 else
 (bif (p0_0==(1:Int)) then
 (bif (sq p0_1 (⟨#[]⟩:ByteArray)) then
 (dm.F (p0_2,p0_3,p0_4,())).bind fun y2=>
 (bif y2.1 then
 some ((decide (p0_2≥(2:Int))),())
 else
 some (false,()))
 else
 some (false,()))
 else
 (bif (p0_0==(2:Int)) then
 (bif ((p0_1.size:Int)==(1:Int)) then
 (strings_Contains.F ((⟨#[40,41,91,93,44,61,60,43,45,42,63]⟩:ByteArray),p0_1,())).bind fun y3=>
 (bif y3.1 then
 some ((Ty.eq bh (p0_2,(p0_3,p0_4)) ((0:Int),((0:Int),(⟨#[]⟩:ByteArray)))),())
 else
 some (false,()))
 else
 some (false,()))
 else
 some (false,()))))
noncomputable def fj.F:=stk fj.B
theorem fj.eq:fj.F=fj.B:=aq _
theorem fj.k:Kk strings_Contains.s [] [] Tryz.f283 fj.d fj.B:={}
noncomputable def fj.s:SpL:=fj.d.e [] fj.F::strings_Contains.s
theorem fj.c:Ck fj.s []:=cS strings_Contains.c fj.k
def ba.d:Fe:=⟨324,1,⟨[(0,.v false [.bool])],[],[],0,[]⟩,⟨[(0,.v false [.str])],[],[],1000,[]⟩,.n⟩
noncomputable def ba.B:Bool×Unit→Option (ByteArray×Unit):=fun (p0,_)=>
 (bif p0 then
 some ((⟨#[116,114,117,101]⟩:ByteArray),())
 else
 some ((⟨#[102,97,108,115,101]⟩:ByteArray),()))
noncomputable def ba.F:=stk ba.B
theorem ba.eq:ba.F=ba.B:=aq _
theorem ba.k:Kk fj.s [] [] Tryz.f324 ba.d ba.B:={}
noncomputable def ba.s:SpL:=ba.d.e [] ba.F::fj.s
theorem ba.c:Ck ba.s []:=cS fj.c ba.k
def cu.d:Fe:=⟨312,1,⟨[(0,.v false [.bool])],[],[],0,[]⟩,⟨[(0,.v false [.str])],[],[],1000,[]⟩,.n⟩
noncomputable def cu.B:Bool×Unit→Option (ByteArray×Unit):=fun (p0,_)=>
 (ba.F (p0,())).bind fun y1=>
 some (y1.1,())
noncomputable def cu.F:=stk cu.B
theorem cu.eq:cu.F=cu.B:=aq _
theorem cu.k:Kk ba.s [] [] Tryz.f312 cu.d cu.B:={}
noncomputable def cu.s:SpL:=cu.d.e [] cu.F::ba.s
theorem cu.c:Ck cu.s []:=cS ba.c cu.k
def strings_ReplaceAll.d:Fe:=⟨313,3,⟨[(0,.v false [.str]),(1,.v false [.str]),(2,.v false [.str])],[],[],0,[]⟩,⟨[(0,.v false [.str])],[],[],1000,[]⟩,.n⟩
noncomputable def strings_ReplaceAll.B:TS strings_ReplaceAll.d.si→Option (TS strings_ReplaceAll.d.so):=sI
noncomputable def strings_ReplaceAll.F:=stk strings_ReplaceAll.B
theorem strings_ReplaceAll.eq:strings_ReplaceAll.F=strings_ReplaceAll.B:=aq _
theorem strings_ReplaceAll.ok:fk PP 313 ⟨3,strings_ReplaceAll.d.si,strings_ReplaceAll.d.so,strings_ReplaceAll.F⟩:=by
 rw [strings_ReplaceAll.eq]
 exact uj
noncomputable def strings_ReplaceAll.s:SpL:=strings_ReplaceAll.d.e [] strings_ReplaceAll.F::cu.s
theorem strings_ReplaceAll.c:Ck strings_ReplaceAll.s []:=gK.consS cu.c [] ⟨_,Tryz.func313,by kernel_rfl,by decide⟩ strings_ReplaceAll.ok
def dF.d:Fe:=⟨300,1,⟨[(0,.v true [.int .i64,.int .i64,.str])],[],[],0,[]⟩,⟨[(0,.v false [.str])],[],[],1000,[]⟩,.n⟩
noncomputable def dF.B:Int×Int×ByteArray×Unit→Option (ByteArray×Unit):=fun (p0_0,p0_1,p0_2,_)=>
 (bif (p0_0==(0:Int)) then
 some ((⟨#[110,117,108,108]⟩:ByteArray),())
 else
 (bif (p0_0==(1:Int)) then
 (cu.F ((p0_1 !=(0:Int)),())).bind fun y1=>
 some (y1.1,())
 else
 (bif (p0_0==(2:Int)) then
 (strconv_Itoa.F (p0_1,())).bind fun y2=>
 some (y2.1,())
 else
 (bif (p0_0==(3:Int)) then
 (strings_ReplaceAll.F (p0_2,(⟨#[39]⟩:ByteArray),(⟨#[39,39]⟩:ByteArray),())).bind fun y3=>
 ck (ca (⟨#[39]⟩:ByteArray) y3.1)<|
 let e4:ByteArray:=((⟨#[39]⟩:ByteArray)++y3.1)
 ck (ca e4 (⟨#[39]⟩:ByteArray))<|
 let e5:ByteArray:=(e4++(⟨#[39]⟩:ByteArray))
 some (e5,())
 else
 some ((⟨#[63]⟩:ByteArray),())))))
noncomputable def dF.F:=stk dF.B
theorem dF.eq:dF.F=dF.B:=aq _
theorem dF.k:Kk strings_ReplaceAll.s [] [] Tryz.f300 dF.d dF.B:={}
noncomputable def dF.s:SpL:=dF.d.e [] dF.F::strings_ReplaceAll.s
theorem dF.c:Ck dF.s []:=cS strings_ReplaceAll.c dF.k
def strings_Join.d:Fe:=⟨206,2,⟨[(0,.v false [.sl 9 .str]),(1,.v false [.str])],[],[],0,[]⟩,⟨[(0,.v false [.str])],[],[],1000,[]⟩,.n⟩
noncomputable def strings_Join.B:TS strings_Join.d.si→Option (TS strings_Join.d.so):=fun (xs,sep,_)=>if xs.length≤140737488355328∧(jp xs sep).size≤140737488355328 then some (jp xs sep,()) else none
noncomputable def strings_Join.F:=stk strings_Join.B
theorem strings_Join.eq:strings_Join.F=strings_Join.B:=aq _
theorem strings_Join.ok:fk PP 206 ⟨2,strings_Join.d.si,strings_Join.d.so,strings_Join.F⟩:=by
 rw [strings_Join.eq]
 exact An
noncomputable def strings_Join.s:SpL:=strings_Join.d.e [] strings_Join.F::dF.s
theorem strings_Join.c:Ck strings_Join.s []:=gK.consS dF.c [] ⟨_,Tryz.func206,by kernel_rfl,by decide⟩ strings_Join.ok
def dP.d:Fe:=⟨284,1,⟨[(0,.v false [.sl 195 dI])],[],[],0,[]⟩,⟨[(0,.v false [.str])],[],[],1000,[]⟩,(.s none .n (.s none .n (.s (some ⟨[(3,.v false [.ref 0])],[(0,false,.arr 9 .str)],[],1,[]⟩) (.s none .n (.b (.l ⟨[(3,.v false [.ref 0]),(8,.v false [.int .i64])],[(0,false,.arr 9 .str)],[6,7],1,[]⟩ .n))) .n)))⟩
noncomputable def dP.B:(List aU)×Unit→Option (ByteArray×Unit):=fun (p0,_)=>
 jn (S:=(List ByteArray)×Unit) (
 aK (S:=Int×(List ByteArray)×Unit) (fun (x8,o3_0,_)=>
 (bif (decide (x8<(p0.length:Int))) then
 ck (ib x8 p0.length)<|
 let e1:aU:=(gt p0 x8 dI.z)
 (fj.F (e1.1,e1.2.1,e1.2.2.1,e1.2.2.2.1,e1.2.2.2.2,())).bind fun y2=>
 (bif (!y2.1) then
 ir (.inr ((⟨#[]⟩:ByteArray),()))
 else
 (bif (e1.1==(1:Int)) then
 (dF.F (e1.2.2.1,e1.2.2.2.1,e1.2.2.2.2,())).bind fun y3=>
 ck (Nat.ble (o3_0.length+ [y3.1].length) 8796093022208)<|
 let e4:Int:=(wr (x8+(1:Int)))
 il (e4,(o3_0++ [y3.1]),())
 else
 ck (Nat.ble (o3_0.length+ [e1.2.1].length) 8796093022208)<|
 let e5:Int:=(wr (x8+(1:Int)))
 il (e5,(o3_0++ [e1.2.1]),())))
 else
 ir (.inl (o3_0,())))) ((0:Int),[],())) fun (o3_0_6,_)=>
 (strings_Join.F (o3_0_6,(⟨#[32]⟩:ByteArray),())).bind fun y7=>
 some (y7.1,())
noncomputable def dP.F:=stk dP.B
theorem dP.eq:dP.F=dP.B:=aq _
theorem dP.k:Kk strings_Join.s [] [] Tryz.f284 dP.d dP.B:={}
noncomputable def dP.s:SpL:=dP.d.e [] dP.F::strings_Join.s
theorem dP.c:Ck dP.s []:=cS strings_Join.c dP.k
def cN.d:Fe:=⟨259,1,⟨[(0,.v true [.int .i64,.int .i64,.str])],[],[],0,[]⟩,⟨[(0,.v false [.str])],[],[],1000,[]⟩,.n⟩
noncomputable def cN.B:TS cN.d.si→Option (TS cN.d.so):=fun (a,b,s,_)=>
 let e:ByteArray:=(⟨#[]⟩:ByteArray)
 bif (a==(0:Int))&&(b==(0:Int))&&(s==e) then some ((⟨#[110,117,108,108]⟩:ByteArray),())
 else bif (a==(1:Int))&&(b==(0:Int))&&(s==e) then some ((⟨#[102,97,108,115,101]⟩:ByteArray),())
 else bif (a==(1:Int))&&(b==(1:Int))&&(s==e) then some ((⟨#[116,114,117,101]⟩:ByteArray),())
 else Option.bind (fj.F ((1:Int),e,a,b,s,())) fun y=>
 bif (!y.1) then some ((⟨#[33]⟩:ByteArray),()) else Option.bind (dP.F ([((1:Int),e,a,b,s)],())) fun z=>some (z.1,())
noncomputable def cN.F:=stk cN.B
theorem cN.eq:cN.F=cN.B:=aq _
theorem cN.ok:fk PP 259 ⟨1,cN.d.si,cN.d.so,cN.F⟩:=by
 rw [cN.eq]
 exact wQ dP.c (k9 dP.c mixed) .n (fun a b s=>Option.bind (fj.F ((1:Int),(⟨#[]⟩:ByteArray),a,b,s,())) fun y=>bif (!y.1) then some ((⟨#[33]⟩:ByteArray),()) else Option.bind (dP.F ([((1:Int),(⟨#[]⟩:ByteArray),a,b,s)],())) fun z=>some (z.1,())) (fun a b s=>by kernel_rfl)
noncomputable def cN.s:SpL:=cN.d.e [] cN.F::dP.s
theorem cN.c:Ck cN.s []:=gK.consS dP.c [] ⟨_,Tryz.func259,by kernel_rfl,by decide⟩ cN.ok
def bZ.d:Fe:=⟨229,2,⟨[(0,.v false [.ptr 0 0]),(1,.v false [.sl 126 bD])],[(0,true,.box 243 [.ref 1]),(1,true,.arr 9 .str)],[],2,[]⟩,⟨[(0,.tup [])],[(0,true,.box 243 [.ref 1001]),(1001,false,.arr 9 .str)],[],1002,[(0,0)]⟩,(.s none .n (.s (some ⟨[(0,.v false [.ptr 0 0])],[(0,true,.box 243 [.ref 1]),(1,false,.arr 9 .str)],[],2,[]⟩) (.s none .n (.b (.l ⟨[(0,.v false [.ptr 0 0]),(11,.v false [.int .i64])],[(0,true,.box 243 [.ref 1]),(1,false,.arr 9 .str)],[9,10],2,[]⟩ .n))) .n))⟩
noncomputable def bZ.B:(List ao)×(List ByteArray)×Unit→Option ((List ByteArray)×Unit):=fun (p1,o0_0,_)=>
 (bd.F ([(⟨#[91]⟩:ByteArray)],o0_0,())).bind fun y1=>
 jn (S:=(List ByteArray)×Unit) (
 aK (S:=Int×(List ByteArray)×Unit) (fun (x11,o0_0_0,_)=>
 (bif (decide (x11<(p1.length:Int))) then
 ck (ib x11 p1.length)<|
 let e2:ao:=(gt p1 x11 bD.z)
 (bif (e2.1==(0:Int)) then
 (strconv_Itoa.F (e2.2.1,())).bind fun y3=>
 ck (ca (⟨#[99]⟩:ByteArray) y3.1)<|
 let e4:ByteArray:=((⟨#[99]⟩:ByteArray)++y3.1)
 (bd.F ([e4],o0_0_0,())).bind fun y5=>
 let e6:Int:=(wr (x11+(1:Int)))
 il (e6,y5.1,())
 else
 (bif (e2.1==(1:Int)) then
 (cN.F (e2.2.2.1,e2.2.2.2.1,e2.2.2.2.2,())).bind fun y7=>
 (bd.F ([y7.1],o0_0_0,())).bind fun y8=>
 let e9:Int:=(wr (x11+(1:Int)))
 il (e9,y8.1,())
 else
 let e10:Int:=(wr (e2.1-(2:Int)))
 (eZ.F (e10,[(⟨#[43]⟩:ByteArray),(⟨#[45]⟩:ByteArray),(⟨#[42]⟩:ByteArray),(⟨#[61]⟩:ByteArray),(⟨#[60]⟩:ByteArray),(⟨#[97,110,100]⟩:ByteArray),(⟨#[111,114]⟩:ByteArray),(⟨#[110,111,116]⟩:ByteArray),(⟨#[110,117,108,108,32,63]⟩:ByteArray)],())).bind fun y11=>
 (bd.F ([y11.1],o0_0_0,())).bind fun y12=>
 let e13:Int:=(wr (x11+(1:Int)))
 il (e13,y12.1,())))
 else
 ir (.inl (o0_0_0,())))) ((0:Int),y1.1,())) fun (o0_0_0_14,_)=>
 (bd.F ([(⟨#[93]⟩:ByteArray)],o0_0_0_14,())).bind fun y15=>
 some (y15.1,())
noncomputable def bZ.F:=stk bZ.B
theorem bZ.eq:bZ.F=bZ.B:=aq _
theorem bZ.k:Kk cN.s [] [] Tryz.f229 bZ.d bZ.B:={}
noncomputable def bZ.s:SpL:=bZ.d.e [] bZ.F::cN.s
theorem bZ.c:Ck bZ.s []:=cS cN.c bZ.k
def bH.d:Fe:=⟨204,2,⟨[(0,.v false [.ptr 0 0]),(1,.v true [.str,.sl 75 aX,.sl 78 (.sl 126 bD)])],[(0,true,.box 243 [.ref 1]),(1,true,.arr 9 .str)],[],2,[]⟩,⟨[(0,.tup [])],[(0,true,.box 243 [.ref 1001]),(1001,false,.arr 9 .str)],[],1002,[(0,0)]⟩,(.s none .n (.s none .n (.s none .n (.s none .n (.s none .n (.b (.l ⟨[(2,.v false [.ptr 0 0]),(23,.v false [.int .i64])],[(0,true,.box 241 [.ptr 1 0]),(1,true,.box 243 [.ref 2]),(2,false,.arr 9 .str)],[21,22],3,[]⟩ .n)))))))⟩
noncomputable def bH.l:InT:=[(225,[(2,226)],Tryz.f225,(.s none .n (.b (.l ⟨[(0,.v false [.ptr 0 0]),(8,.v false [.int .i64])],[(0,true,.box 243 [.ref 1]),(1,false,.arr 9 .str)],[2,7],2,[]⟩ (.s none .n (.s none .n (.s (some ⟨[(0,.v false [.ptr 0 0])],[(0,true,.box 243 [.ref 1]),(1,false,.arr 9 .str)],[2,7,8],2,[]⟩) .n .n))))))),(226,[],Tryz.f226,.n)]
noncomputable def bH.B:ByteArray×(List aC)×(List (List ao))×(List ByteArray)×Unit→Option ((List ByteArray)×Unit):=fun (p1_0,p1_1,p1_2,o0_0,_)=>
 (bd.F ([(⟨#[116,97,98,108,101]⟩:ByteArray),p1_0,(⟨#[40]⟩:ByteArray)],o0_0,())).bind fun y1=>
 aK (S:=Int×(List ByteArray)×Unit) (fun (x8,o0_0_0,_)=>
 (bif (decide (x8<(p1_1.length:Int))) then
 jn (S:=(List ByteArray)×Unit) (
 (bm.F ((decide (x8>(0:Int))),[(⟨#[44]⟩:ByteArray)],o0_0_0,())).bind fun y2=>
 ck (ib x8 p1_1.length)<|
 let e3:aC:=(gt p1_1 x8 aX.z)
 let e4:Int:=(wr (e3.2.1-(1:Int)))
 (eZ.F (e4,[(⟨#[98,111,111,108]⟩:ByteArray),(⟨#[105,110,116]⟩:ByteArray),(⟨#[116,101,120,116]⟩:ByteArray)],())).bind fun y5=>
 (bd.F ([e3.1,y5.1],y2.1,())).bind fun y6=>
 (bm.F (e3.2.2.1,[(⟨#[110,117,108,108]⟩:ByteArray)],y6.1,())).bind fun y7=>
 (bm.F (e3.2.2.2.1,[(⟨#[117,110,105,113,117,101]⟩:ByteArray)],y7.1,())).bind fun y8=>
 (eZ.F (e3.2.2.2.2.2,[(⟨#[114,101,115,116,114,105,99,116]⟩:ByteArray),(⟨#[99,97,115,99,97,100,101]⟩:ByteArray),(⟨#[115,101,116,110,117,108,108]⟩:ByteArray)],())).bind fun y9=>
 (bm.F ((!sq e3.2.2.2.2.1 (⟨#[]⟩:ByteArray)),[(⟨#[114,101,102]⟩:ByteArray),e3.2.2.2.2.1,y9.1],y8.1,())).bind fun y10=>
 il (y10.1,())) fun (o0_0_0_11,_)=>
 let e12:Int:=(wr (x8+(1:Int)))
 il (e12,o0_0_0_11,())
 else
 Option.map Sum.inr ((bd.F ([(⟨#[41]⟩:ByteArray)],o0_0_0,())).bind fun y13=>
 aK (S:=Int×(List ByteArray)×Unit) (fun (x23,o2_0_0_0,_)=>
 (bif (decide (x23<(p1_2.length:Int))) then
 ck (ib x23 p1_2.length)<|
 let e14:(List ao):=(gt p1_2 x23 [])
 (bd.F ([(⟨#[99,104,101,99,107]⟩:ByteArray)],o2_0_0_0,())).bind fun y15=>
 (bZ.F (e14,y15.1,())).bind fun y16=>
 let e17:Int:=(wr (x23+(1:Int)))
 il (e17,y16.1,())
 else
 ir (o2_0_0_0,()))) ((0:Int),y13.1,())))) ((0:Int),y1.1,())
noncomputable def bH.F:=stk bH.B
theorem bH.eq:bH.F=bH.B:=aq _
theorem bH.k:Kk bZ.s [] bH.l Tryz.f204 bH.d bH.B:={}
noncomputable def bH.s:SpL:=bH.d.e [] bH.F::bZ.s
theorem bH.c:Ck bH.s []:=cS bZ.c bH.k
def bR.d:Fe:=⟨205,2,⟨[(0,.v false [.ptr 0 0]),(1,.v true [.str,.str,.str,.int .i64,.int .i64,.sl 126 bD,.sl 3 (.int .i64),.bool,.sl 156 dW])],[(0,true,.box 243 [.ref 1]),(1,true,.arr 9 .str)],[],2,[]⟩,⟨[(0,.tup [])],[(0,true,.box 243 [.ref 1001]),(1001,false,.arr 9 .str)],[],1002,[(0,0)]⟩,(.s none .n (.s none .n (.s none .n (.s (some ⟨[(2,.v false [.ptr 0 0])],[(0,true,.box 241 [.ptr 1 0]),(1,true,.box 243 [.ref 2]),(2,false,.arr 9 .str)],[3,4],3,[]⟩) .n (.s (some ⟨[(2,.v false [.ptr 0 0])],[(0,true,.box 241 [.ptr 1 0]),(1,true,.box 243 [.ref 2]),(2,false,.arr 9 .str)],[3,4],3,[]⟩) .n .n)))))⟩
noncomputable def bR.l:InT:=[(225,[(2,231)],Tryz.f225,(.s none .n (.b (.l ⟨[(0,.v false [.ptr 0 0]),(8,.v false [.int .i64])],[(0,true,.box 243 [.ref 1]),(1,false,.arr 9 .str)],[2,7],2,[]⟩ (.s none .n (.s none .n (.s (some ⟨[(0,.v false [.ptr 0 0])],[(0,true,.box 243 [.ref 1]),(1,false,.arr 9 .str)],[2,7,8],2,[]⟩) .n .n))))))),(225,[(2,232)],Tryz.f225,(.s none .n (.b (.l ⟨[(0,.v false [.ptr 0 0]),(8,.v false [.int .i64])],[(0,true,.box 243 [.ref 1]),(1,false,.arr 9 .str)],[2,7],2,[]⟩ (.s none .n (.s none .n (.s (some ⟨[(0,.v false [.ptr 0 0])],[(0,true,.box 243 [.ref 1]),(1,false,.arr 9 .str)],[2,7,8],2,[]⟩) .n .n))))))),(231,[],Tryz.f231,.n),(232,[],Tryz.f232,.n)]
noncomputable def bR.B:ByteArray×ByteArray×ByteArray×Int×Int×(List ao)×(List Int)×Bool×(List cH)×(List ByteArray)×Unit→Option ((List ByteArray)×Unit):=fun (p1_0,p1_1,p1_2,p1_3,p1_4,p1_5,p1_6,p1_7,p1_8,o0_0,_)=>
 (bd.F ([(⟨#[118,105,101,119]⟩:ByteArray),p1_0,(⟨#[102,114,111,109]⟩:ByteArray),p1_1],o0_0,())).bind fun y1=>
 jn (S:=(List ByteArray)×Unit) (
 ck (ib (0:Int) 2)<|
 (strconv_Itoa.F (p1_3,())).bind fun y2=>
 ck (ib (1:Int) 2)<|
 (strconv_Itoa.F (p1_4,())).bind fun y3=>
 (bm.F ((!sq p1_2 (⟨#[]⟩:ByteArray)),[(⟨#[106,111,105,110]⟩:ByteArray),p1_2,(⟨#[111,110]⟩:ByteArray),y2.1,(⟨#[61]⟩:ByteArray),y3.1],y1.1,())).bind fun y4=>
 il (y4.1,())) fun (o2_0_0_0_5,_)=>
 jn (S:=(List ByteArray)×Unit) (
 (bif (decide ((p1_5.length:Int)>(0:Int))) then
 (bd.F ([(⟨#[119,104,101,114,101]⟩:ByteArray)],o2_0_0_0_5,())).bind fun y6=>
 (bZ.F (p1_5,y6.1,())).bind fun y7=>
 il (y7.1,())
 else
 il (o2_0_0_0_5,()))) fun (o2_0_0_0_8,_)=>
 (bd.F ([(⟨#[112,105,99,107]⟩:ByteArray)],o2_0_0_0_8,())).bind fun y9=>
 aK (S:=Int×(List ByteArray)×Unit) (fun (x8,o0_0_0,_)=>
 (bif (decide (x8<(p1_6.length:Int))) then
 jn (S:=(List ByteArray)×Unit) (
 (bm.F ((decide (x8>(0:Int))),[(⟨#[44]⟩:ByteArray)],o0_0_0,())).bind fun y10=>
 ck (ib x8 p1_6.length)<|
 let e11:Int:=(gt p1_6 x8 (0:Int))
 (strconv_Itoa.F (e11,())).bind fun y12=>
 (bd.F ([y12.1],y10.1,())).bind fun y13=>
 il (y13.1,())) fun (o0_0_0_14,_)=>
 let e15:Int:=(wr (x8+(1:Int)))
 il (e15,o0_0_0_14,())
 else
 Option.map Sum.inr ((bm.F (p1_7,[(⟨#[103,114,111,117,112]⟩:ByteArray)],o0_0_0,())).bind fun y16=>
 aK (S:=Int×(List ByteArray)×Unit) (fun (x8,o0_0_0,_)=>
 (bif (decide (x8<(p1_8.length:Int))) then
 jn (S:=(List ByteArray)×Unit) (
 (bm.F ((decide (x8>(0:Int))),[(⟨#[44]⟩:ByteArray)],o0_0_0,())).bind fun y17=>
 ck (ib x8 p1_8.length)<|
 let e18:cH:=(gt p1_8 x8 dW.z)
 (eZ.F (e18.1,[(⟨#[99,111,117,110,116]⟩:ByteArray),(⟨#[115,117,109]⟩:ByteArray),(⟨#[109,105,110]⟩:ByteArray),(⟨#[109,97,120]⟩:ByteArray)],())).bind fun y19=>
 (bd.F ([y19.1],y17.1,())).bind fun y20=>
 (strconv_Itoa.F (e18.2,())).bind fun y21=>
 (bm.F ((e18.1 !=(0:Int)),[y21.1],y20.1,())).bind fun y22=>
 il (y22.1,())) fun (o0_0_0_23,_)=>
 let e24:Int:=(wr (x8+(1:Int)))
 il (e24,o0_0_0_23,())
 else
 ir (o0_0_0,()))) ((0:Int),y16.1,())))) ((0:Int),y9.1,())
noncomputable def bR.F:=stk bR.B
theorem bR.eq:bR.F=bR.B:=aq _
theorem bR.k:Kk bH.s [] bR.l Tryz.f205 bR.d bR.B:={}
noncomputable def bR.s:SpL:=bR.d.e [] bR.F::bH.s
theorem bR.c:Ck bR.s []:=cS bH.c bR.k
def aY.d:Fe:=⟨289,2,⟨[(0,.v false [.ptr 0 0]),(1,.v false [.int .i64])],[(0,true,.box 296 [.str,.int .i64])],[],1,[]⟩,⟨[(0,.v false [.int .u8])],[(0,true,.box 296 [.str,.int .i64])],[],1001,[(0,0)]⟩,.n⟩
noncomputable def aY.B:Int×ByteArray×Int×Unit→Option (Int×ByteArray×Int×Unit):=fun (p1,o0_0,o0_1,_)=>
 let e1:Int:=(wr (o0_1+p1))
 (bif (decide (e1≥(o0_0.size:Int))) then
 some ((0:Int),o0_0,o0_1,())
 else
 let e2:Int:=(wr (o0_1+p1))
 ck (ib e2 o0_0.size)<|
 let e3:Int:=(bu o0_0 (Int.toNat e2))
 some (e3,o0_0,o0_1,()))
noncomputable def aY.F:=stk aY.B
theorem aY.eq:aY.F=aY.B:=aq _
theorem aY.k:Kk bR.s [] [] Tryz.f289 aY.d aY.B:={}
noncomputable def aY.s:SpL:=aY.d.e [] aY.F::bR.s
theorem aY.c:Ck aY.s []:=cS bR.c aY.k
def cg.d:Fe:=⟨290,1,⟨[(0,.v false [.ptr 0 0])],[(0,true,.box 296 [.str,.int .i64])],[],1,[]⟩,⟨[(0,.tup [(true,[.int .i64,.str,.int .i64,.int .i64,.str]),(false,[.bool])])],[(0,true,.box 296 [.str,.int .i64])],[],1001,[(0,0)]⟩,.n⟩
noncomputable def cg.B:ByteArray×Int×Unit→Option (Int×ByteArray×Int×Int×ByteArray×Bool×ByteArray×Int×Unit):=fun (o0_0,o0_1,_)=>
 (bB.F ([(1:Int),(2:Int),(3:Int)],o0_0,o0_1,())).bind fun y1=>
 some ((0:Int),y1.1,(0:Int),(0:Int),(⟨#[]⟩:ByteArray),(decide ((y1.1.size:Int)≤(30:Int))),y1.2.1,y1.2.2.1,())
noncomputable def cg.F:=stk cg.B
theorem cg.eq:cg.F=cg.B:=aq _
theorem cg.k:Kk aY.s [] [] Tryz.f290 cg.d cg.B:={}
noncomputable def cg.s:SpL:=cg.d.e [] cg.F::aY.s
theorem cg.c:Ck cg.s []:=cS aY.c cg.k
def cB.d:Fe:=⟨305,1,⟨[(0,.v false [.str])],[],[],0,[]⟩,⟨[(0,.tup [(false,[.int .i64]),(false,[.ifc])])],[],[],1000,[]⟩,.n⟩
noncomputable def cB.B:TS cB.d.si→Option (TS cB.d.so):=BE
noncomputable def cB.F:=stk cB.B
theorem cB.eq:cB.F=cB.B:=aq _
theorem cB.ok:fk PP 305 ⟨1,cB.d.si,cB.d.so,cB.F⟩:=by
 rw [cB.eq]
 exact Ao
noncomputable def cB.s:SpL:=cB.d.e [] cB.F::cg.s
theorem cB.c:Ck cB.s []:=gK.consS cg.c [] ⟨_,Tryz.func305,by kernel_rfl,by decide⟩ cB.ok
def bL.d:Fe:=⟨291,1,⟨[(0,.v false [.ptr 0 0])],[(0,true,.box 296 [.str,.int .i64])],[],1,[]⟩,⟨[(0,.tup [(true,[.int .i64,.str,.int .i64,.int .i64,.str]),(false,[.bool])])],[(0,true,.box 296 [.str,.int .i64])],[],1001,[(0,0)]⟩,(.s none .n (.s none .n (.s (some ⟨[(0,.v false [.ptr 0 0]),(4,.v false [.str])],[(0,true,.box 296 [.str,.int .i64])],[2],1,[]⟩) .n .n)))⟩
noncomputable def bL.B:ByteArray×Int×Unit→Option (Int×ByteArray×Int×Int×ByteArray×Bool×ByteArray×Int×Unit):=fun (o0_0,o0_1,_)=>
 jn (S:=ByteArray×ByteArray×Int×Unit) (
 (aY.F ((0:Int),o0_0,o0_1,())).bind fun y1=>
 (bif (y1.1==(45:Int)) then
 let e2:Int:=(wr (y1.2.2.1+(1:Int)))
 il ((⟨#[45]⟩:ByteArray),y1.2.1,e2,())
 else
 il ((⟨#[]⟩:ByteArray),y1.2.1,y1.2.2.1,()))) fun (x4_3,o0_0_0_3,o0_0_1_3,_)=>
 (bB.F ([(2:Int)],o0_0_0_3,o0_0_1_3,())).bind fun y4=>
 ck (ca x4_3 y4.1)<|
 let e5:ByteArray:=(x4_3++y4.1)
 (cB.F (e5,())).bind fun y6=>
 (bif y6.2.1 then
 (strconv_Itoa.F (y6.1,())).bind fun y7=>
 some ((1:Int),(⟨#[]⟩:ByteArray),(2:Int),y6.1,(⟨#[]⟩:ByteArray),(sq y7.1 e5),y4.2.1,y4.2.2.1,())
 else
 some ((1:Int),(⟨#[]⟩:ByteArray),(2:Int),y6.1,(⟨#[]⟩:ByteArray),false,y4.2.1,y4.2.2.1,()))
noncomputable def bL.F:=stk bL.B
theorem bL.eq:bL.F=bL.B:=aq _
theorem bL.k:Kk cB.s [] [] Tryz.f291 bL.d bL.B:={}
noncomputable def bL.s:SpL:=bL.d.e [] bL.F::cB.s
theorem bL.c:Ck bL.s []:=cS cB.c bL.k
def aZ.d:Fe:=⟨235,1,⟨[(0,.v false [.ptr 0 0])],[(0,true,.box 263 [.np 0,.ref 1]),(1,true,.arr 5 (.int .u8))],[],2,[]⟩,⟨[(0,.v false [.str])],[],[],1000,[]⟩,.n⟩
noncomputable def aZ.B:TS aZ.d.si→Option (TS aZ.d.so):=fun (bs,_)=>if (∀x∈bs,0≤x∧x<256) then some (bytesOf bs,()) else none
noncomputable def aZ.F:=stk aZ.B
theorem aZ.eq:aZ.F=aZ.B:=aq _
theorem aZ.ok:fk PP 235 ⟨1,aZ.d.si,aZ.d.so,aZ.F⟩:=by
 rw [aZ.eq]
 exact wM
noncomputable def aZ.s:SpL:=aZ.d.e [] aZ.F::bL.s
theorem aZ.c:Ck aZ.s []:=gK.consS bL.c [] ⟨_,Tryz.func235,by kernel_rfl,by decide⟩ aZ.ok
def aO.d:Fe:=⟨261,1,⟨[(0,.v false [.ptr 0 0])],[(0,true,.box 263 [.np 0,.ref 1]),(1,true,.arr 5 (.int .u8))],[],2,[]⟩,⟨[(0,.tup [])],[(0,true,.box 263 [.np 0,.ref 1000]),(1000,true,.arr 5 (.int .u8))],[],1001,[]⟩,.n⟩
noncomputable def aO.B:TS aO.d.si→Option (TS aO.d.so):=fun (bs,_)=>some (bs,())
noncomputable def aO.F:=stk aO.B
theorem aO.eq:aO.F=aO.B:=aq _
theorem aO.ok:fk PP 261 ⟨1,aO.d.si,aO.d.so,aO.F⟩:=by
 rw [aO.eq]
 exact yp
noncomputable def aO.s:SpL:=aO.d.e [] aO.F::aZ.s
theorem aO.c:Ck aO.s []:=gK.consS aZ.c [] ⟨_,Tryz.func261,by kernel_rfl,by decide⟩ aO.ok
def aM.d:Fe:=⟨306,2,⟨[(0,.v false [.ptr 0 0]),(1,.v false [.int .u8])],[(0,true,.box 263 [.np 0,.ref 1]),(1,true,.arr 5 (.int .u8))],[],2,[]⟩,⟨[(0,.v false [.ifc])],[(0,true,.box 263 [.np 0,.ref 1001]),(1001,false,.arr 5 (.int .u8))],[],1002,[(0,0)]⟩,.n⟩
noncomputable def aM.B:Int×(List Int)×Unit→Option (Bool×(List Int)×Unit):=fun (p1,o0_1,_)=>
 (aO.F (o0_1,())).bind fun y1=>
 ck (Nat.ble (y1.1.length+ [p1].length) 140737488355328)<|
 some (true,(y1.1++ [p1]),())
noncomputable def aM.F:=stk aM.B
theorem aM.eq:aM.F=aM.B:=aq _
theorem aM.k:Kk aO.s [] [] Tryz.f306 aM.d aM.B:={}
noncomputable def aM.s:SpL:=aM.d.e [] aM.F::aO.s
theorem aM.c:Ck aM.s []:=cS aO.c aM.k
def bI.d:Fe:=⟨292,1,⟨[(0,.v false [.ptr 0 0])],[(0,true,.box 296 [.str,.int .i64])],[],1,[]⟩,⟨[(0,.tup [(true,[.int .i64,.str,.int .i64,.int .i64,.str]),(false,[.bool])])],[(0,true,.box 296 [.str,.int .i64])],[],1001,[(0,0)]⟩,(.s none .n (.s none .n (.s (some ⟨[],[(0,true,.box 296 [.str,.int .i64]),(1,true,.box 263 [.np 1,.ref 2]),(2,false,.arr 5 (.int .u8))],[2],3,[(0,0),(1,1001)]⟩) (.s none .n (.b (.l ⟨[(0,.v false [.ptr 0 0]),(4,.v false [.ptr 1 0])],[(0,true,.box 296 [.str,.int .i64]),(1,true,.box 263 [.np 1,.ref 2]),(2,false,.arr 5 (.int .u8))],[2],3,[]⟩ (.s none .n (.s (some ⟨[(0,.v false [.ptr 0 0]),(4,.v false [.ptr 1 0])],[(0,true,.box 296 [.str,.int .i64]),(1,true,.box 263 [.np 1,.ref 2]),(2,false,.arr 5 (.int .u8))],[2],3,[]⟩) .n .n))))) .n)))⟩
noncomputable def bI.B:ByteArray×Int×Unit→Option (Int×ByteArray×Int×Int×ByteArray×Bool×ByteArray×Int×Unit):=fun (o0_0,o0_1,_)=>
 jn (S:=ByteArray×Int×(List Int)×Unit) (
 let e1:Int:=(wr (o0_1+(1:Int)))
 aK (S:=ByteArray×Int×(List Int)×Unit) (fun (o0_0_0,o0_0_1,o4_0_1,_)=>
 (bif (decide (o0_0_1<(o0_0_0.size:Int))) then
 jn (S:=ByteArray×Int×(List Int)×Unit) (
 (aY.F ((0:Int),o0_0_0,o0_0_1,())).bind fun y2=>
 (bif (y2.1==(39:Int)) then
 let e3:Int:=(wr (y2.2.2.1+(1:Int)))
 (aY.F ((0:Int),y2.2.1,e3,())).bind fun y4=>
 (bif (y4.1 !=(39:Int)) then
 (aZ.F (o4_0_1,())).bind fun y5=>
 (dm.F ((3:Int),(0:Int),y5.1,())).bind fun y6=>
 ir (.inr (.inr ((1:Int),(⟨#[]⟩:ByteArray),(3:Int),(0:Int),y5.1,y6.1,y4.2.1,y4.2.2.1,())))
 else
 (bif (decide (y4.2.2.1≥(y4.2.1.size:Int))) then
 (aZ.F (o4_0_1,())).bind fun y7=>
 (dm.F ((3:Int),(0:Int),y7.1,())).bind fun y8=>
 ir (.inr (.inr ((1:Int),(⟨#[]⟩:ByteArray),(3:Int),(0:Int),y7.1,y8.1,y4.2.1,y4.2.2.1,())))
 else
 (aM.F (y2.1,o4_0_1,())).bind fun y9=>
 il (y4.2.1,y4.2.2.1,y9.2.1,())))
 else
 (aM.F (y2.1,o4_0_1,())).bind fun y10=>
 il (y2.2.1,y2.2.2.1,y10.2.1,()))) fun (o0_0_0_11,o0_0_1_11,o4_0_1_11,_)=>
 let e12:Int:=(wr (o0_0_1_11+(1:Int)))
 il (o0_0_0_11,e12,o4_0_1_11,())
 else
 ir (.inl (o0_0_0,o0_0_1,o4_0_1,())))) (o0_0,e1,[],())) fun (oin_0_0_13,oin_0_1_13,oin_1001_1_13,_)=>
 some ((0:Int),(⟨#[]⟩:ByteArray),(0:Int),(0:Int),(⟨#[]⟩:ByteArray),false,oin_0_0_13,oin_0_1_13,())
noncomputable def bI.F:=stk bI.B
theorem bI.eq:bI.F=bI.B:=aq _
theorem bI.k:Kk aM.s [] [] Tryz.f292 bI.d bI.B:={}
noncomputable def bI.s:SpL:=bI.d.e [] bI.F::aM.s
theorem bI.c:Ck bI.s []:=cS aM.c bI.k
def bK.d:Fe:=⟨264,1,⟨[(0,.v false [.ptr 0 0])],[(0,true,.box 296 [.str,.int .i64])],[],1,[]⟩,⟨[(0,.tup [(true,[.int .i64,.str,.int .i64,.int .i64,.str]),(false,[.bool])])],[(0,true,.box 296 [.str,.int .i64])],[],1001,[(0,0)]⟩,(.s none .n (.s none .n (.s none (.s none .n (.b (.s none .n (.c .n (.s (some ⟨[(0,.v false [.ptr 0 0]),(18,.v false [.bool])],[(0,true,.box 296 [.str,.int .i64])],[2,5],1,[]⟩) .n .n))))) .n)))⟩
noncomputable def bK.B:ByteArray×Int×Unit→Option (Int×ByteArray×Int×Int×ByteArray×Bool×ByteArray×Int×Unit):=fun (o0_0,o0_1,_)=>
 (aY.F ((0:Int),o0_0,o0_1,())).bind fun y1=>
 (ge.F (y1.1,())).bind fun y2=>
 (bif (y2.1==(1:Int)) then
 (cg.F (y1.2.1,y1.2.2.1,())).bind fun y3=>
 some (y3.1,y3.2.1,y3.2.2.1,y3.2.2.2.1,y3.2.2.2.2.1,y3.2.2.2.2.2.1,y3.2.2.2.2.2.2.1,y3.2.2.2.2.2.2.2.1,())
 else
 jn (S:=Bool×ByteArray×Int×Unit) (
 (bif (y2.1==(2:Int)) then
 il ((y2.1==(2:Int)),y1.2.1,y1.2.2.1,())
 else
 (bif (y1.1==(45:Int)) then
 (aY.F ((1:Int),y1.2.1,y1.2.2.1,())).bind fun y4=>
 (ge.F (y4.1,())).bind fun y5=>
 il ((y5.1==(2:Int)),y4.2.1,y4.2.2.1,())
 else
 il (false,y1.2.1,y1.2.2.1,())))) fun (x18_6,o0_0_0_6,o0_0_1_6,_)=>
 (bif x18_6 then
 (bL.F (o0_0_0_6,o0_0_1_6,())).bind fun y7=>
 some (y7.1,y7.2.1,y7.2.2.1,y7.2.2.2.1,y7.2.2.2.2.1,y7.2.2.2.2.2.1,y7.2.2.2.2.2.2.1,y7.2.2.2.2.2.2.2.1,())
 else
 (bif (y2.1==(4:Int)) then
 (bI.F (o0_0_0_6,o0_0_1_6,())).bind fun y8=>
 some (y8.1,y8.2.1,y8.2.2.1,y8.2.2.2.1,y8.2.2.2.2.1,y8.2.2.2.2.2.1,y8.2.2.2.2.2.2.1,y8.2.2.2.2.2.2.2.1,())
 else
 let e9:Int:=(wr (o0_0_1_6+(1:Int)))
 let e10:Int:=(wr (e9-(1:Int)))
 ck (sb e10 e9 o0_0_0_6.size)<|
 let e11:ByteArray:=(o0_0_0_6.extract (Int.toNat e10) (Int.toNat e9))
 (strings_Contains.F ((⟨#[40,41,91,93,44,61,60,43,45,42,63]⟩:ByteArray),e11,())).bind fun y12=>
 some ((2:Int),e11,(0:Int),(0:Int),(⟨#[]⟩:ByteArray),y12.1,o0_0_0_6,e9,()))))
noncomputable def bK.F:=stk bK.B
theorem bK.eq:bK.F=bK.B:=aq _
theorem bK.k:Kk bI.s [] [] Tryz.f264 bK.d bK.B:={}
noncomputable def bK.s:SpL:=bK.d.e [] bK.F::bI.s
theorem bK.c:Ck bK.s []:=cS bI.c bK.k
def fN.d:Fe:=⟨236,1,⟨[(0,.v false [.str])],[],[],0,[]⟩,⟨[(0,.tup [(false,[.ref 1000]),(false,[.int .i64])])],[(1000,false,.arr 195 dI)],[],1001,[]⟩,(.s none .n (.s none .n (.s none .n (.s none .n (.s none (.s none .n (.b (.l ⟨[(4,.v false [.ptr 1 0]),(5,.v false [.ref 0])],[(0,false,.arr 195 dI),(1,true,.box 296 [.str,.int .i64])],[0],2,[]⟩ .n))) .n)))))⟩
noncomputable def fN.B:ByteArray×Unit→Option (Int×(List aU)×Unit):=fun (p0,_)=>
 (bif (decide ((p0.size:Int)>(20000:Int))) then
 some ((60:Int),[],())
 else
 (bB.F ([(5:Int)],p0,(0:Int),())).bind fun y1=>
 aK (S:=(List aU)×ByteArray×Int×Unit) (fun (o5_0,o4_0_0,o4_0_1,_)=>
 (bif (decide (o4_0_1<(p0.size:Int))) then
 (bK.F (o4_0_0,o4_0_1,())).bind fun y2=>
 (bif (!y2.2.2.2.2.2.1) then
 ir ((60:Int),[],())
 else
 ck (Nat.ble (o5_0.length+ [(y2.1,(y2.2.1,(y2.2.2.1,(y2.2.2.2.1,y2.2.2.2.2.1))))].length) 2513169434916)<|
 (bB.F ([(5:Int)],y2.2.2.2.2.2.2.1,y2.2.2.2.2.2.2.2.1,())).bind fun y3=>
 il ((o5_0++ [(y2.1,(y2.2.1,(y2.2.2.1,(y2.2.2.2.1,y2.2.2.2.2.1))))]),y3.2.1,y3.2.2.1,()))
 else
 ir ((0:Int),o5_0,()))) ([],y1.2.1,y1.2.2.1,()))
noncomputable def fN.F:=stk fN.B
theorem fN.eq:fN.F=fN.B:=aq _
theorem fN.k:Kk bK.s [] [] Tryz.f236 fN.d fN.B:={}
noncomputable def fN.s:SpL:=fN.d.e [] fN.F::bK.s
theorem fN.c:Ck fN.s []:=cS bK.c fN.k
def cv.d:Fe:=⟨272,2,⟨[(0,.v false [.ptr 0 0]),(1,.v false [.sl 9 .str])],[(0,true,.box 272 [.sl 195 dI])],[],1,[]⟩,⟨[(0,.v false [.bool])],[(0,true,.box 272 [.sl 195 dI])],[],1001,[(0,0)]⟩,(.s none .n (.s none (.s none .n (.b (.l ⟨[(9,.v false [.int .i64])],[],[0,7,8],0,[]⟩ .n))) .n))⟩
noncomputable def cv.B:(List ByteArray)×(List aU)×Unit→Option (Bool×(List aU)×Unit):=fun (p1,o0,_)=>
 aK (S:=Int×Unit) (fun (x9,_)=>
 (bif (decide (x9<(p1.length:Int))) then
 ck (ib x9 p1.length)<|
 let e1:ByteArray:=(gt p1 x9 (⟨#[]⟩:ByteArray))
 (bif (decide (x9≥(o0.length:Int))) then
 ir (false,o0,())
 else
 ck (ib x9 o0.length)<|
 let e2:aU:=(gt o0 x9 dI.z)
 (bif (e2.1==(1:Int)) then
 ir (false,o0,())
 else
 ck (ib x9 o0.length)<|
 let e3:aU:=(gt o0 x9 dI.z)
 (bif (!sq e3.2.1 e1) then
 ir (false,o0,())
 else
 let e4:Int:=(wr (x9+(1:Int)))
 il (e4,()))))
 else
 ir (true,o0,()))) ((0:Int),())
noncomputable def cv.F:=stk cv.B
theorem cv.eq:cv.F=cv.B:=aq _
theorem cv.k:Kk fN.s [] [] Tryz.f272 cv.d cv.B:={}
noncomputable def cv.s:SpL:=cv.d.e [] cv.F::fN.s
theorem cv.c:Ck cv.s []:=cS fN.c cv.k
def ap.d:Fe:=⟨265,2,⟨[(0,.v false [.ptr 0 0]),(1,.v false [.sl 9 .str])],[(0,true,.box 272 [.sl 195 dI])],[],1,[]⟩,⟨[(0,.v false [.bool])],[(0,true,.box 272 [.sl 195 dI])],[],1001,[(0,0)]⟩,.n⟩
noncomputable def ap.B:(List ByteArray)×(List aU)×Unit→Option (Bool×(List aU)×Unit):=fun (p1,o0,_)=>
 (cv.F (p1,o0,())).bind fun y1=>
 (bif (!y1.1) then
 some (false,y1.2.1,())
 else
 ck (sb (p1.length:Int) (y1.2.1.length:Int) y1.2.1.length)<|
 let e2:List aU:=(List.drop (Int.toNat (p1.length:Int)) (List.take (Int.toNat (y1.2.1.length:Int)) y1.2.1))
 some (true,e2,()))
noncomputable def ap.F:=stk ap.B
theorem ap.eq:ap.F=ap.B:=aq _
theorem ap.k:Kk cv.s [] [] Tryz.f265 ap.d ap.B:={}
noncomputable def ap.s:SpL:=ap.d.e [] ap.F::cv.s
theorem ap.c:Ck ap.s []:=cS cv.c ap.k
def cC.d:Fe:=⟨241,1,⟨[(0,.v false [.bool])],[],[],0,[]⟩,⟨[(0,.tup [])],[],[],1000,[]⟩,.n⟩
noncomputable def cC.B:Bool×Unit→Option ((Unit)⊕Int):=fun (p0,_)=>
 (bif (!p0) then
 some (.inr (70:Int))
 else
 some (.inl (())))
noncomputable def cC.F:=stk cC.B
theorem cC.eq:cC.F=cC.B:=aq _
theorem cC.k:Kp ap.s [] [] Tryz.f241 cC.d cC.B:={}
noncomputable def cC.q:SqL:=cC.d.p [] cC.F::[]
theorem cC.c:Ck ap.s cC.q:=cP ap.c cC.k
def bz.d:Fe:=⟨238,2,⟨[(0,.v false [.ptr 0 0]),(1,.v false [.sl 9 .str])],[(0,true,.box 272 [.sl 195 dI])],[],1,[]⟩,⟨[(0,.v false [.int .i64])],[(0,true,.box 272 [.sl 195 dI])],[],1001,[(0,0)]⟩,(.s none .n (.s (some ⟨[],[(0,true,.box 272 [.sl 195 dI])],[],1,[(0,0)]⟩) (.s none .n (.b (.l ⟨[(0,.v false [.ptr 0 0]),(9,.v false [.int .i64])],[(0,true,.box 272 [.sl 195 dI])],[7,8],1,[]⟩ .n))) .n))⟩
noncomputable def bz.B:(List ByteArray)×(List aU)×Unit→Option ((Int×(List aU)×Unit)⊕Int):=fun (p1,o0,_)=>
 jn (S:=(List aU)×Unit) (
 aK (S:=Int×(List aU)×Unit) (fun (x9,o0_0,_)=>
 (bif (decide (x9<(p1.length:Int))) then
 ck (ib x9 p1.length)<|
 let e1:ByteArray:=(gt p1 x9 (⟨#[]⟩:ByteArray))
 (ap.F ([e1],o0_0,())).bind fun y2=>
 (bif y2.1 then
 ir (.inr (.inl (x9,y2.2.1,())))
 else
 let e3:Int:=(wr (x9+(1:Int)))
 il (e3,y2.2.1,()))
 else
 ir (.inl (o0_0,())))) ((0:Int),o0,())) fun (oin_0_4,_)=>
 Option.bind (cC.F (false,())) fun zy5=>match zy5 with
 | .inl y5=>
 (some (.inl ((0:Int),oin_0_4,())))
 | .inr n6=>some (.inr n6)
noncomputable def bz.F:=stk bz.B
theorem bz.eq:bz.F=bz.B:=aq _
theorem bz.k:Kp ap.s cC.q [] Tryz.f238 bz.d bz.B:={}
noncomputable def bz.q:SqL:=bz.d.p [] bz.F::cC.q
theorem bz.c:Ck ap.s bz.q:=cP cC.c bz.k
def aP.d:Fe:=⟨294,1,⟨[(0,.v false [.ptr 0 0])],[(0,true,.box 272 [.sl 195 dI])],[],1,[]⟩,⟨[(0,.v true [.int .i64,.str,.int .i64,.int .i64,.str])],[(0,true,.box 272 [.sl 195 dI])],[],1001,[(0,0)]⟩,.n⟩
noncomputable def aP.B:(List aU)×Unit→Option ((Int×ByteArray×Int×Int×ByteArray×(List aU)×Unit)⊕Int):=fun (o0,_)=>
 Option.bind (cC.F ((decide ((o0.length:Int)>(0:Int))),())) fun zy1=>match zy1 with
 | .inl y1=>
 (ck (ib (0:Int) o0.length)<|
 let e2:aU:=(List.getD o0 0 dI.z)
 ck (sb (1:Int) (o0.length:Int) o0.length)<|
 let e3:List aU:=(List.drop (Int.toNat (1:Int)) (List.take (Int.toNat (o0.length:Int)) o0))
 some (.inl (e2.1,e2.2.1,e2.2.2.1,e2.2.2.2.1,e2.2.2.2.2,e3,())))
 | .inr n4=>some (.inr n4)
noncomputable def aP.F:=stk aP.B
theorem aP.eq:aP.F=aP.B:=aq _
theorem aP.k:Kp ap.s bz.q [] Tryz.f294 aP.d aP.B:={}
noncomputable def aP.q:SqL:=aP.d.p [] aP.F::bz.q
theorem aP.c:Ck ap.s aP.q:=cP bz.c aP.k
def dw.d:Fe:=⟨309,0,⟨[],[],[],0,[]⟩,⟨[(0,.v false [.ref 1000])],[(1000,false,.arr 9 .str)],[],1001,[]⟩,.n⟩
noncomputable def dw.B:Unit→Option ((List ByteArray)×Unit):=fun (_)=>
 some ([(⟨#[116,97,98,108,101]⟩:ByteArray),(⟨#[99,104,101,99,107]⟩:ByteArray),(⟨#[118,105,101,119]⟩:ByteArray),(⟨#[102,114,111,109]⟩:ByteArray),(⟨#[106,111,105,110]⟩:ByteArray),(⟨#[111,110]⟩:ByteArray),(⟨#[119,104,101,114,101]⟩:ByteArray),(⟨#[112,105,99,107]⟩:ByteArray),(⟨#[103,114,111,117,112]⟩:ByteArray),(⟨#[98,111,111,108]⟩:ByteArray),(⟨#[105,110,116]⟩:ByteArray),(⟨#[116,101,120,116]⟩:ByteArray),(⟨#[110,117,108,108]⟩:ByteArray),(⟨#[117,110,105,113,117,101]⟩:ByteArray),(⟨#[114,101,102]⟩:ByteArray),(⟨#[114,101,115,116,114,105,99,116]⟩:ByteArray),(⟨#[99,97,115,99,97,100,101]⟩:ByteArray),(⟨#[115,101,116,110,117,108,108]⟩:ByteArray),(⟨#[99,111,117,110,116]⟩:ByteArray),(⟨#[115,117,109]⟩:ByteArray),(⟨#[109,105,110]⟩:ByteArray),(⟨#[109,97,120]⟩:ByteArray),(⟨#[116,114,117,101]⟩:ByteArray),(⟨#[102,97,108,115,101]⟩:ByteArray),(⟨#[97,110,100]⟩:ByteArray),(⟨#[111,114]⟩:ByteArray),(⟨#[110,111,116]⟩:ByteArray)],())
noncomputable def dw.F:=stk dw.B
theorem dw.eq:dw.F=dw.B:=aq _
theorem dw.k:Kk ap.s aP.q [] Tryz.f309 dw.d dw.B:={}
noncomputable def dw.s:SpL:=dw.d.e [] dw.F::ap.s
theorem dw.c:Ck dw.s aP.q:=cS aP.c dw.k
def aF.d:Fe:=⟨322,2,⟨[(0,.v false [.sl 9 .str]),(1,.v false [.str])],[],[],0,[]⟩,⟨[(0,.v false [.int .i64])],[],[],1000,[]⟩,(.s none .n (.s none (.s none .n (.b (.l ⟨[(8,.v false [.int .i64])],[],[0,1,7],0,[]⟩ .n))) .n))⟩
noncomputable def aF.B:(List ByteArray)×ByteArray×Unit→Option (Int×Unit):=fun (p0,p1,_)=>
 aK (S:=Int×Unit) (fun (x8,_)=>
 (bif (decide (x8<(p0.length:Int))) then
 ck (ib x8 p0.length)<|
 let e1:ByteArray:=(gt p0 x8 (⟨#[]⟩:ByteArray))
 (bif (sq p1 e1) then
 ir (x8,())
 else
 let e2:Int:=(wr (x8+(1:Int)))
 il (e2,()))
 else
 ir ((-1:Int),()))) ((0:Int),())
noncomputable def aF.F:=stk aF.B
theorem aF.eq:aF.F=aF.B:=aq _
theorem aF.k:Kk dw.s aP.q [] Tryz.f322 aF.d aF.B:={}
noncomputable def aF.s:SpL:=aF.d.e [] aF.F::dw.s
theorem aF.c:Ck aF.s aP.q:=cS dw.c aF.k
def ay.d:Fe:=⟨308,2,⟨[(0,.v false [.sl 9 .str]),(1,.v false [.str])],[],[],0,[]⟩,⟨[(0,.v false [.bool])],[],[],1000,[]⟩,.n⟩
noncomputable def ay.B:(List ByteArray)×ByteArray×Unit→Option (Bool×Unit):=fun (p0,p1,_)=>
 (aF.F (p0,p1,())).bind fun y1=>
 some ((decide (y1.1≥(0:Int))),())
noncomputable def ay.F:=stk ay.B
theorem ay.eq:ay.F=ay.B:=aq _
theorem ay.k:Kk aF.s aP.q [] Tryz.f308 ay.d ay.B:={}
noncomputable def ay.s:SpL:=ay.d.e [] ay.F::aF.s
theorem ay.c:Ck ay.s aP.q:=cS aF.c ay.k
end Go.Proofs.Ytpoffnlnhdbpmaa
