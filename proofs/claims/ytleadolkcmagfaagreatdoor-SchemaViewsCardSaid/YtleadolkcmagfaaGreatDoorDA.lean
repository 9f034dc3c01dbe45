import Derived.Test.YtleadolkcmagfaaGreatDoorM3
set_option linter.all false
set_option linter.unusedVariables false
set_option linter.unusedSimpArgs false
set_option linter.unusedSectionVars false
set_option maxRecDepth 100000
namespace Go.Proofs.Ytleadolkcmagfaa
open Go Lv Go.Proofs Go.RowKit Go.Shelf
abbrev dn:=Int×(Int×ByteArray)
abbrev nN:Ty:=(.pair (.int .i64) (.pair (.int .i64) .str))
abbrev ae:=Int×(Int×dn)
abbrev bD:Ty:=(.pair (.int .i64) (.pair (.int .i64) nN))
abbrev ct:=Int×Int
abbrev ei:Ty:=(.pair (.int .i64) (.int .i64))
abbrev Ks:=ByteArray×(ByteArray×(ByteArray×(ct×((List ae)×((List Int)×(Bool×(List ct)))))))
abbrev J5:Ty:=(.pair .str (.pair .str (.pair .str (.pair ei (.pair (.sl 78 bD) (.pair (.sl 3 (.int .i64)) (.pair .bool (.sl 66 ei))))))))
abbrev ba:=ByteArray×(Int×(Bool×(Bool×(ByteArray×Int))))
abbrev bR:Ty:=(.pair .str (.pair (.int .i64) (.pair .bool (.pair .bool (.pair .str (.int .i64))))))
abbrev IL:=ByteArray×((List ba)×(List (List ae)))
abbrev Gt:Ty:=(.pair .str (.pair (.sl 41 bR) (.sl 32 (.sl 78 bD))))
abbrev bH:=Int×(ByteArray×dn)
abbrev dA:Ty:=(.pair (.int .i64) (.pair .str nN))
abbrev IM:Ty:=(.pair (.sl 111 dA) (.pair (.int .i64) .bool))
abbrev dX:=Int×(IL×Ks)
abbrev fB:Ty:=(.pair (.int .i64) (.pair Gt J5))
abbrev Gu:Ty:=(.pair .str (.int .i64))
abbrev Gv:Ty:=(.pair .val (.sl 5 (.int .u8)))
abbrev Kt:Ty:=(.pair (.pair (.sl 3 (.int .i64)) .bool) (.sl 3 (.int .i64)))
noncomputable abbrev PP:=Tryz.prog
def tab0:List (Nat×TI):=[
 (3,⟨.int .i64,1,8,17592186044416,[.int .i64 0],some (.int .i64)⟩),
 (4,⟨.bool,1,1,140737488355328,[.bool false],some .bool⟩),
 (5,⟨.int .u8,1,1,140737488355328,[.int .u8 0],some (.int .u8)⟩),
 (9,⟨.str,1,16,8796093022208,[.string ⟨#[]⟩],some .str⟩),
 (20,⟨.ifc,1,16,8796093022208,[.nilIface],some .val⟩),
 (23,⟨.sl 38,1,24,5864062014805,[.slice none 0 0],some (.sl 38 fB)⟩),
 (26,⟨.sl 41,1,24,5864062014805,[.slice none 0 0],some (.sl 41 bR)⟩),
 (27,⟨.sl 32,1,24,5864062014805,[.slice none 0 0],some (.sl 32 (.sl 78 bD))⟩),
 (29,⟨.st [(9,0),(26,1),(27,2)],3,64,2199023255552,[.string ⟨#[]⟩,.slice none 0 0,.slice none 0 0],some Gt⟩),
 (30,⟨.arr 2 3,2,16,8796093022208,[.int .i64 0,.int .i64 0],some ei⟩),
 (32,⟨.sl 78,1,24,5864062014805,[.slice none 0 0],some (.sl 78 bD)⟩),
 (33,⟨.sl 3,1,24,5864062014805,[.slice none 0 0],some (.sl 3 (.int .i64))⟩),
 (34,⟨.sl 66,1,24,5864062014805,[.slice none 0 0],some (.sl 66 ei)⟩),
 (36,⟨.st [(9,0),(9,1),(9,2),(30,3),(32,5),(33,6),(4,7),(34,8)],9,144,977343669134,[.string ⟨#[]⟩,.string ⟨#[]⟩,.string ⟨#[]⟩,.int .i64 0,.int .i64 0,.slice none 0 0,.slice none 0 0,.bool false,.slice none 0 0],some J5⟩),
 (38,⟨.st [(3,0),(29,1),(36,4)],13,216,651562446089,[.int .i64 0,.string ⟨#[]⟩,.slice none 0 0,.slice none 0 0,.string ⟨#[]⟩,.string ⟨#[]⟩,.string ⟨#[]⟩,.int .i64 0,.int .i64 0,.slice none 0 0,.slice none 0 0,.bool false,.slice none 0 0],some fB⟩),
 (41,⟨.st [(9,0),(3,1),(4,2),(4,3),(9,4),(3,5)],6,56,2513169434916,[.string ⟨#[]⟩,.int .i64 0,.bool false,.bool false,.string ⟨#[]⟩,.int .i64 0],some bR⟩),
 (42,⟨.sl 4,1,24,5864062014805,[.slice none 0 0],some (.sl 4 .bool)⟩),
 (48,⟨.int .i64,1,8,17592186044416,[.int .i64 0],some (.int .i64)⟩),
 (66,⟨.st [(3,0),(3,1)],2,16,8796093022208,[.int .i64 0,.int .i64 0],some ei⟩),
 (76,⟨.st [(3,0),(3,1),(9,2)],3,32,4398046511104,[.int .i64 0,.int .i64 0,.string ⟨#[]⟩],some nN⟩),
 (78,⟨.st [(3,0),(3,1),(76,2)],5,48,2932031007402,[.int .i64 0,.int .i64 0,.int .i64 0,.int .i64 0,.string ⟨#[]⟩],some bD⟩),
 (86,⟨.other,1,8,17592186044416,[.nilFunc],some .val⟩),
 (89,⟨.sl 9,1,24,5864062014805,[.slice none 0 0],some (.sl 9 .str)⟩),
 (90,⟨.sl 111,1,24,5864062014805,[.slice none 0 0],some (.sl 111 dA)⟩),
 (95,⟨.st [(90,0),(3,1),(4,2)],3,40,3518437208883,[.slice none 0 0,.int .i64 0,.bool false],some IM⟩),
 (103,⟨.int .u64,1,8,17592186044416,[.int .u64 0],some (.int .u64)⟩),
 (108,⟨.int .u64,1,8,17592186044416,[.int .u64 0],some (.int .u64)⟩),
 (111,⟨.st [(3,0),(9,1),(76,2)],5,56,2513169434916,[.int .i64 0,.string ⟨#[]⟩,.int .i64 0,.int .i64 0,.string ⟨#[]⟩],some dA⟩),
 (125,⟨.ptr,1,8,17592186044416,[.pointer none],some .val⟩),
 (127,⟨.st [(89,0)],1,24,5864062014805,[.slice none 0 0],some (.sl 9 .str)⟩),
 (134,⟨.int .u32,1,4,35184372088832,[.int .u32 0],some (.int .u32)⟩),
 (151,⟨.sl 5,1,24,5864062014805,[.slice none 0 0],some (.sl 5 (.int .u8))⟩),
 (153,⟨.st [(150,0),(151,1)],2,32,4398046511104,[.pointer none,.slice none 0 0],some Gv⟩),
 (155,⟨.ifc,1,16,8796093022208,[.nilIface],some .val⟩),
 (159,⟨.st [(48,0)],1,8,17592186044416,[.int .i64 0],some (.int .i64)⟩),
 (160,⟨.ptr,1,8,17592186044416,[.pointer none],some .val⟩),
 (162,⟨.st [(90,0)],1,24,5864062014805,[.slice none 0 0],some (.sl 111 dA)⟩),
 (170,⟨.st [(33,0),(4,1)],2,32,4398046511104,[.slice none 0 0,.bool false],some (.pair (.sl 3 (.int .i64)) .bool)⟩),
 (172,⟨.st [(170,0),(33,2)],3,56,2513169434916,[.slice none 0 0,.bool false,.slice none 0 0],some Kt⟩),
 (181,⟨.st [(9,0),(3,1)],2,24,5864062014805,[.string ⟨#[]⟩,.int .i64 0],some Gu⟩),
 (183,⟨.int .i64,1,8,17592186044416,[.int .i64 0],some (.int .i64)⟩),
 (191,⟨.map 9 76,1,8,17592186044416,[.map none],some .val⟩),
 (199,⟨.sl 183,1,24,5864062014805,[.slice none 0 0],some (.sl 183 (.int .i64))⟩),
 (213,⟨.map 9 3,1,8,17592186044416,[.map none],some .val⟩)]
theorem Gw:eH PP (uE tab0):=BF (by kernel_rfl)
def Gx:List (Nat×Ty):=[(30,ei),(41,bR),(66,ei),(76,nN),(78,bD)]
theorem Ku:Fe PP (AC Gx):=I5 Gw (by kernel_rfl)
theorem mixed:PP.follows .mixedOrders=true:=by kernel_rfl
noncomputable def sp0:List (Nat×List (Nat×AK)×Lv.uT):=[]
noncomputable def sq0:List (Nat×List (Nat×AK)×Lv.pF):=[]
noncomputable abbrev c0:Cx:=⟨uE tab0,AC Gx,jj sp0,159,ig sq0⟩
theorem cx0:bM PP c0:=bM.nilP Gw Ku
abbrev FnO (g:Nat) (f:Func):Prop:=oc PP g (f.body.getD .skip) f.results.toList f.ntmps
theorem fnO {g : Nat} {f : Func} (h : PP.funcs[g]? = some f) (h2 : (f.body.isSome && (!(f.name == "runtime.NumGoroutine") && iX f.ntmps (writes (f.body.getD .skip)))) = true) : FnO g f := by
 simp only [Bool.and_eq_true,Bool.not_eq_true'] at h2
 exact eN h h2.1 h2.2.1 h2.2.2
abbrev SpL:=List (Nat×List (Nat×AK)×Lv.uT)
abbrev SqL:=List (Nat×List (Nat×AK)×Lv.pF)
noncomputable abbrev cq (s:SpL) (q:SqL):Cx:=⟨uE tab0,AC Gx,jj s,159,ig q⟩
noncomputable abbrev evI (c:Cx) (f:Func) (h:H) (si so:Sh) (x:TS si):Option (TS so):=evF c lz (f.body.getD .skip) f.results.toList h si so x
theorem okI {c:Cx} (hc:bM PP c) {g:Nat} {f:Func} (hf:FnO g f) (h:H) {n:Nat} {si so:Sh} (hs:gM so=true) {F:TS si→Option (TS so)} (hev:∀x,evI c f h si so x=F x):aB PP g ⟨n,si,so,stk F⟩:=tB hc (fi _ _) mixed hf h hs hev
def cH.si:Sh:=⟨[(0,.v false [.int .u64])],[],[],0,[]⟩
def cH.so:Sh:=⟨[(0,.v false [.str])],[],[],1000,[]⟩
def cH.h:H:=(.s none .n (.s none .n (.s (some ⟨[(0,.v false [.int .u64]),(3,.v false [.str])],[],[],0,[]⟩) (.b (.l ⟨[(0,.v false [.int .u64]),(3,.v false [.str])],[],[],0,[]⟩ .n)) .n)))
noncomputable def cH.B:Int×Unit→Option (ByteArray×Unit):=fun (p0,_)=>
 Option.bind (
 bE (S:=Int×ByteArray×Unit) (fun (x0,x3,_)=>
 (bif (decide (x0>(9:Int))) then
 bif (!decide ((10:Int)=0)) then
 let e1:Int:=(Int.tmod x0 (10:Int))
 bif (!decide ((10:Int)=0)) then
 let e2:Int:=(Int.tmod x0 (10:Int))
 let e3:Int:=(IntKind.u64.wrap (e2+(1:Int)))
 bif (decide (0≤e1)&&(decide (e1≤e3)&&decide (e3≤((⟨#[48,49,50,51,52,53,54,55,56,57]⟩:ByteArray).size:Int)))) then
 let e4:ByteArray:=((⟨#[48,49,50,51,52,53,54,55,56,57]⟩:ByteArray).extract (Int.toNat e1) (Int.toNat e3))
 bif (!decide (((e4.size+x3.size:Nat):Int)>IntKind.i64.max)) then
 let e5:ByteArray:=(e4++x3)
 bif (!decide ((10:Int)=0)) then
 let e6:Int:=(IntKind.u64.wrap (Int.tdiv x0 (10:Int)))
 some (.inl (e6,e5,()))
 else none
 else none
 else none
 else none
 else none
 else
 some (.inr (.inl (x0,x3,()))))) (p0,(⟨#[]⟩:ByteArray),()):Option ((Int×ByteArray×Unit)⊕_)) fun r7=>match r7 with
 | .inl (x0_7,x3_7,_)=>
 (let e8:Int:=(IntKind.u64.wrap (x0_7+(1:Int)))
 bif (decide (0≤x0_7)&&(decide (x0_7≤e8)&&decide (e8≤((⟨#[48,49,50,51,52,53,54,55,56,57]⟩:ByteArray).size:Int)))) then
 let e9:ByteArray:=((⟨#[48,49,50,51,52,53,54,55,56,57]⟩:ByteArray).extract (Int.toNat x0_7) (Int.toNat e8))
 bif (!decide (((e9.size+x3_7.size:Nat):Int)>IntKind.i64.max)) then
 let e10:ByteArray:=(e9++x3_7)
 some (e10,())
 else none
 else none)
 | .inr r=>some r
noncomputable def cH.F:=stk cH.B
theorem cH.eq:cH.F=cH.B:=aN _
theorem cH.ev (x:TS cH.si):evI c0 Tryz.f60 cH.h cH.si cH.so x=cH.B x:=by kernel_rfl
theorem cH.fn:FnO 60 Tryz.f60:=fnO (by kernel_rfl) (by kernel_rfl)
theorem cH.ok:aB PP 60 ⟨1,cH.si,cH.so,cH.F⟩:=okI cx0 cH.fn cH.h (by kernel_rfl) cH.ev
noncomputable def rU:SpL:=(60,[],⟨1,cH.si,cH.so,cH.F⟩)::sp0
noncomputable abbrev tW:=cq rU sq0
theorem rV:bM PP tW:=cx0.consS [] cH.fn.enters cH.ok
def bC.si:Sh:=⟨[(0,.v false [.int .i64])],[],[],0,[]⟩
def bC.so:Sh:=⟨[(0,.v false [.str])],[],[],1000,[]⟩
def bC.h:H:=.n
noncomputable def bC.B:Int×Unit→Option (ByteArray×Unit):=fun (p0,_)=>
 (bif (decide (p0<(0:Int))) then
 let e1:Int:=(IntKind.i64.wrap (p0+(1:Int)))
 let e2:Int:=(IntKind.u64.wrap ((IntKind.u64.wrap ((IntKind.i64.wrap (0-e1))))+(1:Int)))
 Option.bind (cH.F (e2,())) fun y3=>
 bif (!decide ((((⟨#[45]⟩:ByteArray).size+y3.1.size:Nat):Int)>IntKind.i64.max)) then
 let e4:ByteArray:=((⟨#[45]⟩:ByteArray)++y3.1)
 some (e4,())
 else none
 else
 Option.bind (cH.F ((IntKind.u64.wrap (p0)),())) fun y5=>
 some (y5.1,()))
noncomputable def bC.F:=stk bC.B
theorem bC.eq:bC.F=bC.B:=aN _
theorem bC.ev (x:TS bC.si):evI tW Tryz.f45 bC.h bC.si bC.so x=bC.B x:=by kernel_rfl
theorem bC.fn:FnO 45 Tryz.f45:=fnO (by kernel_rfl) (by kernel_rfl)
theorem bC.ok:aB PP 45 ⟨1,bC.si,bC.so,bC.F⟩:=okI rV bC.fn bC.h (by kernel_rfl) bC.ev
noncomputable def rX:SpL:=(45,[],⟨1,bC.si,bC.so,bC.F⟩)::rU
noncomputable abbrev tX:=cq rX sq0
theorem rY:bM PP tX:=rV.consS [] bC.fn.enters bC.ok
def dZ.si:Sh:=⟨[(0,.v true [.int .i64,.int .i64,.str])],[],[],0,[]⟩
def dZ.so:Sh:=⟨[(0,.v false [.bool])],[],[],1000,[]⟩
def dZ.h:H:=(.s none .n (.s none (.s (some ⟨[(10,.v false [.bool])],[],[1],0,[]⟩) .n .n) .n))
noncomputable def dZ.B:Int×Int×ByteArray×Unit→Option (Bool×Unit):=fun (p0_0,p0_1,p0_2,_)=>
 Option.bind (
 (bif (p0_0==(0:Int)) then
 some (.inl (true,()))
 else
 some (.inl ((p0_0==(1:Int)),()))):Option ((Bool×Unit)⊕_)) fun r1=>match r1 with
 | .inl (x10_1,_)=>
 ((bif x10_1 then
 (bif (p0_2.toList==(⟨#[]⟩:ByteArray).toList) then
 (bif (decide (p0_1≥(0:Int))) then
 some ((decide (p0_1≤p0_0)),())
 else
 some (false,()))
 else
 some (false,()))
 else
 (bif (p0_0==(2:Int)) then
 some ((p0_2.toList==(⟨#[]⟩:ByteArray).toList),())
 else
 (bif (p0_0==(3:Int)) then
 (bif (p0_1==(0:Int)) then
 some ((decide ((p0_2.size:Int)≤(1000:Int))),())
 else
 some (false,()))
 else
 some (false,())))))
 | .inr r=>some r
noncomputable def dZ.F:=stk dZ.B
theorem dZ.eq:dZ.F=dZ.B:=aN _
theorem dZ.ev (x:TS dZ.si):evI tX Tryz.f87 dZ.h dZ.si dZ.so x=dZ.B x:=by kernel_rfl
theorem dZ.fn:FnO 87 Tryz.f87:=fnO (by kernel_rfl) (by kernel_rfl)
theorem dZ.ok:aB PP 87 ⟨1,dZ.si,dZ.so,dZ.F⟩:=okI rY dZ.fn dZ.h (by kernel_rfl) dZ.ev
noncomputable def ym:SpL:=(87,[],⟨1,dZ.si,dZ.so,dZ.F⟩)::rX
noncomputable abbrev Bc:=cq ym sq0
theorem yn:bM PP Bc:=rY.consS [] dZ.fn.enters dZ.ok
def dq.si:Sh:=⟨[(0,.v true [.int .i64,.int .i64,.str])],[],[],0,[]⟩
def dq.so:Sh:=⟨[(0,.v false [.str])],[],[],1000,[]⟩
def dq.h:H:=(.s none .n (.s none (.s none .n (.b (.s none .n (.c .n (.s none .n (.c .n (.s none .n (.c .n (.s none .n (.c (.s none .n (.s (some ⟨[(3,.v false [.str])],[],[],0,[]⟩) (.s none .n (.b (.l ⟨[(3,.v false [.str]),(4,.v false [.int .i64])],[],[1],0,[]⟩ .n))) .n)) .n)))))))))) .n))
noncomputable def dq.B:Int×Int×ByteArray×Unit→Option (ByteArray×Unit):=fun (p0_0,p0_1,p0_2,_)=>
 (bif (p0_0==(0:Int)) then
 some ((⟨#[110,117,108,108]⟩:ByteArray),())
 else
 (bif (p0_0==(1:Int)) then
 (bif (p0_1==(0:Int)) then
 some ((⟨#[102,97,108,115,101]⟩:ByteArray),())
 else
 some ((⟨#[116,114,117,101]⟩:ByteArray),()))
 else
 (bif (p0_0==(2:Int)) then
 Option.bind (bC.F (p0_1,())) fun y1=>
 some (y1.1,())
 else
 (bif (p0_0==(3:Int)) then
 Option.bind (
 bE (S:=ByteArray×Int×Unit) (fun (x3,x4,_)=>
 (bif (decide (x4<(p0_2.size:Int))) then
 bif (decide (0≤x4)&&decide (x4<(p0_2.size:Int))) then
 let e2:Int:=(eK p0_2 (Int.toNat x4))
 (bif (e2==(39:Int)) then
 bif (!decide (((x3.size+(⟨#[39]⟩:ByteArray).size:Nat):Int)>IntKind.i64.max)) then
 let e3:ByteArray:=(x3++(⟨#[39]⟩:ByteArray))
 let e4:Int:=(IntKind.i64.wrap (x4+(1:Int)))
 bif (decide (0≤x4)&&(decide (x4≤e4)&&decide (e4≤(p0_2.size:Int)))) then
 let e5:ByteArray:=(p0_2.extract (Int.toNat x4) (Int.toNat e4))
 bif (!decide (((e3.size+e5.size:Nat):Int)>IntKind.i64.max)) then
 let e6:ByteArray:=(e3++e5)
 let e7:Int:=(IntKind.i64.wrap (x4+(1:Int)))
 some (.inl (e6,e7,()))
 else none
 else none
 else none
 else
 let e8:Int:=(IntKind.i64.wrap (x4+(1:Int)))
 bif (decide (0≤x4)&&(decide (x4≤e8)&&decide (e8≤(p0_2.size:Int)))) then
 let e9:ByteArray:=(p0_2.extract (Int.toNat x4) (Int.toNat e8))
 bif (!decide (((x3.size+e9.size:Nat):Int)>IntKind.i64.max)) then
 let e10:ByteArray:=(x3++e9)
 let e11:Int:=(IntKind.i64.wrap (x4+(1:Int)))
 some (.inl (e10,e11,()))
 else none
 else none)
 else none
 else
 some (.inr (.inl (x3,()))))) ((⟨#[39]⟩:ByteArray),(0:Int),()):Option ((ByteArray×Unit)⊕_)) fun r12=>match r12 with
 | .inl (x3_12,_)=>
 (bif (!decide (((x3_12.size+(⟨#[39]⟩:ByteArray).size:Nat):Int)>IntKind.i64.max)) then
 let e13:ByteArray:=(x3_12++(⟨#[39]⟩:ByteArray))
 some (e13,())
 else none)
 | .inr r=>some r
 else
 some ((⟨#[63]⟩:ByteArray),())))))
noncomputable def dq.F:=stk dq.B
theorem dq.eq:dq.F=dq.B:=aN _
theorem dq.ev (x:TS dq.si):evI Bc Tryz.f121 dq.h dq.si dq.so x=dq.B x:=by kernel_rfl
theorem dq.fn:FnO 121 Tryz.f121:=fnO (by kernel_rfl) (by kernel_rfl)
theorem dq.ok:aB PP 121 ⟨1,dq.si,dq.so,dq.F⟩:=okI yn dq.fn dq.h (by kernel_rfl) dq.ev
noncomputable def ve:SpL:=(121,[],⟨1,dq.si,dq.so,dq.F⟩)::ym
noncomputable abbrev yo:=cq ve sq0
theorem vg:bM PP yo:=yn.consS [] dq.fn.enters dq.ok
def dm.si:Sh:=⟨[(0,.v false [.sl 78 bD])],[],[],0,[]⟩
def dm.so:Sh:=⟨[(0,.v false [.str])],[],[],1000,[]⟩
def dm.h:H:=(.s none .n (.s none .n (.s none .n (.s none (.s none .n (.b (.l ⟨[(4,.v false [.str]),(5,.v false [.int .i64])],[],[0,3],0,[]⟩ (.s none .n (.s none (.b (.s (some ⟨[(4,.v false [.str])],[],[0,3,5],0,[]⟩) .n .n)) .n))))) .n))))
noncomputable def dm.B:(List ae)×Unit→Option (ByteArray×Unit):=fun (p0,_)=>
 bE (S:=ByteArray×Int×Unit) (fun (x4,x5,_)=>
 (bif (decide (x5<(p0.length:Int))) then
 Option.bind (
 (bif (decide (x5>(0:Int))) then
 bif (!decide (((x4.size+(⟨#[32]⟩:ByteArray).size:Nat):Int)>IntKind.i64.max)) then
 let e1:ByteArray:=(x4++(⟨#[32]⟩:ByteArray))
 some (.inl (e1,()))
 else none
 else
 some (.inl (x4,()))):Option ((ByteArray×Unit)⊕_)) fun r2=>match r2 with
 | .inl (x4_2,_)=>
 (bif (decide (0≤x5)&&decide (x5<(p0.length:Int))) then
 let e3:ae:=(List.getD p0 (Int.toNat x5) bD.z)
 (bif (e3.1==(0:Int)) then
 Option.bind (bC.F (e3.2.1,())) fun y4=>
 bif (!decide ((((⟨#[99]⟩:ByteArray).size+y4.1.size:Nat):Int)>IntKind.i64.max)) then
 let e5:ByteArray:=((⟨#[99]⟩:ByteArray)++y4.1)
 bif (!decide (((x4_2.size+e5.size:Nat):Int)>IntKind.i64.max)) then
 let e6:ByteArray:=(x4_2++e5)
 let e7:Int:=(IntKind.i64.wrap (x5+(1:Int)))
 some (.inl (e6,e7,()))
 else none
 else none
 else
 (bif (e3.1==(1:Int)) then
 Option.bind (dq.F (e3.2.2.1,e3.2.2.2.1,e3.2.2.2.2,())) fun y8=>
 bif (!decide (((x4_2.size+y8.1.size:Nat):Int)>IntKind.i64.max)) then
 let e9:ByteArray:=(x4_2++y8.1)
 let e10:Int:=(IntKind.i64.wrap (x5+(1:Int)))
 some (.inl (e9,e10,()))
 else none
 else
 (bif (decide (e3.1<(0:Int))) then
 bif (!decide (((x4_2.size+(⟨#[63]⟩:ByteArray).size:Nat):Int)>IntKind.i64.max)) then
 let e11:ByteArray:=(x4_2++(⟨#[63]⟩:ByteArray))
 let e12:Int:=(IntKind.i64.wrap (x5+(1:Int)))
 some (.inl (e11,e12,()))
 else none
 else
 (bif (decide (e3.1>(10:Int))) then
 bif (!decide (((x4_2.size+(⟨#[63]⟩:ByteArray).size:Nat):Int)>IntKind.i64.max)) then
 let e13:ByteArray:=(x4_2++(⟨#[63]⟩:ByteArray))
 let e14:Int:=(IntKind.i64.wrap (x5+(1:Int)))
 some (.inl (e13,e14,()))
 else none
 else
 bif (decide (0≤e3.1)&&decide (e3.1<([(⟨#[]⟩:ByteArray),(⟨#[]⟩:ByteArray),(⟨#[43]⟩:ByteArray),(⟨#[45]⟩:ByteArray),(⟨#[42]⟩:ByteArray),(⟨#[61]⟩:ByteArray),(⟨#[60]⟩:ByteArray),(⟨#[97,110,100]⟩:ByteArray),(⟨#[111,114]⟩:ByteArray),(⟨#[110,111,116]⟩:ByteArray),(⟨#[110,117,108,108,63]⟩:ByteArray)].length:Int))) then
 let e15:ByteArray:=(List.getD [(⟨#[]⟩:ByteArray),(⟨#[]⟩:ByteArray),(⟨#[43]⟩:ByteArray),(⟨#[45]⟩:ByteArray),(⟨#[42]⟩:ByteArray),(⟨#[61]⟩:ByteArray),(⟨#[60]⟩:ByteArray),(⟨#[97,110,100]⟩:ByteArray),(⟨#[111,114]⟩:ByteArray),(⟨#[110,111,116]⟩:ByteArray),(⟨#[110,117,108,108,63]⟩:ByteArray)] (Int.toNat e3.1) (⟨#[]⟩:ByteArray))
 bif (!decide (((x4_2.size+e15.size:Nat):Int)>IntKind.i64.max)) then
 let e16:ByteArray:=(x4_2++e15)
 let e17:Int:=(IntKind.i64.wrap (x5+(1:Int)))
 some (.inl (e16,e17,()))
 else none
 else none))))
 else none)
 | .inr r=>some r
 else
 some (.inr (x4,())))) ((⟨#[]⟩:ByteArray),(0:Int),())
noncomputable def dm.F:=stk dm.B
theorem dm.eq:dm.F=dm.B:=aN _
theorem dm.ev (x:TS dm.si):evI yo Tryz.f88 dm.h dm.si dm.so x=dm.B x:=by kernel_rfl
theorem dm.fn:FnO 88 Tryz.f88:=fnO (by kernel_rfl) (by kernel_rfl)
theorem dm.ok:aB PP 88 ⟨1,dm.si,dm.so,dm.F⟩:=okI vg dm.fn dm.h (by kernel_rfl) dm.ev
noncomputable def vh:SpL:=(88,[],⟨1,dm.si,dm.so,dm.F⟩)::ve
noncomputable abbrev yp:=cq vh sq0
theorem vi:bM PP yp:=vg.consS [] dm.fn.enters dm.ok
def bX.si:Sh:=⟨[(0,.v true [.int .i64,.int .i64,.int .i64,.int .i64,.str])],[],[],0,[]⟩
def bX.so:Sh:=⟨[(0,.v false [.str])],[],[],1000,[]⟩
def bX.h:H:=.n
noncomputable def bX.B:Int×Int×Int×Int×ByteArray×Unit→Option (ByteArray×Unit):=fun (p0_0,p0_1,p0_2,p0_3,p0_4,_)=>
 (bif (p0_0==(10:Int)) then
 some ((⟨#[110,117,108,108,32,63]⟩:ByteArray),())
 else
 (bif (p0_0==(1:Int)) then
 (bif (decide (p0_2<(2:Int))) then
 Option.bind (dZ.F (p0_2,p0_3,p0_4,())) fun y1=>
 (bif (!y1.1) then
 some ((⟨#[33]⟩:ByteArray),())
 else
 Option.bind (dm.F ([(p0_0,(p0_1,(p0_2,(p0_3,p0_4))))],())) fun y2=>
 some (y2.1,()))
 else
 Option.bind (dm.F ([(p0_0,(p0_1,(p0_2,(p0_3,p0_4))))],())) fun y3=>
 some (y3.1,()))
 else
 Option.bind (dm.F ([(p0_0,(p0_1,(p0_2,(p0_3,p0_4))))],())) fun y4=>
 some (y4.1,())))
noncomputable def bX.F:=stk bX.B
theorem bX.eq:bX.F=bX.B:=aN _
theorem bX.ev (x:TS bX.si):evI yp Tryz.f61 bX.h bX.si bX.so x=bX.B x:=by kernel_rfl
theorem bX.fn:FnO 61 Tryz.f61:=fnO (by kernel_rfl) (by kernel_rfl)
theorem bX.ok:aB PP 61 ⟨1,bX.si,bX.so,bX.F⟩:=okI vi bX.fn bX.h (by kernel_rfl) bX.ev
noncomputable def oX:SpL:=(61,[],⟨1,bX.si,bX.so,bX.F⟩)::vh
noncomputable abbrev qE:=cq oX sq0
theorem oY:bM PP qE:=vi.consS [] bX.fn.enters bX.ok
def bS.si:Sh:=⟨[(0,.v false [.sl 78 bD])],[],[],0,[]⟩
def bS.so:Sh:=⟨[(0,.v false [.str])],[],[],1000,[]⟩
def bS.h:H:=(.s none .n (.s none .n (.s (some ⟨[(3,.v false [.str])],[],[],0,[]⟩) (.s none .n (.b (.l ⟨[(3,.v false [.str]),(4,.v false [.int .i64])],[],[0],0,[]⟩ .n))) .n)))
noncomputable def bS.B:(List ae)×Unit→Option (ByteArray×Unit):=fun (p0,_)=>
 Option.bind (
 bE (S:=ByteArray×Int×Unit) (fun (x3,x4,_)=>
 (bif (decide (x4<(p0.length:Int))) then
 bif (decide (0≤x4)&&decide (x4<(p0.length:Int))) then
 let e1:ae:=(List.getD p0 (Int.toNat x4) bD.z)
 Option.bind (bX.F (e1.1,e1.2.1,e1.2.2.1,e1.2.2.2.1,e1.2.2.2.2,())) fun y2=>
 bif (!decide ((((⟨#[32]⟩:ByteArray).size+y2.1.size:Nat):Int)>IntKind.i64.max)) then
 let e3:ByteArray:=((⟨#[32]⟩:ByteArray)++y2.1)
 bif (!decide (((x3.size+e3.size:Nat):Int)>IntKind.i64.max)) then
 let e4:ByteArray:=(x3++e3)
 let e5:Int:=(IntKind.i64.wrap (x4+(1:Int)))
 some (.inl (e4,e5,()))
 else none
 else none
 else none
 else
 some (.inr (.inl (x3,()))))) ((⟨#[32,91]⟩:ByteArray),(0:Int),()):Option ((ByteArray×Unit)⊕_)) fun r6=>match r6 with
 | .inl (x3_6,_)=>
 (bif (!decide (((x3_6.size+(⟨#[32,93]⟩:ByteArray).size:Nat):Int)>IntKind.i64.max)) then
 let e7:ByteArray:=(x3_6++(⟨#[32,93]⟩:ByteArray))
 some (e7,())
 else none)
 | .inr r=>some r
noncomputable def bS.F:=stk bS.B
theorem bS.eq:bS.F=bS.B:=aN _
theorem bS.ev (x:TS bS.si):evI qE Tryz.f46 bS.h bS.si bS.so x=bS.B x:=by kernel_rfl
theorem bS.fn:FnO 46 Tryz.f46:=fnO (by kernel_rfl) (by kernel_rfl)
theorem bS.ok:aB PP 46 ⟨1,bS.si,bS.so,bS.F⟩:=okI oY bS.fn bS.h (by kernel_rfl) bS.ev
noncomputable def oZ:SpL:=(46,[],⟨1,bS.si,bS.so,bS.F⟩)::oX
noncomputable abbrev qF:=cq oZ sq0
theorem o8:bM PP qF:=oY.consS [] bS.fn.enters bS.ok
def dh.si:Sh:=⟨[(0,.v false [.int .i64]),(1,.v false [.sl 9 .str])],[],[],0,[]⟩
def dh.so:Sh:=⟨[(0,.v false [.str])],[],[],1000,[]⟩
def dh.h:H:=.n
noncomputable def dh.B:Int×(List ByteArray)×Unit→Option (ByteArray×Unit):=fun (p0,p1,_)=>
 (bif (decide (p0<(0:Int))) then
 some ((⟨#[33]⟩:ByteArray),())
 else
 (bif (decide (p0≥(p1.length:Int))) then
 some ((⟨#[33]⟩:ByteArray),())
 else
 bif (decide (0≤p0)&&decide (p0<(p1.length:Int))) then
 let e1:ByteArray:=(List.getD p1 (Int.toNat p0) (⟨#[]⟩:ByteArray))
 some (e1,())
 else none))
noncomputable def dh.F:=stk dh.B
theorem dh.eq:dh.F=dh.B:=aN _
theorem dh.ev (x:TS dh.si):evI qF Tryz.f47 dh.h dh.si dh.so x=dh.B x:=by kernel_rfl
theorem dh.fn:FnO 47 Tryz.f47:=fnO (by kernel_rfl) (by kernel_rfl)
theorem dh.ok:aB PP 47 ⟨2,dh.si,dh.so,dh.F⟩:=okI o8 dh.fn dh.h (by kernel_rfl) dh.ev
noncomputable def vj:SpL:=(47,[],⟨2,dh.si,dh.so,dh.F⟩)::oZ
noncomputable abbrev yq:=cq vj sq0
theorem vk:bM PP yq:=o8.consS [] dh.fn.enters dh.ok
def bZ.si:Sh:=⟨[(0,.v true [.str,.str,.str,.int .i64,.int .i64,.sl 78 bD,.sl 3 (.int .i64),.bool,.sl 66 ei])],[],[],0,[]⟩
def bZ.so:Sh:=⟨[(0,.v false [.str])],[],[],1000,[]⟩
def bZ.h:H:=(.s none .n (.s none .n (.s (some ⟨[(3,.v false [.str])],[],[1],0,[]⟩) .n (.s (some ⟨[(3,.v false [.str])],[],[1],0,[]⟩) .n (.s none .n (.s (some ⟨[(3,.v false [.str])],[],[1],0,[]⟩) (.s none .n (.b (.l ⟨[(3,.v false [.str]),(4,.v false [.int .i64])],[],[1],0,[]⟩ .n))) (.s (some ⟨[(3,.v false [.str])],[],[1],0,[]⟩) .n (.s none (.s none .n (.b (.l ⟨[(3,.v false [.str]),(5,.v false [.int .i64])],[],[1],0,[]⟩ (.s none .n (.s none (.b (.s (some ⟨[(3,.v false [.str])],[],[1,5],0,[]⟩) .n .n)) .n))))) .n))))))))
noncomputable def bZ.B:ByteArray×ByteArray×ByteArray×Int×Int×(List ae)×(List Int)×Bool×(List ct)×Unit→Option (ByteArray×Unit):=fun (p0_0,p0_1,p0_2,p0_3,p0_4,p0_5,p0_6,p0_7,p0_8,_)=>
 bif (!decide ((((⟨#[118,105,101,119,32]⟩:ByteArray).size+p0_0.size:Nat):Int)>IntKind.i64.max)) then
 let e1:ByteArray:=((⟨#[118,105,101,119,32]⟩:ByteArray)++p0_0)
 bif (!decide (((e1.size+(⟨#[32,102,114,111,109,32]⟩:ByteArray).size:Nat):Int)>IntKind.i64.max)) then
 let e2:ByteArray:=(e1++(⟨#[32,102,114,111,109,32]⟩:ByteArray))
 bif (!decide (((e2.size+p0_1.size:Nat):Int)>IntKind.i64.max)) then
 let e3:ByteArray:=(e2++p0_1)
 Option.bind (
 (bif (!(p0_2.toList==(⟨#[]⟩:ByteArray).toList)) then
 bif (!decide ((((⟨#[32,106,111,105,110,32]⟩:ByteArray).size+p0_2.size:Nat):Int)>IntKind.i64.max)) then
 let e4:ByteArray:=((⟨#[32,106,111,105,110,32]⟩:ByteArray)++p0_2)
 bif (!decide (((e4.size+(⟨#[32,111,110,32]⟩:ByteArray).size:Nat):Int)>IntKind.i64.max)) then
 let e5:ByteArray:=(e4++(⟨#[32,111,110,32]⟩:ByteArray))
 bif (decide (0≤(0:Int))&&decide ((0:Int)<(2:Int))) then
 Option.bind (bC.F (p0_3,())) fun y6=>
 bif (!decide (((e5.size+y6.1.size:Nat):Int)>IntKind.i64.max)) then
 let e7:ByteArray:=(e5++y6.1)
 bif (!decide (((e7.size+(⟨#[32,61,32]⟩:ByteArray).size:Nat):Int)>IntKind.i64.max)) then
 let e8:ByteArray:=(e7++(⟨#[32,61,32]⟩:ByteArray))
 bif (decide (0≤(1:Int))&&decide ((1:Int)<(2:Int))) then
 Option.bind (bC.F (p0_4,())) fun y9=>
 bif (!decide (((e8.size+y9.1.size:Nat):Int)>IntKind.i64.max)) then
 let e10:ByteArray:=(e8++y9.1)
 bif (!decide (((e3.size+e10.size:Nat):Int)>IntKind.i64.max)) then
 let e11:ByteArray:=(e3++e10)
 some (.inl (e11,()))
 else none
 else none
 else none
 else none
 else none
 else none
 else none
 else none
 else
 some (.inl (e3,()))):Option ((ByteArray×Unit)⊕_)) fun r12=>match r12 with
 | .inl (x3_12,_)=>
 (Option.bind (
 (bif (decide ((p0_5.length:Int)>(0:Int))) then
 Option.bind (bS.F (p0_5,())) fun y13=>
 bif (!decide ((((⟨#[32,119,104,101,114,101]⟩:ByteArray).size+y13.1.size:Nat):Int)>IntKind.i64.max)) then
 let e14:ByteArray:=((⟨#[32,119,104,101,114,101]⟩:ByteArray)++y13.1)
 bif (!decide (((x3_12.size+e14.size:Nat):Int)>IntKind.i64.max)) then
 let e15:ByteArray:=(x3_12++e14)
 some (.inl (e15,()))
 else none
 else none
 else
 some (.inl (x3_12,()))):Option ((ByteArray×Unit)⊕_)) fun r16=>match r16 with
 | .inl (x3_16,_)=>
 (bif (!decide (((x3_16.size+(⟨#[32,112,105,99,107]⟩:ByteArray).size:Nat):Int)>IntKind.i64.max)) then
 let e17:ByteArray:=(x3_16++(⟨#[32,112,105,99,107]⟩:ByteArray))
 Option.bind (
 bE (S:=ByteArray×Int×Unit) (fun (x3,x4,_)=>
 (bif (decide (x4<(p0_6.length:Int))) then
 (bif (decide (x4>(0:Int))) then
 bif (!decide (((x3.size+(⟨#[32,44]⟩:ByteArray).size:Nat):Int)>IntKind.i64.max)) then
 let e18:ByteArray:=(x3++(⟨#[32,44]⟩:ByteArray))
 bif (decide (0≤x4)&&decide (x4<(p0_6.length:Int))) then
 let e19:Int:=(List.getD p0_6 (Int.toNat x4) (0:Int))
 Option.bind (bC.F (e19,())) fun y20=>
 bif (!decide ((((⟨#[32]⟩:ByteArray).size+y20.1.size:Nat):Int)>IntKind.i64.max)) then
 let e21:ByteArray:=((⟨#[32]⟩:ByteArray)++y20.1)
 bif (!decide (((e18.size+e21.size:Nat):Int)>IntKind.i64.max)) then
 let e22:ByteArray:=(e18++e21)
 let e23:Int:=(IntKind.i64.wrap (x4+(1:Int)))
 some (.inl (e22,e23,()))
 else none
 else none
 else none
 else none
 else
 bif (decide (0≤x4)&&decide (x4<(p0_6.length:Int))) then
 let e24:Int:=(List.getD p0_6 (Int.toNat x4) (0:Int))
 Option.bind (bC.F (e24,())) fun y25=>
 bif (!decide ((((⟨#[32]⟩:ByteArray).size+y25.1.size:Nat):Int)>IntKind.i64.max)) then
 let e26:ByteArray:=((⟨#[32]⟩:ByteArray)++y25.1)
 bif (!decide (((x3.size+e26.size:Nat):Int)>IntKind.i64.max)) then
 let e27:ByteArray:=(x3++e26)
 let e28:Int:=(IntKind.i64.wrap (x4+(1:Int)))
 some (.inl (e27,e28,()))
 else none
 else none
 else none)
 else
 some (.inr (.inl (x3,()))))) (e17,(0:Int),()):Option ((ByteArray×Unit)⊕_)) fun r29=>match r29 with
 | .inl (x3_29,_)=>
 (Option.bind (
 (bif p0_7 then
 bif (!decide (((x3_29.size+(⟨#[32,103,114,111,117,112]⟩:ByteArray).size:Nat):Int)>IntKind.i64.max)) then
 let e30:ByteArray:=(x3_29++(⟨#[32,103,114,111,117,112]⟩:ByteArray))
 some (.inl (e30,()))
 else none
 else
 some (.inl (x3_29,()))):Option ((ByteArray×Unit)⊕_)) fun r31=>match r31 with
 | .inl (x3_31,_)=>
 (bE (S:=ByteArray×Int×Unit) (fun (x3,x5,_)=>
 (bif (decide (x5<(p0_8.length:Int))) then
 Option.bind (
 (bif (decide (x5>(0:Int))) then
 bif (!decide (((x3.size+(⟨#[32,44]⟩:ByteArray).size:Nat):Int)>IntKind.i64.max)) then
 let e32:ByteArray:=(x3++(⟨#[32,44]⟩:ByteArray))
 some (.inl (e32,()))
 else none
 else
 some (.inl (x3,()))):Option ((ByteArray×Unit)⊕_)) fun r33=>match r33 with
 | .inl (x3_33,_)=>
 (bif (decide (0≤x5)&&decide (x5<(p0_8.length:Int))) then
 let e34:ct:=(List.getD p0_8 (Int.toNat x5) ei.z)
 Option.bind (dh.F (e34.1,[(⟨#[99,111,117,110,116]⟩:ByteArray),(⟨#[115,117,109]⟩:ByteArray),(⟨#[109,105,110]⟩:ByteArray),(⟨#[109,97,120]⟩:ByteArray)],())) fun y35=>
 bif (!decide ((((⟨#[32]⟩:ByteArray).size+y35.1.size:Nat):Int)>IntKind.i64.max)) then
 let e36:ByteArray:=((⟨#[32]⟩:ByteArray)++y35.1)
 bif (!decide (((x3_33.size+e36.size:Nat):Int)>IntKind.i64.max)) then
 let e37:ByteArray:=(x3_33++e36)
 bif (decide (0≤x5)&&decide (x5<(p0_8.length:Int))) then
 let e38:ct:=(List.getD p0_8 (Int.toNat x5) ei.z)
 (bif (e38.1 !=(0:Int)) then
 bif (decide (0≤x5)&&decide (x5<(p0_8.length:Int))) then
 let e39:ct:=(List.getD p0_8 (Int.toNat x5) ei.z)
 Option.bind (bC.F (e39.2,())) fun y40=>
 bif (!decide ((((⟨#[32]⟩:ByteArray).size+y40.1.size:Nat):Int)>IntKind.i64.max)) then
 let e41:ByteArray:=((⟨#[32]⟩:ByteArray)++y40.1)
 bif (!decide (((e37.size+e41.size:Nat):Int)>IntKind.i64.max)) then
 let e42:ByteArray:=(e37++e41)
 let e43:Int:=(IntKind.i64.wrap (x5+(1:Int)))
 some (.inl (e42,e43,()))
 else none
 else none
 else none
 else
 let e44:Int:=(IntKind.i64.wrap (x5+(1:Int)))
 some (.inl (e37,e44,())))
 else none
 else none
 else none
 else none)
 | .inr r=>some r
 else
 some (.inr (x3,())))) (x3_31,(0:Int),()))
 | .inr r=>some r)
 | .inr r=>some r
 else none)
 | .inr r=>some r)
 | .inr r=>some r
 else none
 else none
 else none
noncomputable def bZ.F:=stk bZ.B
theorem bZ.eq:bZ.F=bZ.B:=aN _
theorem bZ.ev (x:TS bZ.si):evI yq Tryz.f30 bZ.h bZ.si bZ.so x=bZ.B x:=by kernel_rfl
theorem bZ.fn:FnO 30 Tryz.f30:=fnO (by kernel_rfl) (by kernel_rfl)
theorem bZ.ok:aB PP 30 ⟨1,bZ.si,bZ.so,bZ.F⟩:=okI vk bZ.fn bZ.h (by kernel_rfl) bZ.ev
noncomputable def pa:SpL:=(30,[],⟨1,bZ.si,bZ.so,bZ.F⟩)::vj
noncomputable abbrev qG:=cq pa sq0
theorem pb:bM PP qG:=vk.consS [] bZ.fn.enters bZ.ok
def bN.si:Sh:=⟨[(0,.v true [.str,.sl 41 bR,.sl 32 (.sl 78 bD)])],[],[],0,[]⟩
def bN.so:Sh:=⟨[(0,.v false [.str])],[],[],1000,[]⟩
def bN.h:H:=(.s none .n (.s none .n (.s (some ⟨[(3,.v false [.str])],[],[1],0,[]⟩) (.s none .n (.b (.l ⟨[(3,.v false [.str]),(4,.v false [.int .i64])],[],[1],0,[]⟩ (.s none .n (.s none (.b (.s none .n (.s (some ⟨[(3,.v false [.str])],[],[1,4,5],0,[]⟩) .n (.s none .n (.s (some ⟨[(3,.v false [.str])],[],[1,4,5],0,[]⟩) .n (.s (some ⟨[(3,.v false [.str])],[],[1,4,5],0,[]⟩) .n .n)))))) .n))))) (.s none .n (.s none (.s none .n (.b (.l ⟨[(3,.v false [.str]),(6,.v false [.int .i64])],[],[1],0,[]⟩ .n))) .n)))))
noncomputable def bN.B:ByteArray×(List ba)×(List (List ae))×Unit→Option (ByteArray×Unit):=fun (p0_0,p0_1,p0_2,_)=>
 bif (!decide ((((⟨#[116,97,98,108,101,32]⟩:ByteArray).size+p0_0.size:Nat):Int)>IntKind.i64.max)) then
 let e1:ByteArray:=((⟨#[116,97,98,108,101,32]⟩:ByteArray)++p0_0)
 bif (!decide (((e1.size+(⟨#[32,40]⟩:ByteArray).size:Nat):Int)>IntKind.i64.max)) then
 let e2:ByteArray:=(e1++(⟨#[32,40]⟩:ByteArray))
 Option.bind (
 bE (S:=ByteArray×Int×Unit) (fun (x3,x4,_)=>
 (bif (decide (x4<(p0_1.length:Int))) then
 bif (decide (0≤x4)&&decide (x4<(p0_1.length:Int))) then
 let e3:ba:=(List.getD p0_1 (Int.toNat x4) bR.z)
 Option.bind (
 (bif (decide (x4>(0:Int))) then
 bif (!decide (((x3.size+(⟨#[32,44]⟩:ByteArray).size:Nat):Int)>IntKind.i64.max)) then
 let e4:ByteArray:=(x3++(⟨#[32,44]⟩:ByteArray))
 some (.inl (e4,()))
 else none
 else
 some (.inl (x3,()))):Option ((ByteArray×Unit)⊕_)) fun r5=>match r5 with
 | .inl (x3_5,_)=>
 (bif (!decide ((((⟨#[32]⟩:ByteArray).size+e3.1.size:Nat):Int)>IntKind.i64.max)) then
 let e6:ByteArray:=((⟨#[32]⟩:ByteArray)++e3.1)
 bif (!decide (((e6.size+(⟨#[32]⟩:ByteArray).size:Nat):Int)>IntKind.i64.max)) then
 let e7:ByteArray:=(e6++(⟨#[32]⟩:ByteArray))
 let e8:Int:=(IntKind.i64.wrap (e3.2.1-(1:Int)))
 Option.bind (dh.F (e8,[(⟨#[98,111,111,108]⟩:ByteArray),(⟨#[105,110,116]⟩:ByteArray),(⟨#[116,101,120,116]⟩:ByteArray)],())) fun y9=>
 bif (!decide (((e7.size+y9.1.size:Nat):Int)>IntKind.i64.max)) then
 let e10:ByteArray:=(e7++y9.1)
 bif (!decide (((x3_5.size+e10.size:Nat):Int)>IntKind.i64.max)) then
 let e11:ByteArray:=(x3_5++e10)
 Option.bind (
 (bif e3.2.2.1 then
 bif (!decide (((e11.size+(⟨#[32,110,117,108,108]⟩:ByteArray).size:Nat):Int)>IntKind.i64.max)) then
 let e12:ByteArray:=(e11++(⟨#[32,110,117,108,108]⟩:ByteArray))
 some (.inl (e12,()))
 else none
 else
 some (.inl (e11,()))):Option ((ByteArray×Unit)⊕_)) fun r13=>match r13 with
 | .inl (x3_13,_)=>
 (Option.bind (
 (bif e3.2.2.2.1 then
 bif (!decide (((x3_13.size+(⟨#[32,117,110,105,113,117,101]⟩:ByteArray).size:Nat):Int)>IntKind.i64.max)) then
 let e14:ByteArray:=(x3_13++(⟨#[32,117,110,105,113,117,101]⟩:ByteArray))
 some (.inl (e14,()))
 else none
 else
 some (.inl (x3_13,()))):Option ((ByteArray×Unit)⊕_)) fun r15=>match r15 with
 | .inl (x3_15,_)=>
 ((bif (!(e3.2.2.2.2.1.toList==(⟨#[]⟩:ByteArray).toList)) then
 bif (!decide ((((⟨#[32,114,101,102,32]⟩:ByteArray).size+e3.2.2.2.2.1.size:Nat):Int)>IntKind.i64.max)) then
 let e16:ByteArray:=((⟨#[32,114,101,102,32]⟩:ByteArray)++e3.2.2.2.2.1)
 bif (!decide (((e16.size+(⟨#[32]⟩:ByteArray).size:Nat):Int)>IntKind.i64.max)) then
 let e17:ByteArray:=(e16++(⟨#[32]⟩:ByteArray))
 Option.bind (dh.F (e3.2.2.2.2.2,[(⟨#[114,101,115,116,114,105,99,116]⟩:ByteArray),(⟨#[99,97,115,99,97,100,101]⟩:ByteArray),(⟨#[115,101,116,110,117,108,108]⟩:ByteArray)],())) fun y18=>
 bif (!decide (((e17.size+y18.1.size:Nat):Int)>IntKind.i64.max)) then
 let e19:ByteArray:=(e17++y18.1)
 bif (!decide (((x3_15.size+e19.size:Nat):Int)>IntKind.i64.max)) then
 let e20:ByteArray:=(x3_15++e19)
 let e21:Int:=(IntKind.i64.wrap (x4+(1:Int)))
 some (.inl (e20,e21,()))
 else none
 else none
 else none
 else none
 else
 let e22:Int:=(IntKind.i64.wrap (x4+(1:Int)))
 some (.inl (x3_15,e22,()))))
 | .inr r=>some r)
 | .inr r=>some r
 else none
 else none
 else none
 else none)
 | .inr r=>some r
 else none
 else
 some (.inr (.inl (x3,()))))) (e2,(0:Int),()):Option ((ByteArray×Unit)⊕_)) fun r23=>match r23 with
 | .inl (x3_23,_)=>
 (bif (!decide (((x3_23.size+(⟨#[32,41]⟩:ByteArray).size:Nat):Int)>IntKind.i64.max)) then
 let e24:ByteArray:=(x3_23++(⟨#[32,41]⟩:ByteArray))
 bE (S:=ByteArray×Int×Unit) (fun (x3,x6,_)=>
 (bif (decide (x6<(p0_2.length:Int))) then
 bif (decide (0≤x6)&&decide (x6<(p0_2.length:Int))) then
 let e25:(List ae):=(List.getD p0_2 (Int.toNat x6) [])
 Option.bind (bS.F (e25,())) fun y26=>
 bif (!decide ((((⟨#[32,99,104,101,99,107]⟩:ByteArray).size+y26.1.size:Nat):Int)>IntKind.i64.max)) then
 let e27:ByteArray:=((⟨#[32,99,104,101,99,107]⟩:ByteArray)++y26.1)
 bif (!decide (((x3.size+e27.size:Nat):Int)>IntKind.i64.max)) then
 let e28:ByteArray:=(x3++e27)
 let e29:Int:=(IntKind.i64.wrap (x6+(1:Int)))
 some (.inl (e28,e29,()))
 else none
 else none
 else none
 else
 some (.inr (x3,())))) (e24,(0:Int),())
 else none)
 | .inr r=>some r
 else none
 else none
noncomputable def bN.F:=stk bN.B
theorem bN.eq:bN.F=bN.B:=aN _
theorem bN.ev (x:TS bN.si):evI qG Tryz.f31 bN.h bN.si bN.so x=bN.B x:=by kernel_rfl
theorem bN.fn:FnO 31 Tryz.f31:=fnO (by kernel_rfl) (by kernel_rfl)
theorem bN.ok:aB PP 31 ⟨1,bN.si,bN.so,bN.F⟩:=okI pb bN.fn bN.h (by kernel_rfl) bN.ev
noncomputable def ov:SpL:=(31,[],⟨1,bN.si,bN.so,bN.F⟩)::pa
noncomputable abbrev pc:=cq ov sq0
theorem ow:bM PP pc:=pb.consS [] bN.fn.enters bN.ok
def dC.si:Sh:=⟨[(0,.v false [.int .u8])],[],[],0,[]⟩
def dC.so:Sh:=⟨[(0,.v false [.bool])],[],[],1000,[]⟩
def dC.h:H:=(.s none .n (.s none .n (.s none (.s none .n (.b (.l ⟨[(4,.v false [.int .i64])],[],[0,3],0,[]⟩ .n))) .n)))
noncomputable def dC.B:Int×Unit→Option (Bool×Unit):=fun (p0,_)=>
 bE (S:=Int×Unit) (fun (x4,_)=>
 (bif (decide (x4<((⟨#[40,41,91,93,44,61,60,43,45,42,63]⟩:ByteArray).size:Int))) then
 bif (decide (0≤x4)&&decide (x4<((⟨#[40,41,91,93,44,61,60,43,45,42,63]⟩:ByteArray).size:Int))) then
 let e1:Int:=(eK (⟨#[40,41,91,93,44,61,60,43,45,42,63]⟩:ByteArray) (Int.toNat x4))
 (bif (e1==p0) then
 some (.inr (true,()))
 else
 let e2:Int:=(IntKind.i64.wrap (x4+(1:Int)))
 some (.inl (e2,())))
 else none
 else
 some (.inr (false,())))) ((0:Int),())
noncomputable def dC.F:=stk dC.B
theorem dC.eq:dC.F=dC.B:=aN _
theorem dC.ev (x:TS dC.si):evI pc Tryz.f62 dC.h dC.si dC.so x=dC.B x:=by kernel_rfl
theorem dC.fn:FnO 62 Tryz.f62:=fnO (by kernel_rfl) (by kernel_rfl)
theorem dC.ok:aB PP 62 ⟨1,dC.si,dC.so,dC.F⟩:=okI ow dC.fn dC.h (by kernel_rfl) dC.ev
noncomputable def vl:SpL:=(62,[],⟨1,dC.si,dC.so,dC.F⟩)::ov
noncomputable abbrev yr:=cq vl sq0
theorem vm:bM PP yr:=ow.consS [] dC.fn.enters dC.ok
def cB.si:Sh:=⟨[(0,.v false [.int .u8])],[],[],0,[]⟩
def cB.so:Sh:=⟨[(0,.v false [.bool])],[],[],1000,[]⟩
def cB.h:H:=.n
noncomputable def cB.B:Int×Unit→Option (Bool×Unit):=fun (p0,_)=>
 (bif (decide (p0≥(97:Int))) then
 some ((decide (p0≤(122:Int))),())
 else
 some (false,()))
noncomputable def cB.F:=stk cB.B
theorem cB.eq:cB.F=cB.B:=aN _
theorem cB.ev (x:TS cB.si):evI yr Tryz.f63 cB.h cB.si cB.so x=cB.B x:=by kernel_rfl
theorem cB.fn:FnO 63 Tryz.f63:=fnO (by kernel_rfl) (by kernel_rfl)
theorem cB.ok:aB PP 63 ⟨1,cB.si,cB.so,cB.F⟩:=okI vm cB.fn cB.h (by kernel_rfl) cB.ev
noncomputable def rZ:SpL:=(63,[],⟨1,cB.si,cB.so,cB.F⟩)::vl
noncomputable abbrev tY:=cq rZ sq0
theorem r0:bM PP tY:=vm.consS [] cB.fn.enters cB.ok
def cF.si:Sh:=⟨[(0,.v false [.int .u8])],[],[],0,[]⟩
def cF.so:Sh:=⟨[(0,.v false [.bool])],[],[],1000,[]⟩
def cF.h:H:=.n
noncomputable def cF.B:Int×Unit→Option (Bool×Unit):=fun (p0,_)=>
 (bif (decide (p0≥(48:Int))) then
 some ((decide (p0≤(57:Int))),())
 else
 some (false,()))
noncomputable def cF.F:=stk cF.B
theorem cF.eq:cF.F=cF.B:=aN _
theorem cF.ev (x:TS cF.si):evI tY Tryz.f66 cF.h cF.si cF.so x=cF.B x:=by kernel_rfl
theorem cF.fn:FnO 66 Tryz.f66:=fnO (by kernel_rfl) (by kernel_rfl)
theorem cF.ok:aB PP 66 ⟨1,cF.si,cF.so,cF.F⟩:=okI r0 cF.fn cF.h (by kernel_rfl) cF.ev
noncomputable def tZ:SpL:=(66,[],⟨1,cF.si,cF.so,cF.F⟩)::rZ
noncomputable abbrev vo:=cq tZ sq0
theorem t6:bM PP vo:=r0.consS [] cF.fn.enters cF.ok
def cR.si:Sh:=⟨[(0,.v false [.int .u8])],[],[],0,[]⟩
def cR.so:Sh:=⟨[(0,.v false [.bool])],[],[],1000,[]⟩
def cR.h:H:=.n
noncomputable def cR.B:Int×Unit→Option (Bool×Unit):=fun (p0,_)=>
 Option.bind (cB.F (p0,())) fun y1=>
 (bif y1.1 then
 some (true,())
 else
 Option.bind (cF.F (p0,())) fun y2=>
 (bif y2.1 then
 some (true,())
 else
 some ((p0==(95:Int)),())))
noncomputable def cR.F:=stk cR.B
theorem cR.eq:cR.F=cR.B:=aN _
theorem cR.ev (x:TS cR.si):evI vo Tryz.f64 cR.h cR.si cR.so x=cR.B x:=by kernel_rfl
theorem cR.fn:FnO 64 Tryz.f64:=fnO (by kernel_rfl) (by kernel_rfl)
theorem cR.ok:aB PP 64 ⟨1,cR.si,cR.so,cR.F⟩:=okI t6 cR.fn cR.h (by kernel_rfl) cR.ev
noncomputable def t7:SpL:=(64,[],⟨1,cR.si,cR.so,cR.F⟩)::tZ
noncomputable abbrev vt:=cq t7 sq0
theorem t8:bM PP vt:=t6.consS [] cR.fn.enters cR.ok
def du.si:Sh:=⟨[(0,.v false [.str])],[],[],0,[]⟩
def du.so:Sh:=⟨[(0,.v false [.bool])],[],[],1000,[]⟩
def du.h:H:=(.s none .n (.s (some ⟨[],[],[0],0,[]⟩) (.s none .n (.b (.l ⟨[(3,.v false [.int .i64])],[],[0],0,[]⟩ .n))) .n))
noncomputable def du.B:ByteArray×Unit→Option (Bool×Unit):=fun (p0,_)=>
 Option.bind (
 bE (S:=Int×Unit) (fun (x3,_)=>
 (bif (decide (x3<(p0.size:Int))) then
 bif (decide (0≤x3)&&decide (x3<(p0.size:Int))) then
 let e1:Int:=(eK p0 (Int.toNat x3))
 Option.bind (cR.F (e1,())) fun y2=>
 (bif (!y2.1) then
 some (.inr (.inr (false,())))
 else
 let e3:Int:=(IntKind.i64.wrap (x3+(1:Int)))
 some (.inl (e3,())))
 else none
 else
 some (.inr (.inl (()))))) ((0:Int),()):Option ((Unit)⊕_)) fun r4=>match r4 with
 | .inl (_)=>
 ((bif (decide ((p0.size:Int)≥(1:Int))) then
 (bif (decide ((p0.size:Int)≤(30:Int))) then
 bif (decide (0≤(0:Int))&&decide ((0:Int)<(p0.size:Int))) then
 let e5:Int:=(eK p0 0)
 Option.bind (cB.F (e5,())) fun y6=>
 some (y6.1,())
 else none
 else
 some (false,()))
 else
 some (false,())))
 | .inr r=>some r
noncomputable def du.F:=stk du.B
theorem du.eq:du.F=du.B:=aN _
theorem du.ev (x:TS du.si):evI vt Tryz.f65 du.h du.si du.so x=du.B x:=by kernel_rfl
theorem du.fn:FnO 65 Tryz.f65:=fnO (by kernel_rfl) (by kernel_rfl)
theorem du.ok:aB PP 65 ⟨1,du.si,du.so,du.F⟩:=okI t8 du.fn du.h (by kernel_rfl) du.ev
noncomputable def vu:SpL:=(65,[],⟨1,du.si,du.so,du.F⟩)::t7
noncomputable abbrev yt:=cq vu sq0
theorem vv:bM PP yt:=t8.consS [] du.fn.enters du.ok
def dK.si:Sh:=⟨[(0,.v false [.int .i64])],[],[],0,[]⟩
def dK.so:Sh:=⟨[(0,.v true [.int .i64,.int .i64,.str])],[],[],1000,[]⟩
def dK.h:H:=.n
noncomputable def dK.B:Int×Unit→Option (Int×Int×ByteArray×Unit):=fun (p0,_)=>
 some ((2:Int),p0,(⟨#[]⟩:ByteArray),())
noncomputable def dK.F:=stk dK.B
theorem dK.eq:dK.F=dK.B:=aN _
theorem dK.ev (x:TS dK.si):evI yt Tryz.f68 dK.h dK.si dK.so x=dK.B x:=by kernel_rfl
theorem dK.fn:FnO 68 Tryz.f68:=fnO (by kernel_rfl) (by kernel_rfl)
theorem dK.ok:aB PP 68 ⟨1,dK.si,dK.so,dK.F⟩:=okI vv dK.fn dK.h (by kernel_rfl) dK.ev
noncomputable def yu:SpL:=(68,[],⟨1,dK.si,dK.so,dK.F⟩)::vu
noncomputable abbrev Bd:=cq yu sq0
theorem yw:bM PP Bd:=vv.consS [] dK.fn.enters dK.ok
def cO.si:Sh:=⟨[(0,.v true [.int .i64,.int .i64,.str]),(1,.v true [.int .i64,.int .i64,.str])],[],[],0,[]⟩
def cO.so:Sh:=⟨[(0,.v false [.bool])],[],[],1000,[]⟩
def cO.h:H:=.n
noncomputable def cO.B:Int×Int×ByteArray×Int×Int×ByteArray×Unit→Option (Bool×Unit):=fun (p0_0,p0_1,p0_2,p1_0,p1_1,p1_2,_)=>
 (bif (p0_0==(0:Int)) then
 some (true,())
 else
 some ((p1_0==(0:Int)),()))
noncomputable def cO.F:=stk cO.B
theorem cO.eq:cO.F=cO.B:=aN _
theorem cO.ev (x:TS cO.si):evI Bd Tryz.f122 cO.h cO.si cO.so x=cO.B x:=by kernel_rfl
theorem cO.fn:FnO 122 Tryz.f122:=fnO (by kernel_rfl) (by kernel_rfl)
theorem cO.ok:aB PP 122 ⟨2,cO.si,cO.so,cO.F⟩:=okI yw cO.fn cO.h (by kernel_rfl) cO.ev
noncomputable def ua:SpL:=(122,[],⟨2,cO.si,cO.so,cO.F⟩)::yu
noncomputable abbrev vx:=cq ua sq0
theorem ub:bM PP vx:=yw.consS [] cO.fn.enters cO.ok
def di.si:Sh:=⟨[(0,.v true [.int .i64,.int .i64,.str]),(1,.v true [.int .i64,.int .i64,.str])],[],[],0,[]⟩
def di.so:Sh:=⟨[(0,.v false [.bool])],[],[],1000,[]⟩
def di.h:H:=.n
noncomputable def di.B:Int×Int×ByteArray×Int×Int×ByteArray×Unit→Option (Bool×Unit):=fun (p0_0,p0_1,p0_2,p1_0,p1_1,p1_2,_)=>
 (bif (p0_0==(2:Int)) then
 some ((p1_0==(2:Int)),())
 else
 some (false,()))
noncomputable def di.F:=stk di.B
theorem di.eq:di.F=di.B:=aN _
theorem di.ev (x:TS di.si):evI vx Tryz.f123 di.h di.si di.so x=di.B x:=by kernel_rfl
theorem di.fn:FnO 123 Tryz.f123:=fnO (by kernel_rfl) (by kernel_rfl)
theorem di.ok:aB PP 123 ⟨2,di.si,di.so,di.F⟩:=okI ub di.fn di.h (by kernel_rfl) di.ev
noncomputable def vy:SpL:=(123,[],⟨2,di.si,di.so,di.F⟩)::ua
noncomputable abbrev yx:=cq vy sq0
theorem vA:bM PP yx:=ub.consS [] di.fn.enters di.ok
def cK.si:Sh:=⟨[],[],[],0,[]⟩
def cK.so:Sh:=⟨[(0,.v false [.int .i64])],[],[],1000,[]⟩
def cK.h:H:=.n
noncomputable def cK.B:Unit→Option (Int×Unit):=fun (_)=>
 some ((-9223372036854775808:Int),())
noncomputable def cK.F:=stk cK.B
theorem cK.eq:cK.F=cK.B:=aN _
theorem cK.ev (x:TS cK.si):evI yx Tryz.f124 cK.h cK.si cK.so x=cK.B x:=by kernel_rfl
theorem cK.fn:FnO 124 Tryz.f124:=fnO (by kernel_rfl) (by kernel_rfl)
theorem cK.ok:aB PP 124 ⟨0,cK.si,cK.so,cK.F⟩:=okI vA cK.fn cK.h (by kernel_rfl) cK.ev
noncomputable def uc:SpL:=(124,[],⟨0,cK.si,cK.so,cK.F⟩)::vy
noncomputable abbrev vB:=cq uc sq0
theorem ud:bM PP vB:=vA.consS [] cK.fn.enters cK.ok
def dQ.si:Sh:=⟨[(0,.v true [.int .i64,.int .i64,.str]),(1,.v true [.int .i64,.int .i64,.str])],[],[],0,[]⟩
def dQ.so:Sh:=⟨[(0,.tup [(true,[.int .i64,.int .i64,.str]),(false,[.bool])])],[],[],1000,[]⟩
def dQ.h:H:=(.s none .n (.s none .n (.s none .n (.s (some ⟨[],[],[2,3,4],0,[]⟩) .n (.s none (.s (some ⟨[(44,.v false [.bool])],[],[2,3,4],0,[]⟩) .n .n) .n)))))
noncomputable def dQ.B:Int×Int×ByteArray×Int×Int×ByteArray×Unit→Option (Int×Int×ByteArray×Bool×Unit):=fun (p0_0,p0_1,p0_2,p1_0,p1_1,p1_2,_)=>
 Option.bind (cO.F (p0_0,p0_1,p0_2,p1_0,p1_1,p1_2,())) fun y1=>
 (bif y1.1 then
 some ((0:Int),(0:Int),(⟨#[]⟩:ByteArray),true,())
 else
 Option.bind (di.F (p0_0,p0_1,p0_2,p1_0,p1_1,p1_2,())) fun y2=>
 (bif (!y2.1) then
 some ((0:Int),(0:Int),(⟨#[]⟩:ByteArray),false,())
 else
 Option.bind (
 (bif (p0_1==(0:Int)) then
 Option.bind (dK.F ((0:Int),())) fun y3=>
 some (.inr (y3.1,y3.2.1,y3.2.2.1,true,()))
 else
 (bif (p1_1==(0:Int)) then
 Option.bind (dK.F ((0:Int),())) fun y4=>
 some (.inr (y4.1,y4.2.1,y4.2.2.1,true,()))
 else
 some (.inl (())))):Option ((Unit)⊕_)) fun r5=>match r5 with
 | .inl (_)=>
 (Option.bind (
 (bif (p0_1==(-1:Int)) then
 Option.bind (cK.F (())) fun y6=>
 (bif (p1_1==y6.1) then
 some (.inl (true,()))
 else
 (bif (p1_1==(-1:Int)) then
 Option.bind (cK.F (())) fun y7=>
 some (.inl ((p0_1==y7.1),()))
 else
 some (.inl (false,()))))
 else
 (bif (p1_1==(-1:Int)) then
 Option.bind (cK.F (())) fun y8=>
 some (.inl ((p0_1==y8.1),()))
 else
 some (.inl (false,())))):Option ((Bool×Unit)⊕_)) fun r9=>match r9 with
 | .inl (x44_9,_)=>
 ((bif x44_9 then
 some ((0:Int),(0:Int),(⟨#[]⟩:ByteArray),false,())
 else
 let e10:Int:=(IntKind.i64.wrap (p0_1*p1_1))
 bif (!decide (p1_1=0)) then
 let e11:Int:=(IntKind.i64.wrap (Int.tdiv e10 p1_1))
 (bif (e11 !=p0_1) then
 some ((0:Int),(0:Int),(⟨#[]⟩:ByteArray),false,())
 else
 bif (!decide (p1_1=0)) then
 let e12:Int:=(Int.tmod e10 p1_1)
 (bif (e12 !=(0:Int)) then
 some ((0:Int),(0:Int),(⟨#[]⟩:ByteArray),false,())
 else
 Option.bind (dK.F (e10,())) fun y13=>
 some (y13.1,y13.2.1,y13.2.2.1,true,()))
 else none)
 else none))
 | .inr r=>some r)
 | .inr r=>some r))
noncomputable def dQ.F:=stk dQ.B
theorem dQ.eq:dQ.F=dQ.B:=aN _
theorem dQ.ev (x:TS dQ.si):evI vB Tryz.f89 dQ.h dQ.si dQ.so x=dQ.B x:=by kernel_rfl
theorem dQ.fn:FnO 89 Tryz.f89:=fnO (by kernel_rfl) (by kernel_rfl)
theorem dQ.ok:aB PP 89 ⟨2,dQ.si,dQ.so,dQ.F⟩:=okI ud dQ.fn dQ.h (by kernel_rfl) dQ.ev
noncomputable def yy:SpL:=(89,[],⟨2,dQ.si,dQ.so,dQ.F⟩)::uc
noncomputable abbrev Be:=cq yy sq0
theorem yA:bM PP Be:=ud.consS [] dQ.fn.enters dQ.ok
def dD.si:Sh:=⟨[],[],[],0,[]⟩
def dD.so:Sh:=⟨[(0,.v false [.int .i64])],[],[],1000,[]⟩
def dD.h:H:=.n
noncomputable def dD.B:Unit→Option (Int×Unit):=fun (_)=>
 some ((9223372036854775807:Int),())
noncomputable def dD.F:=stk dD.B
theorem dD.eq:dD.F=dD.B:=aN _
theorem dD.ev (x:TS dD.si):evI Be Tryz.f125 dD.h dD.si dD.so x=dD.B x:=by kernel_rfl
theorem dD.fn:FnO 125 Tryz.f125:=fnO (by kernel_rfl) (by kernel_rfl)
theorem dD.ok:aB PP 125 ⟨0,dD.si,dD.so,dD.F⟩:=okI yA dD.fn dD.h (by kernel_rfl) dD.ev
noncomputable def vC:SpL:=(125,[],⟨0,dD.si,dD.so,dD.F⟩)::yy
noncomputable abbrev yB:=cq vC sq0
theorem vD:bM PP yB:=yA.consS [] dD.fn.enters dD.ok
def dR.si:Sh:=⟨[(0,.v true [.int .i64,.int .i64,.str]),(1,.v true [.int .i64,.int .i64,.str])],[],[],0,[]⟩
def dR.so:Sh:=⟨[(0,.tup [(true,[.int .i64,.int .i64,.str]),(false,[.bool])])],[],[],1000,[]⟩
def dR.h:H:=(.s none .n (.s none .n (.s none (.s (some ⟨[(41,.v false [.bool])],[],[2,3,4],0,[]⟩) .n .n) .n)))
noncomputable def dR.B:Int×Int×ByteArray×Int×Int×ByteArray×Unit→Option (Int×Int×ByteArray×Bool×Unit):=fun (p0_0,p0_1,p0_2,p1_0,p1_1,p1_2,_)=>
 Option.bind (cO.F (p0_0,p0_1,p0_2,p1_0,p1_1,p1_2,())) fun y1=>
 (bif y1.1 then
 some ((0:Int),(0:Int),(⟨#[]⟩:ByteArray),true,())
 else
 Option.bind (
 Option.bind (di.F (p0_0,p0_1,p0_2,p1_0,p1_1,p1_2,())) fun y2=>
 (bif (!y2.1) then
 some (.inl (true,()))
 else
 (bif (decide (p1_1>(0:Int))) then
 Option.bind (dD.F (())) fun y3=>
 let e4:Int:=(IntKind.i64.wrap (y3.1-p1_1))
 (bif (decide (p0_1>e4)) then
 some (.inl (true,()))
 else
 (bif (decide (p1_1<(0:Int))) then
 Option.bind (cK.F (())) fun y5=>
 let e6:Int:=(IntKind.i64.wrap (y5.1-p1_1))
 some (.inl ((decide (p0_1<e6)),()))
 else
 some (.inl (false,()))))
 else
 (bif (decide (p1_1<(0:Int))) then
 Option.bind (cK.F (())) fun y7=>
 let e8:Int:=(IntKind.i64.wrap (y7.1-p1_1))
 some (.inl ((decide (p0_1<e8)),()))
 else
 some (.inl (false,()))))):Option ((Bool×Unit)⊕_)) fun r9=>match r9 with
 | .inl (x41_9,_)=>
 ((bif x41_9 then
 some ((0:Int),(0:Int),(⟨#[]⟩:ByteArray),false,())
 else
 let e10:Int:=(IntKind.i64.wrap (p0_1+p1_1))
 Option.bind (dK.F (e10,())) fun y11=>
 some (y11.1,y11.2.1,y11.2.2.1,true,())))
 | .inr r=>some r)
noncomputable def dR.F:=stk dR.B
theorem dR.eq:dR.F=dR.B:=aN _
theorem dR.ev (x:TS dR.si):evI yB Tryz.f90 dR.h dR.si dR.so x=dR.B x:=by kernel_rfl
theorem dR.fn:FnO 90 Tryz.f90:=fnO (by kernel_rfl) (by kernel_rfl)
theorem dR.ok:aB PP 90 ⟨2,dR.si,dR.so,dR.F⟩:=okI vD dR.fn dR.h (by kernel_rfl) dR.ev
noncomputable def yC:SpL:=(90,[],⟨2,dR.si,dR.so,dR.F⟩)::vC
noncomputable abbrev Bf:=cq yC sq0
theorem yD:bM PP Bf:=vD.consS [] dR.fn.enters dR.ok
def dS.si:Sh:=⟨[(0,.v true [.int .i64,.int .i64,.str]),(1,.v true [.int .i64,.int .i64,.str])],[],[],0,[]⟩
def dS.so:Sh:=⟨[(0,.tup [(true,[.int .i64,.int .i64,.str]),(false,[.bool])])],[],[],1000,[]⟩
def dS.h:H:=(.s none .n (.s none .n (.s none (.s (some ⟨[(41,.v false [.bool])],[],[2,3,4],0,[]⟩) .n .n) .n)))
noncomputable def dS.B:Int×Int×ByteArray×Int×Int×ByteArray×Unit→Option (Int×Int×ByteArray×Bool×Unit):=fun (p0_0,p0_1,p0_2,p1_0,p1_1,p1_2,_)=>
 Option.bind (cO.F (p0_0,p0_1,p0_2,p1_0,p1_1,p1_2,())) fun y1=>
 (bif y1.1 then
 some ((0:Int),(0:Int),(⟨#[]⟩:ByteArray),true,())
 else
 Option.bind (
 Option.bind (di.F (p0_0,p0_1,p0_2,p1_0,p1_1,p1_2,())) fun y2=>
 (bif (!y2.1) then
 some (.inl (true,()))
 else
 (bif (decide (p1_1<(0:Int))) then
 Option.bind (dD.F (())) fun y3=>
 let e4:Int:=(IntKind.i64.wrap (y3.1+p1_1))
 (bif (decide (p0_1>e4)) then
 some (.inl (true,()))
 else
 (bif (decide (p1_1>(0:Int))) then
 Option.bind (cK.F (())) fun y5=>
 let e6:Int:=(IntKind.i64.wrap (y5.1+p1_1))
 some (.inl ((decide (p0_1<e6)),()))
 else
 some (.inl (false,()))))
 else
 (bif (decide (p1_1>(0:Int))) then
 Option.bind (cK.F (())) fun y7=>
 let e8:Int:=(IntKind.i64.wrap (y7.1+p1_1))
 some (.inl ((decide (p0_1<e8)),()))
 else
 some (.inl (false,()))))):Option ((Bool×Unit)⊕_)) fun r9=>match r9 with
 | .inl (x41_9,_)=>
 ((bif x41_9 then
 some ((0:Int),(0:Int),(⟨#[]⟩:ByteArray),false,())
 else
 let e10:Int:=(IntKind.i64.wrap (p0_1-p1_1))
 Option.bind (dK.F (e10,())) fun y11=>
 some (y11.1,y11.2.1,y11.2.2.1,true,())))
 | .inr r=>some r)
noncomputable def dS.F:=stk dS.B
theorem dS.eq:dS.F=dS.B:=aN _
theorem dS.ev (x:TS dS.si):evI Bf Tryz.f91 dS.h dS.si dS.so x=dS.B x:=by kernel_rfl
theorem dS.fn:FnO 91 Tryz.f91:=fnO (by kernel_rfl) (by kernel_rfl)
theorem dS.ok:aB PP 91 ⟨2,dS.si,dS.so,dS.F⟩:=okI yD dS.fn dS.h (by kernel_rfl) dS.ev
noncomputable def yE:SpL:=(91,[],⟨2,dS.si,dS.so,dS.F⟩)::yC
noncomputable abbrev Bg:=cq yE sq0
theorem yF:bM PP Bg:=yD.consS [] dS.fn.enters dS.ok
def cC.si:Sh:=⟨[(0,.v false [.str])],[],[],0,[]⟩
def cC.so:Sh:=⟨[(0,.tup [(false,[.int .i64]),(false,[.bool])])],[],[],1000,[]⟩
def cC.h:H:=(.s none .n (.s none .n (.s none .n (.s none .n (.s (some ⟨[(5,.v false [.ptr 0 0]),(6,.v false [.bool])],[(0,true,.box 76 [.int .i64,.int .i64,.str])],[0],1,[]⟩) (.s none .n (.b (.l ⟨[(5,.v false [.ptr 0 0]),(6,.v false [.bool]),(7,.v false [.int .i64])],[(0,true,.box 76 [.int .i64,.int .i64,.str])],[0,4],1,[]⟩ (.s none .n (.s (some ⟨[(5,.v false [.ptr 0 0]),(6,.v false [.bool])],[(0,true,.box 76 [.int .i64,.int .i64,.str])],[0,4,7],1,[]⟩) .n .n))))) .n)))))
noncomputable def cC.B:ByteArray×Unit→Option (Int×Bool×Unit):=fun (p0,_)=>
 bif (decide (0≤(0:Int))&&decide ((0:Int)<(p0.size:Int))) then
 let e1:Int:=(eK p0 0)
 Option.bind (
 bE (S:=Bool×Int×Int×Int×ByteArray×Unit) (fun (x6,x7,o5_0_0,o5_0_1,o5_0_2,_)=>
 (bif (decide (x7<(p0.size:Int))) then
 Option.bind (
 bif (decide (0≤x7)&&decide (x7<(p0.size:Int))) then
 let e2:Int:=(eK p0 (Int.toNat x7))
 (bif (e2==(45:Int)) then
 some (.inl (x6,o5_0_0,o5_0_1,o5_0_2,()))
 else
 bif (decide (0≤x7)&&decide (x7<(p0.size:Int))) then
 let e3:Int:=(eK p0 (Int.toNat x7))
 let e4:Int:=(IntKind.u8.wrap (e3-(48:Int)))
 Option.bind (dK.F ((IntKind.i64.wrap (e4)),())) fun y5=>
 Option.bind (dK.F ((10:Int),())) fun y6=>
 Option.bind (dQ.F (o5_0_0,o5_0_1,o5_0_2,y6.1,y6.2.1,y6.2.2.1,())) fun y7=>
 Option.bind (dR.F (y7.1,y7.2.1,y7.2.2.1,y5.1,y5.2.1,y5.2.2.1,())) fun y8=>
 (bif (e1==(45:Int)) then
 Option.bind (dS.F (y7.1,y7.2.1,y7.2.2.1,y5.1,y5.2.1,y5.2.2.1,())) fun y9=>
 (bif x6 then
 (bif y7.2.2.2.1 then
 some (.inl (y9.2.2.2.1,y9.1,y9.2.1,y9.2.2.1,()))
 else
 some (.inl (false,y9.1,y9.2.1,y9.2.2.1,())))
 else
 some (.inl (false,y9.1,y9.2.1,y9.2.2.1,())))
 else
 (bif x6 then
 (bif y7.2.2.2.1 then
 some (.inl (y8.2.2.2.1,y8.1,y8.2.1,y8.2.2.1,()))
 else
 some (.inl (false,y8.1,y8.2.1,y8.2.2.1,())))
 else
 some (.inl (false,y8.1,y8.2.1,y8.2.2.1,()))))
 else none)
 else none:Option ((Bool×Int×Int×ByteArray×Unit)⊕_)) fun r10=>match r10 with
 | .inl (x6_10,o5_0_0_10,o5_0_1_10,o5_0_2_10,_)=>
 (let e11:Int:=(IntKind.i64.wrap (x7+(1:Int)))
 some (.inl (x6_10,e11,o5_0_0_10,o5_0_1_10,o5_0_2_10,())))
 | .inr r=>some r
 else
 some (.inr (.inl (x6,o5_0_0,o5_0_1,o5_0_2,()))))) (true,(0:Int),(2:Int),(0:Int),(⟨#[]⟩:ByteArray),()):Option ((Bool×Int×Int×ByteArray×Unit)⊕_)) fun r12=>match r12 with
 | .inl (x6_12,o5_0_0_12,o5_0_1_12,o5_0_2_12,_)=>
 ((bif x6_12 then
 Option.bind (bC.F (o5_0_1_12,())) fun y13=>
 some (o5_0_1_12,(y13.1.toList==p0.toList),())
 else
 some (o5_0_1_12,false,())))
 | .inr r=>some r
 else none
noncomputable def cC.F:=stk cC.B
theorem cC.eq:cC.F=cC.B:=aN _
theorem cC.ev (x:TS cC.si):evI Bg Tryz.f67 cC.h cC.si cC.so x=cC.B x:=by kernel_rfl
theorem cC.fn:FnO 67 Tryz.f67:=fnO (by kernel_rfl) (by kernel_rfl)
theorem cC.ok:aB PP 67 ⟨1,cC.si,cC.so,cC.F⟩:=okI yF cC.fn cC.h (by kernel_rfl) cC.ev
noncomputable def sa:SpL:=(67,[],⟨1,cC.si,cC.so,cC.F⟩)::yE
noncomputable abbrev ue:=cq sa sq0
theorem sb:bM PP ue:=yF.consS [] cC.fn.enters cC.ok
def dE.si:Sh:=⟨[(0,.v false [.str]),(1,.v false [.int .i64])],[],[],0,[]⟩
def dE.so:Sh:=⟨[(0,.tup [(false,[.str]),(false,[.int .i64]),(false,[.bool])])],[],[],1000,[]⟩
def dE.h:H:=(.s none .n (.s none .n (.s none .n (.s none (.b (.l ⟨[(7,.v false [.str]),(8,.v false [.int .i64])],[],[0],0,[]⟩ .n)) .n))))
noncomputable def dE.B:ByteArray×Int×Unit→Option (ByteArray×Int×Bool×Unit):=fun (p0,p1,_)=>
 let e1:Int:=(IntKind.i64.wrap (p1+(1:Int)))
 bE (S:=ByteArray×Int×Unit) (fun (x7,x8,_)=>
 (bif (decide (x8<(p0.size:Int))) then
 bif (decide (0≤x8)&&decide (x8<(p0.size:Int))) then
 let e2:Int:=(eK p0 (Int.toNat x8))
 (bif (e2 !=(39:Int)) then
 let e3:Int:=(IntKind.i64.wrap (x8+(1:Int)))
 bif (decide (0≤x8)&&(decide (x8≤e3)&&decide (e3≤(p0.size:Int)))) then
 let e4:ByteArray:=(p0.extract (Int.toNat x8) (Int.toNat e3))
 bif (!decide (((x7.size+e4.size:Nat):Int)>IntKind.i64.max)) then
 let e5:ByteArray:=(x7++e4)
 let e6:Int:=(IntKind.i64.wrap (x8+(1:Int)))
 some (.inl (e5,e6,()))
 else none
 else none
 else
 let e7:Int:=(IntKind.i64.wrap (x8+(1:Int)))
 (bif (decide (e7<(p0.size:Int))) then
 let e8:Int:=(IntKind.i64.wrap (x8+(1:Int)))
 bif (decide (0≤e8)&&decide (e8<(p0.size:Int))) then
 let e9:Int:=(eK p0 (Int.toNat e8))
 (bif (e9==(39:Int)) then
 bif (!decide (((x7.size+(⟨#[39]⟩:ByteArray).size:Nat):Int)>IntKind.i64.max)) then
 let e10:ByteArray:=(x7++(⟨#[39]⟩:ByteArray))
 let e11:Int:=(IntKind.i64.wrap (x8+(2:Int)))
 some (.inl (e10,e11,()))
 else none
 else
 let e12:Int:=(IntKind.i64.wrap (x8+(1:Int)))
 some (.inr (x7,e12,(decide ((x7.size:Int)≤(1000:Int))),())))
 else none
 else
 let e13:Int:=(IntKind.i64.wrap (x8+(1:Int)))
 some (.inr (x7,e13,(decide ((x7.size:Int)≤(1000:Int))),()))))
 else none
 else
 some (.inr ((⟨#[]⟩:ByteArray),(0:Int),false,())))) ((⟨#[]⟩:ByteArray),e1,())
noncomputable def dE.F:=stk dE.B
theorem dE.eq:dE.F=dE.B:=aN _
theorem dE.ev (x:TS dE.si):evI ue Tryz.f69 dE.h dE.si dE.so x=dE.B x:=by kernel_rfl
theorem dE.fn:FnO 69 Tryz.f69:=fnO (by kernel_rfl) (by kernel_rfl)
theorem dE.ok:aB PP 69 ⟨2,dE.si,dE.so,dE.F⟩:=okI sb dE.fn dE.h (by kernel_rfl) dE.ev
noncomputable def vF:SpL:=(69,[],⟨2,dE.si,dE.so,dE.F⟩)::sa
noncomputable abbrev yG:=cq vF sq0
theorem vG:bM PP yG:=sb.consS [] dE.fn.enters dE.ok
def d8.si:Sh:=⟨[(0,.v false [.str])],[],[],0,[]⟩
def d8.so:Sh:=⟨[(0,.tup [(false,[.ref 1000]),(false,[.int .i64])])],[(1000,false,.arr 111 dA)],[],1001,[]⟩
def d8.h:H:=(.s none .n (.s none .n (.s none .n (.s none .n (.s none (.b (.l ⟨[(4,.v false [.ref 0]),(5,.v false [.int .i64])],[(0,false,.arr 111 dA)],[0],1,[]⟩ (.s none .n (.b (.s none .n (.s none .n (.s none .n (.s none .n (.s none .n (.s (some ⟨[(7,.v false [.int .i64]),(8,.v false [.ptr 0 0]),(9,.v false [.bool])],[(0,true,.box 111 [.int .i64,.str,.int .i64,.int .i64,.str])],[0,4],1,[]⟩) (.s none .n (.c (.s (some ⟨[(7,.v false [.int .i64])],[],[0,4,5,8],0,[]⟩) (.b (.l ⟨[(7,.v false [.int .i64])],[],[0,4,5,8],0,[]⟩ .n)) .n) (.s (some ⟨[(80,.v false [.bool])],[],[0,4,5,6,7,8,9],0,[]⟩) .n (.c (.s (some ⟨[(7,.v false [.int .i64])],[],[0,4,5,8],0,[]⟩) (.b (.l ⟨[(7,.v false [.int .i64])],[],[0,4,5,8],0,[]⟩ .n)) .n) .n)))) .n)))))))))) .n)))))
noncomputable def d8.B:ByteArray×Unit→Option (Int×(List bH)×Unit):=fun (p0,_)=>
 (bif (decide ((p0.size:Int)>(20000:Int))) then
 some ((60:Int),[],())
 else
 bE (S:=Int×(List bH)×Unit) (fun (x5,o4_0,_)=>
 (bif (decide (x5<(p0.size:Int))) then
 bif (decide (0≤x5)&&decide (x5<(p0.size:Int))) then
 let e1:Int:=(eK p0 (Int.toNat x5))
 let e2:Int:=(IntKind.i64.wrap (x5+(1:Int)))
 bif (decide (0≤x5)&&(decide (x5≤e2)&&decide (e2≤(p0.size:Int)))) then
 let e3:ByteArray:=(p0.extract (Int.toNat x5) (Int.toNat e2))
 Option.bind (dC.F (e1,())) fun y4=>
 (bif (e1==(32:Int)) then
 let e5:Int:=(IntKind.i64.wrap (x5+(1:Int)))
 some (.inl (e5,o4_0,()))
 else
 Option.bind (
 Option.bind (cB.F (e1,())) fun y6=>
 (bif y6.1 then
 Option.bind (
 bE (S:=Int×Unit) (fun (x7',_)=>
 (bif (decide (x7'<(p0.size:Int))) then
 bif (decide (0≤x7')&&decide (x7'<(p0.size:Int))) then
 let e7:Int:=(eK p0 (Int.toNat x7'))
 Option.bind (cR.F (e7,())) fun y8=>
 (bif y8.1 then
 let e9:Int:=(IntKind.i64.wrap (x7'+(1:Int)))
 some (.inl (e9,()))
 else
 some (.inr (.inl (x7',()))))
 else none
 else
 some (.inr (.inl (x7',()))))) (e2,()):Option ((Int×Unit)⊕_)) fun r10=>match r10 with
 | .inl (x7_10,_)=>
 (bif (decide (0≤x5)&&(decide (x5≤x7_10)&&decide (x7_10≤(p0.size:Int)))) then
 let e11:ByteArray:=(p0.extract (Int.toNat x5) (Int.toNat x7_10))
 bif (decide (0≤x5)&&(decide (x5≤x7_10)&&decide (x7_10≤(p0.size:Int)))) then
 let e12:ByteArray:=(p0.extract (Int.toNat x5) (Int.toNat x7_10))
 Option.bind (du.F (e12,())) fun y13=>
 some (.inl (x7_10,y13.1,(0:Int),e11,(0:Int),(0:Int),(⟨#[]⟩:ByteArray),()))
 else none
 else none)
 | .inr r=>some r
 else
 Option.bind (
 Option.bind (cF.F (e1,())) fun y14=>
 (bif y14.1 then
 some (.inl (true,()))
 else
 (bif (e1==(45:Int)) then
 (bif (decide (e2<(p0.size:Int))) then
 bif (decide (0≤e2)&&decide (e2<(p0.size:Int))) then
 let e15:Int:=(eK p0 (Int.toNat e2))
 Option.bind (cF.F (e15,())) fun y16=>
 some (.inl (y16.1,()))
 else none
 else
 some (.inl (false,())))
 else
 some (.inl (false,())))):Option ((Bool×Unit)⊕_)) fun r17=>match r17 with
 | .inl (x80_17,_)=>
 ((bif x80_17 then
 Option.bind (
 bE (S:=Int×Unit) (fun (x7',_)=>
 (bif (decide (x7'<(p0.size:Int))) then
 bif (decide (0≤x7')&&decide (x7'<(p0.size:Int))) then
 let e18:Int:=(eK p0 (Int.toNat x7'))
 Option.bind (cF.F (e18,())) fun y19=>
 (bif y19.1 then
 let e20:Int:=(IntKind.i64.wrap (x7'+(1:Int)))
 some (.inl (e20,()))
 else
 some (.inr (.inl (x7',()))))
 else none
 else
 some (.inr (.inl (x7',()))))) (e2,()):Option ((Int×Unit)⊕_)) fun r21=>match r21 with
 | .inl (x7_21,_)=>
 (bif (decide (0≤x5)&&(decide (x5≤x7_21)&&decide (x7_21≤(p0.size:Int)))) then
 let e22:ByteArray:=(p0.extract (Int.toNat x5) (Int.toNat x7_21))
 Option.bind (cC.F (e22,())) fun y23=>
 Option.bind (dK.F (y23.1,())) fun y24=>
 some (.inl (x7_21,y23.2.1,(1:Int),(⟨#[]⟩:ByteArray),y24.1,y24.2.1,y24.2.2.1,()))
 else none)
 | .inr r=>some r
 else
 (bif (e1==(39:Int)) then
 Option.bind (dE.F (p0,x5,())) fun y25=>
 some (.inl (y25.2.1,y25.2.2.1,(1:Int),(⟨#[]⟩:ByteArray),(3:Int),(0:Int),y25.1,()))
 else
 some (.inl (e2,y4.1,(2:Int),e3,(0:Int),(0:Int),(⟨#[]⟩:ByteArray),())))))
 | .inr r=>some r):Option ((Int×Bool×Int×ByteArray×Int×Int×ByteArray×Unit)⊕_)) fun r26=>match r26 with
 | .inl (x7_26,x9_26,o8_0_0_26,o8_0_1_26,o8_0_2_26,o8_0_3_26,o8_0_4_26,_)=>
 ((bif (!x9_26) then
 some (.inr ((60:Int),[],()))
 else
 bif (Nat.ble (o4_0.length+ [(o8_0_0_26,(o8_0_1_26,(o8_0_2_26,(o8_0_3_26,o8_0_4_26))))].length) 2513169434916) then
 some (.inl (x7_26,(o4_0++ [(o8_0_0_26,(o8_0_1_26,(o8_0_2_26,(o8_0_3_26,o8_0_4_26))))]),()))
 else none))
 | .inr r=>some r)
 else none
 else none
 else
 some (.inr ((0:Int),o4_0,())))) ((0:Int),([]:List bH),()))
noncomputable def d8.F:=stk d8.B
theorem d8.eq:d8.F=d8.B:=aN _
theorem d8.ev (x:TS d8.si):evI yG Tryz.f48 d8.h d8.si d8.so x=d8.B x:=by kernel_rfl
theorem d8.fn:FnO 48 Tryz.f48:=fnO (by kernel_rfl) (by kernel_rfl)
theorem d8.ok:aB PP 48 ⟨1,d8.si,d8.so,d8.F⟩:=okI vG d8.fn d8.h (by kernel_rfl) d8.ev
noncomputable def yH:SpL:=(48,[],⟨1,d8.si,d8.so,d8.F⟩)::vF
noncomputable abbrev Bh:=cq yH sq0
theorem yI:bM PP Bh:=vG.consS [] d8.fn.enters d8.ok
def bF.si:Sh:=⟨[(0,.v false [.ptr 0 0]),(1,.v false [.str])],[(0,true,.box 95 [.sl 111 dA,.int .i64,.bool])],[],1,[]⟩
def bF.so:Sh:=⟨[(0,.v false [.bool])],[(0,true,.box 95 [.sl 111 dA,.int .i64,.bool])],[],1001,[(0,0)]⟩
def bF.h:H:=.n
noncomputable def bF.B:ByteArray×(List bH)×Int×Bool×Unit→Option (Bool×(List bH)×Int×Bool×Unit):=fun (p1,o0_0,o0_1,o0_2,_)=>
 (bif (decide (o0_1<(o0_0.length:Int))) then
 bif (decide (0≤o0_1)&&decide (o0_1<(o0_0.length:Int))) then
 let e1:bH:=(List.getD o0_0 (Int.toNat o0_1) dA.z)
 (bif (e1.1 !=(1:Int)) then
 bif (decide (0≤o0_1)&&decide (o0_1<(o0_0.length:Int))) then
 let e2:bH:=(List.getD o0_0 (Int.toNat o0_1) dA.z)
 some ((e2.2.1.toList==p1.toList),o0_0,o0_1,o0_2,())
 else none
 else
 some (false,o0_0,o0_1,o0_2,()))
 else none
 else
 some (false,o0_0,o0_1,o0_2,()))
noncomputable def bF.F:=stk bF.B
theorem bF.eq:bF.F=bF.B:=aN _
theorem bF.ev (x:TS bF.si):evI Bh Tryz.f76 bF.h bF.si bF.so x=bF.B x:=by kernel_rfl
theorem bF.fn:FnO 76 Tryz.f76:=fnO (by kernel_rfl) (by kernel_rfl)
theorem bF.ok:aB PP 76 ⟨2,bF.si,bF.so,bF.F⟩:=okI yI bF.fn bF.h (by kernel_rfl) bF.ev
noncomputable def ox:SpL:=(76,[],⟨2,bF.si,bF.so,bF.F⟩)::yH
noncomputable abbrev pd:=cq ox sq0
theorem oy:bM PP pd:=yI.consS [] bF.fn.enters bF.ok
def ax.si:Sh:=⟨[(0,.v false [.ptr 0 0]),(1,.v false [.str])],[(0,true,.box 95 [.sl 111 dA,.int .i64,.bool])],[],1,[]⟩
def ax.so:Sh:=⟨[(0,.v false [.bool])],[(0,true,.box 95 [.sl 111 dA,.int .i64,.bool])],[],1001,[(0,0)]⟩
def ax.h:H:=.n
noncomputable def ax.B:ByteArray×(List bH)×Int×Bool×Unit→Option (Bool×(List bH)×Int×Bool×Unit):=fun (p1,o0_0,o0_1,o0_2,_)=>
 Option.bind (bF.F (p1,o0_0,o0_1,o0_2,())) fun y1=>
 (bif y1.1 then
 let e2:Int:=(IntKind.i64.wrap (y1.2.2.1+(1:Int)))
 some (true,y1.2.1,e2,y1.2.2.2.1,())
 else
 some (false,y1.2.1,y1.2.2.1,y1.2.2.2.1,()))
noncomputable def ax.F:=stk ax.B
theorem ax.eq:ax.F=ax.B:=aN _
theorem ax.ev (x:TS ax.si):evI pd Tryz.f70 ax.h ax.si ax.so x=ax.B x:=by kernel_rfl
theorem ax.fn:FnO 70 Tryz.f70:=fnO (by kernel_rfl) (by kernel_rfl)
theorem ax.ok:aB PP 70 ⟨2,ax.si,ax.so,ax.F⟩:=okI oy ax.fn ax.h (by kernel_rfl) ax.ev
noncomputable def lB:SpL:=(70,[],⟨2,ax.si,ax.so,ax.F⟩)::ox
noncomputable abbrev mM:=cq lB sq0
theorem lD:bM PP mM:=oy.consS [] ax.fn.enters ax.ok
def bp.si:Sh:=⟨[(0,.v false [.ptr 0 0]),(1,.v false [.sl 9 .str])],[(0,true,.box 95 [.sl 111 dA,.int .i64,.bool])],[],1,[]⟩
def bp.so:Sh:=⟨[(0,.v false [.int .i64])],[(0,true,.box 95 [.sl 111 dA,.int .i64,.bool])],[],1001,[(0,0)]⟩
def bp.h:H:=(.s none .n (.s (some ⟨[(0,.v false [.ptr 0 0])],[(0,true,.box 95 [.sl 111 dA,.int .i64,.bool])],[],1,[]⟩) (.s none .n (.b (.l ⟨[(0,.v false [.ptr 0 0]),(5,.v false [.int .i64])],[(0,true,.box 95 [.sl 111 dA,.int .i64,.bool])],[1],1,[]⟩ .n))) .n))
noncomputable def bp.B:(List ByteArray)×(List bH)×Int×Bool×Unit→Option (Int×(List bH)×Int×Bool×Unit):=fun (p1,o0_0,o0_1,o0_2,_)=>
 Option.bind (
 bE (S:=Int×(List bH)×Int×Bool×Unit) (fun (x5,o0_0_0,o0_0_1,o0_0_2,_)=>
 (bif (decide (x5<(p1.length:Int))) then
 bif (decide (0≤x5)&&decide (x5<(p1.length:Int))) then
 let e1:ByteArray:=(List.getD p1 (Int.toNat x5) (⟨#[]⟩:ByteArray))
 Option.bind (ax.F (e1,o0_0_0,o0_0_1,o0_0_2,())) fun y2=>
 (bif y2.1 then
 some (.inr (.inr (x5,y2.2.1,y2.2.2.1,y2.2.2.2.1,())))
 else
 let e3:Int:=(IntKind.i64.wrap (x5+(1:Int)))
 some (.inl (e3,y2.2.1,y2.2.2.1,y2.2.2.2.1,())))
 else none
 else
 some (.inr (.inl (o0_0_0,o0_0_1,o0_0_2,()))))) ((0:Int),o0_0,o0_1,o0_2,()):Option (((List bH)×Int×Bool×Unit)⊕_)) fun r4=>match r4 with
 | .inl (o0_0_0_4,o0_0_1_4,o0_0_2_4,_)=>
 (some ((0:Int),o0_0_0_4,o0_0_1_4,false,()))
 | .inr r=>some r
noncomputable def bp.F:=stk bp.B
theorem bp.eq:bp.F=bp.B:=aN _
theorem bp.ev (x:TS bp.si):evI mM Tryz.f49 bp.h bp.si bp.so x=bp.B x:=by kernel_rfl
theorem bp.fn:FnO 49 Tryz.f49:=fnO (by kernel_rfl) (by kernel_rfl)
theorem bp.ok:aB PP 49 ⟨2,bp.si,bp.so,bp.F⟩:=okI lD bp.fn bp.h (by kernel_rfl) bp.ev
noncomputable def mN:SpL:=(49,[],⟨2,bp.si,bp.so,bp.F⟩)::lB
noncomputable abbrev oz:=cq mN sq0
theorem mO:bM PP oz:=lD.consS [] bp.fn.enters bp.ok
def bq.si:Sh:=⟨[(0,.v false [.ptr 0 0])],[(0,true,.box 95 [.sl 111 dA,.int .i64,.bool])],[],1,[]⟩
def bq.so:Sh:=⟨[(0,.v true [.int .i64,.str,.int .i64,.int .i64,.str])],[(0,true,.box 95 [.sl 111 dA,.int .i64,.bool])],[],1001,[(0,0)]⟩
def bq.h:H:=.n
noncomputable def bq.B:(List bH)×Int×Bool×Unit→Option (Int×ByteArray×Int×Int×ByteArray×(List bH)×Int×Bool×Unit):=fun (o0_0,o0_1,o0_2,_)=>
 (bif (decide (o0_1≥(o0_0.length:Int))) then
 some ((-1:Int),(⟨#[]⟩:ByteArray),(0:Int),(0:Int),(⟨#[]⟩:ByteArray),o0_0,o0_1,false,())
 else
 let e1:Int:=(IntKind.i64.wrap (o0_1+(1:Int)))
 let e2:Int:=(IntKind.i64.wrap (e1-(1:Int)))
 bif (decide (0≤e2)&&decide (e2<(o0_0.length:Int))) then
 let e3:bH:=(List.getD o0_0 (Int.toNat e2) dA.z)
 some (e3.1,e3.2.1,e3.2.2.1,e3.2.2.2.1,e3.2.2.2.2,o0_0,e1,o0_2,())
 else none)
noncomputable def bq.F:=stk bq.B
theorem bq.eq:bq.F=bq.B:=aN _
theorem bq.ev (x:TS bq.si):evI oz Tryz.f92 bq.h bq.si bq.so x=bq.B x:=by kernel_rfl
theorem bq.fn:FnO 92 Tryz.f92:=fnO (by kernel_rfl) (by kernel_rfl)
theorem bq.ok:aB PP 92 ⟨1,bq.si,bq.so,bq.F⟩:=okI mO bq.fn bq.h (by kernel_rfl) bq.ev
noncomputable def lE:SpL:=(92,[],⟨1,bq.si,bq.so,bq.F⟩)::mN
noncomputable abbrev mP:=cq lE sq0
theorem lF:bM PP mP:=mO.consS [] bq.fn.enters bq.ok
def cz.si:Sh:=⟨[(0,.v false [.str])],[],[],0,[]⟩
def cz.so:Sh:=⟨[(0,.v false [.bool])],[],[],1000,[]⟩
def cz.h:H:=(.s none .n (.s none .n (.s none (.s none .n (.b (.l ⟨[(4,.v false [.int .i64])],[],[0,3],0,[]⟩ .n))) .n)))
noncomputable def cz.B:ByteArray×Unit→Option (Bool×Unit):=fun (p0,_)=>
 bE (S:=Int×Unit) (fun (x4,_)=>
 (bif (decide (x4<([(⟨#[116,97,98,108,101]⟩:ByteArray),(⟨#[99,104,101,99,107]⟩:ByteArray),(⟨#[118,105,101,119]⟩:ByteArray),(⟨#[102,114,111,109]⟩:ByteArray),(⟨#[106,111,105,110]⟩:ByteArray),(⟨#[111,110]⟩:ByteArray),(⟨#[119,104,101,114,101]⟩:ByteArray),(⟨#[112,105,99,107]⟩:ByteArray),(⟨#[103,114,111,117,112]⟩:ByteArray),(⟨#[98,111,111,108]⟩:ByteArray),(⟨#[105,110,116]⟩:ByteArray),(⟨#[116,101,120,116]⟩:ByteArray),(⟨#[110,117,108,108]⟩:ByteArray),(⟨#[117,110,105,113,117,101]⟩:ByteArray),(⟨#[114,101,102]⟩:ByteArray),(⟨#[114,101,115,116,114,105,99,116]⟩:ByteArray),(⟨#[99,97,115,99,97,100,101]⟩:ByteArray),(⟨#[115,101,116,110,117,108,108]⟩:ByteArray),(⟨#[99,111,117,110,116]⟩:ByteArray),(⟨#[115,117,109]⟩:ByteArray),(⟨#[109,105,110]⟩:ByteArray),(⟨#[109,97,120]⟩:ByteArray),(⟨#[116,114,117,101]⟩:ByteArray),(⟨#[102,97,108,115,101]⟩:ByteArray),(⟨#[97,110,100]⟩:ByteArray),(⟨#[111,114]⟩:ByteArray),(⟨#[110,111,116]⟩:ByteArray)].length:Int))) then
 bif (decide (0≤x4)&&decide (x4<([(⟨#[116,97,98,108,101]⟩:ByteArray),(⟨#[99,104,101,99,107]⟩:ByteArray),(⟨#[118,105,101,119]⟩:ByteArray),(⟨#[102,114,111,109]⟩:ByteArray),(⟨#[106,111,105,110]⟩:ByteArray),(⟨#[111,110]⟩:ByteArray),(⟨#[119,104,101,114,101]⟩:ByteArray),(⟨#[112,105,99,107]⟩:ByteArray),(⟨#[103,114,111,117,112]⟩:ByteArray),(⟨#[98,111,111,108]⟩:ByteArray),(⟨#[105,110,116]⟩:ByteArray),(⟨#[116,101,120,116]⟩:ByteArray),(⟨#[110,117,108,108]⟩:ByteArray),(⟨#[117,110,105,113,117,101]⟩:ByteArray),(⟨#[114,101,102]⟩:ByteArray),(⟨#[114,101,115,116,114,105,99,116]⟩:ByteArray),(⟨#[99,97,115,99,97,100,101]⟩:ByteArray),(⟨#[115,101,116,110,117,108,108]⟩:ByteArray),(⟨#[99,111,117,110,116]⟩:ByteArray),(⟨#[115,117,109]⟩:ByteArray),(⟨#[109,105,110]⟩:ByteArray),(⟨#[109,97,120]⟩:ByteArray),(⟨#[116,114,117,101]⟩:ByteArray),(⟨#[102,97,108,115,101]⟩:ByteArray),(⟨#[97,110,100]⟩:ByteArray),(⟨#[111,114]⟩:ByteArray),(⟨#[110,111,116]⟩:ByteArray)].length:Int))) then
 let e1:ByteArray:=(List.getD [(⟨#[116,97,98,108,101]⟩:ByteArray),(⟨#[99,104,101,99,107]⟩:ByteArray),(⟨#[118,105,101,119]⟩:ByteArray),(⟨#[102,114,111,109]⟩:ByteArray),(⟨#[106,111,105,110]⟩:ByteArray),(⟨#[111,110]⟩:ByteArray),(⟨#[119,104,101,114,101]⟩:ByteArray),(⟨#[112,105,99,107]⟩:ByteArray),(⟨#[103,114,111,117,112]⟩:ByteArray),(⟨#[98,111,111,108]⟩:ByteArray),(⟨#[105,110,116]⟩:ByteArray),(⟨#[116,101,120,116]⟩:ByteArray),(⟨#[110,117,108,108]⟩:ByteArray),(⟨#[117,110,105,113,117,101]⟩:ByteArray),(⟨#[114,101,102]⟩:ByteArray),(⟨#[114,101,115,116,114,105,99,116]⟩:ByteArray),(⟨#[99,97,115,99,97,100,101]⟩:ByteArray),(⟨#[115,101,116,110,117,108,108]⟩:ByteArray),(⟨#[99,111,117,110,116]⟩:ByteArray),(⟨#[115,117,109]⟩:ByteArray),(⟨#[109,105,110]⟩:ByteArray),(⟨#[109,97,120]⟩:ByteArray),(⟨#[116,114,117,101]⟩:ByteArray),(⟨#[102,97,108,115,101]⟩:ByteArray),(⟨#[97,110,100]⟩:ByteArray),(⟨#[111,114]⟩:ByteArray),(⟨#[110,111,116]⟩:ByteArray)] (Int.toNat x4) (⟨#[]⟩:ByteArray))
 (bif (e1.toList==p0.toList) then
 some (.inr (true,()))
 else
 let e2:Int:=(IntKind.i64.wrap (x4+(1:Int)))
 some (.inl (e2,())))
 else none
 else
 some (.inr (false,())))) ((0:Int),())
noncomputable def cz.F:=stk cz.B
theorem cz.eq:cz.F=cz.B:=aN _
theorem cz.ev (x:TS cz.si):evI mP Tryz.f126 cz.h cz.si cz.so x=cz.B x:=by kernel_rfl
theorem cz.fn:FnO 126 Tryz.f126:=fnO (by kernel_rfl) (by kernel_rfl)
theorem cz.ok:aB PP 126 ⟨1,cz.si,cz.so,cz.F⟩:=okI lF cz.fn cz.h (by kernel_rfl) cz.ev
noncomputable def qH:SpL:=(126,[],⟨1,cz.si,cz.so,cz.F⟩)::lE
noncomputable abbrev sc:=cq qH sq0
theorem qI:bM PP sc:=lF.consS [] cz.fn.enters cz.ok
def dF.si:Sh:=⟨[(0,.v false [.str])],[],[],0,[]⟩
def dF.so:Sh:=⟨[(0,.v false [.bool])],[],[],1000,[]⟩
def dF.h:H:=.n
noncomputable def dF.B:ByteArray×Unit→Option (Bool×Unit):=fun (p0,_)=>
 Option.bind (du.F (p0,())) fun y1=>
 (bif y1.1 then
 Option.bind (cz.F (p0,())) fun y2=>
 some ((!y2.1),())
 else
 some (false,()))
noncomputable def dF.F:=stk dF.B
theorem dF.eq:dF.F=dF.B:=aN _
theorem dF.ev (x:TS dF.si):evI sc Tryz.f93 dF.h dF.si dF.so x=dF.B x:=by kernel_rfl
theorem dF.fn:FnO 93 Tryz.f93:=fnO (by kernel_rfl) (by kernel_rfl)
theorem dF.ok:aB PP 93 ⟨1,dF.si,dF.so,dF.F⟩:=okI qI dF.fn dF.h (by kernel_rfl) dF.ev
noncomputable def vI:SpL:=(93,[],⟨1,dF.si,dF.so,dF.F⟩)::qH
noncomputable abbrev yJ:=cq vI sq0
theorem vJ:bM PP yJ:=qI.consS [] dF.fn.enters dF.ok
def bd.si:Sh:=⟨[(0,.v false [.ptr 0 0])],[(0,true,.box 95 [.sl 111 dA,.int .i64,.bool])],[],1,[]⟩
def bd.so:Sh:=⟨[(0,.v false [.str])],[(0,true,.box 95 [.sl 111 dA,.int .i64,.bool])],[],1001,[(0,0)]⟩
def bd.h:H:=.n
noncomputable def bd.B:(List bH)×Int×Bool×Unit→Option (ByteArray×(List bH)×Int×Bool×Unit):=fun (o0_0,o0_1,o0_2,_)=>
 Option.bind (bq.F (o0_0,o0_1,o0_2,())) fun y1=>
 (bif (y1.1 !=(0:Int)) then
 some (y1.2.1,y1.2.2.2.2.2.1,y1.2.2.2.2.2.2.1,false,())
 else
 Option.bind (dF.F (y1.2.1,())) fun y2=>
 (bif (!y2.1) then
 some (y1.2.1,y1.2.2.2.2.2.1,y1.2.2.2.2.2.2.1,false,())
 else
 some (y1.2.1,y1.2.2.2.2.2.1,y1.2.2.2.2.2.2.1,y1.2.2.2.2.2.2.2.1,())))
noncomputable def bd.F:=stk bd.B
theorem bd.eq:bd.F=bd.B:=aN _
theorem bd.ev (x:TS bd.si):evI yJ Tryz.f71 bd.h bd.si bd.so x=bd.B x:=by kernel_rfl
theorem bd.fn:FnO 71 Tryz.f71:=fnO (by kernel_rfl) (by kernel_rfl)
theorem bd.ok:aB PP 71 ⟨1,bd.si,bd.so,bd.F⟩:=okI vJ bd.fn bd.h (by kernel_rfl) bd.ev
noncomputable def lG:SpL:=(71,[],⟨1,bd.si,bd.so,bd.F⟩)::vI
noncomputable abbrev mQ:=cq lG sq0
theorem lH:bM PP mQ:=vJ.consS [] bd.fn.enters bd.ok
def aX.si:Sh:=⟨[(0,.v false [.ptr 0 0]),(1,.v false [.str])],[(0,true,.box 95 [.sl 111 dA,.int .i64,.bool])],[],1,[]⟩
def aX.so:Sh:=⟨[(0,.tup [])],[(0,true,.box 95 [.sl 111 dA,.int .i64,.bool])],[],1001,[(0,0)]⟩
def aX.h:H:=.n
noncomputable def aX.B:ByteArray×(List bH)×Int×Bool×Unit→Option ((List bH)×Int×Bool×Unit):=fun (p1,o0_0,o0_1,o0_2,_)=>
 Option.bind (ax.F (p1,o0_0,o0_1,o0_2,())) fun y1=>
 (bif (!y1.1) then
 some (y1.2.1,y1.2.2.1,false,())
 else
 some (y1.2.1,y1.2.2.1,y1.2.2.2.1,()))
noncomputable def aX.F:=stk aX.B
theorem aX.eq:aX.F=aX.B:=aN _
theorem aX.ev (x:TS aX.si):evI mQ Tryz.f72 aX.h aX.si aX.so x=aX.B x:=by kernel_rfl
theorem aX.fn:FnO 72 Tryz.f72:=fnO (by kernel_rfl) (by kernel_rfl)
theorem aX.ok:aB PP 72 ⟨2,aX.si,aX.so,aX.F⟩:=okI lH aX.fn aX.h (by kernel_rfl) aX.ev
noncomputable def lI:SpL:=(72,[],⟨2,aX.si,aX.so,aX.F⟩)::lG
noncomputable abbrev mR:=cq lI sq0
theorem lJ:bM PP mR:=lH.consS [] aX.fn.enters aX.ok
def bb.si:Sh:=⟨[(0,.v false [.ptr 0 0])],[(0,true,.box 95 [.sl 111 dA,.int .i64,.bool])],[],1,[]⟩
def bb.so:Sh:=⟨[(0,.v true [.str,.int .i64,.bool,.bool,.str,.int .i64])],[(0,true,.box 95 [.sl 111 dA,.int .i64,.bool])],[],1001,[(0,0)]⟩
def bb.h:H:=.n
noncomputable def bb.B:(List bH)×Int×Bool×Unit→Option (ByteArray×Int×Bool×Bool×ByteArray×Int×(List bH)×Int×Bool×Unit):=fun (o0_0,o0_1,o0_2,_)=>
 Option.bind (bd.F (o0_0,o0_1,o0_2,())) fun y1=>
 Option.bind (bp.F ([(⟨#[98,111,111,108]⟩:ByteArray),(⟨#[105,110,116]⟩:ByteArray),(⟨#[116,101,120,116]⟩:ByteArray)],y1.2.1,y1.2.2.1,y1.2.2.2.1,())) fun y2=>
 let e3:Int:=(IntKind.i64.wrap ((1:Int)+y2.1))
 Option.bind (ax.F ((⟨#[110,117,108,108]⟩:ByteArray),y2.2.1,y2.2.2.1,y2.2.2.2.1,())) fun y4=>
 Option.bind (ax.F ((⟨#[117,110,105,113,117,101]⟩:ByteArray),y4.2.1,y4.2.2.1,y4.2.2.2.1,())) fun y5=>
 Option.bind (ax.F ((⟨#[114,101,102]⟩:ByteArray),y5.2.1,y5.2.2.1,y5.2.2.2.1,())) fun y6=>
 (bif y6.1 then
 Option.bind (bd.F (y6.2.1,y6.2.2.1,y6.2.2.2.1,())) fun y7=>
 Option.bind (bp.F ([(⟨#[114,101,115,116,114,105,99,116]⟩:ByteArray),(⟨#[99,97,115,99,97,100,101]⟩:ByteArray),(⟨#[115,101,116,110,117,108,108]⟩:ByteArray)],y7.2.1,y7.2.2.1,y7.2.2.2.1,())) fun y8=>
 some (y1.1,e3,y4.1,y5.1,y7.1,y8.1,y8.2.1,y8.2.2.1,y8.2.2.2.1,())
 else
 some (y1.1,e3,y4.1,y5.1,(⟨#[]⟩:ByteArray),(0:Int),y6.2.1,y6.2.2.1,y6.2.2.2.1,()))
noncomputable def bb.F:=stk bb.B
theorem bb.eq:bb.F=bb.B:=aN _
theorem bb.ev (x:TS bb.si):evI mR Tryz.f73 bb.h bb.si bb.so x=bb.B x:=by kernel_rfl
theorem bb.fn:FnO 73 Tryz.f73:=fnO (by kernel_rfl) (by kernel_rfl)
theorem bb.ok:aB PP 73 ⟨1,bb.si,bb.so,bb.F⟩:=okI lJ bb.fn bb.h (by kernel_rfl) bb.ev
noncomputable def kj:SpL:=(73,[],⟨1,bb.si,bb.so,bb.F⟩)::lI
noncomputable abbrev kM:=cq kj sq0
theorem kl:bM PP kM:=lJ.consS [] bb.fn.enters bb.ok
def cX.si:Sh:=⟨[(0,.v false [.bool])],[],[],0,[]⟩
def cX.so:Sh:=⟨[(0,.v true [.int .i64,.int .i64,.str])],[],[],1000,[]⟩
def cX.h:H:=.n
noncomputable def cX.B:Bool×Unit→Option (Int×Int×ByteArray×Unit):=fun (p0,_)=>
 (bif p0 then
 some ((1:Int),(1:Int),(⟨#[]⟩:ByteArray),())
 else
 some ((1:Int),(0:Int),(⟨#[]⟩:ByteArray),()))
noncomputable def cX.F:=stk cX.B
theorem cX.eq:cX.F=cX.B:=aN _
theorem cX.ev (x:TS cX.si):evI kM Tryz.f127 cX.h cX.si cX.so x=cX.B x:=by kernel_rfl
theorem cX.fn:FnO 127 Tryz.f127:=fnO (by kernel_rfl) (by kernel_rfl)
theorem cX.ok:aB PP 127 ⟨1,cX.si,cX.so,cX.F⟩:=okI kl cX.fn cX.h (by kernel_rfl) cX.ev
noncomputable def uf:SpL:=(127,[],⟨1,cX.si,cX.so,cX.F⟩)::kj
noncomputable abbrev vK:=cq uf sq0
theorem ug:bM PP vK:=kl.consS [] cX.fn.enters cX.ok
def bx.si:Sh:=⟨[(0,.v false [.ptr 0 0])],[(0,true,.box 95 [.sl 111 dA,.int .i64,.bool])],[],1,[]⟩
def bx.so:Sh:=⟨[(0,.v true [.int .i64,.int .i64,.int .i64,.int .i64,.str])],[(0,true,.box 95 [.sl 111 dA,.int .i64,.bool])],[],1001,[(0,0)]⟩
def bx.h:H:=(.s none .n (.s none .n (.s none .n (.s none .n (.s none .n (.s (some ⟨[(0,.v false [.ptr 0 0])],[(0,true,.box 95 [.sl 111 dA,.int .i64,.bool])],[2],1,[]⟩) (.s none .n (.b (.l ⟨[(0,.v false [.ptr 0 0]),(4,.v false [.int .i64])],[(0,true,.box 95 [.sl 111 dA,.int .i64,.bool])],[2,3],1,[]⟩ .n))) (.s none .n (.s none .n (.s (some ⟨[],[],[0,2],0,[]⟩) (.s none .n (.b (.l ⟨[(6,.v false [.int .i64])],[],[0,2,5],0,[]⟩ .n))) .n)))))))))
noncomputable def bx.B:(List bH)×Int×Bool×Unit→Option (Int×Int×Int×Int×ByteArray×(List bH)×Int×Bool×Unit):=fun (o0_0,o0_1,o0_2,_)=>
 Option.bind (ax.F ((⟨#[110,117,108,108]⟩:ByteArray),o0_0,o0_1,o0_2,())) fun y1=>
 (bif y1.1 then
 Option.bind (ax.F ((⟨#[63]⟩:ByteArray),y1.2.1,y1.2.2.1,y1.2.2.2.1,())) fun y2=>
 (bif y2.1 then
 some ((10:Int),(0:Int),(0:Int),(0:Int),(⟨#[]⟩:ByteArray),y2.2.1,y2.2.2.1,y2.2.2.2.1,())
 else
 some ((1:Int),(0:Int),(0:Int),(0:Int),(⟨#[]⟩:ByteArray),y2.2.1,y2.2.2.1,y2.2.2.2.1,()))
 else
 Option.bind (ax.F ((⟨#[116,114,117,101]⟩:ByteArray),y1.2.1,y1.2.2.1,y1.2.2.2.1,())) fun y3=>
 (bif y3.1 then
 Option.bind (cX.F (true,())) fun y4=>
 some ((1:Int),(0:Int),y4.1,y4.2.1,y4.2.2.1,y3.2.1,y3.2.2.1,y3.2.2.2.1,())
 else
 Option.bind (ax.F ((⟨#[102,97,108,115,101]⟩:ByteArray),y3.2.1,y3.2.2.1,y3.2.2.2.1,())) fun y5=>
 (bif y5.1 then
 Option.bind (cX.F (false,())) fun y6=>
 some ((1:Int),(0:Int),y6.1,y6.2.1,y6.2.2.1,y5.2.1,y5.2.2.1,y5.2.2.2.1,())
 else
 Option.bind (
 bE (S:=Int×(List bH)×Int×Bool×Unit) (fun (x4,o0_0_0,o0_0_1,o0_0_2,_)=>
 (bif (decide (x4<(8:Int))) then
 bif (decide (0≤x4)&&decide (x4<([(⟨#[43]⟩:ByteArray),(⟨#[45]⟩:ByteArray),(⟨#[42]⟩:ByteArray),(⟨#[61]⟩:ByteArray),(⟨#[60]⟩:ByteArray),(⟨#[97,110,100]⟩:ByteArray),(⟨#[111,114]⟩:ByteArray),(⟨#[110,111,116]⟩:ByteArray)].length:Int))) then
 let e7:ByteArray:=(List.getD [(⟨#[43]⟩:ByteArray),(⟨#[45]⟩:ByteArray),(⟨#[42]⟩:ByteArray),(⟨#[61]⟩:ByteArray),(⟨#[60]⟩:ByteArray),(⟨#[97,110,100]⟩:ByteArray),(⟨#[111,114]⟩:ByteArray),(⟨#[110,111,116]⟩:ByteArray)] (Int.toNat x4) (⟨#[]⟩:ByteArray))
 Option.bind (ax.F (e7,o0_0_0,o0_0_1,o0_0_2,())) fun y8=>
 (bif y8.1 then
 let e9:Int:=(IntKind.i64.wrap ((2:Int)+x4))
 some (.inr (.inr (e9,(0:Int),(0:Int),(0:Int),(⟨#[]⟩:ByteArray),y8.2.1,y8.2.2.1,y8.2.2.2.1,())))
 else
 let e10:Int:=(IntKind.i64.wrap (x4+(1:Int)))
 some (.inl (e10,y8.2.1,y8.2.2.1,y8.2.2.2.1,())))
 else none
 else
 some (.inr (.inl (o0_0_0,o0_0_1,o0_0_2,()))))) ((0:Int),y5.2.1,y5.2.2.1,y5.2.2.2.1,()):Option (((List bH)×Int×Bool×Unit)⊕_)) fun r11=>match r11 with
 | .inl (o0_0_0_11,o0_0_1_11,o0_0_2_11,_)=>
 (Option.bind (bq.F (o0_0_0_11,o0_0_1_11,o0_0_2_11,())) fun y12=>
 (bif (y12.1==(1:Int)) then
 some ((1:Int),(0:Int),y12.2.2.1,y12.2.2.2.1,y12.2.2.2.2.1,y12.2.2.2.2.2.1,y12.2.2.2.2.2.2.1,y12.2.2.2.2.2.2.2.1,())
 else
 Option.bind (
 bE (S:=Int×Unit) (fun (x6,_)=>
 (bif (decide (x6<(100:Int))) then
 (bif (y12.1==(0:Int)) then
 Option.bind (bC.F (x6,())) fun y13=>
 bif (!decide ((((⟨#[99]⟩:ByteArray).size+y13.1.size:Nat):Int)>IntKind.i64.max)) then
 let e14:ByteArray:=((⟨#[99]⟩:ByteArray)++y13.1)
 (bif (y12.2.1.toList==e14.toList) then
 some (.inr (.inr ((0:Int),x6,(0:Int),(0:Int),(⟨#[]⟩:ByteArray),y12.2.2.2.2.2.1,y12.2.2.2.2.2.2.1,y12.2.2.2.2.2.2.2.1,())))
 else
 let e15:Int:=(IntKind.i64.wrap (x6+(1:Int)))
 some (.inl (e15,())))
 else none
 else
 let e16:Int:=(IntKind.i64.wrap (x6+(1:Int)))
 some (.inl (e16,())))
 else
 some (.inr (.inl (()))))) ((0:Int),()):Option ((Unit)⊕_)) fun r17=>match r17 with
 | .inl (_)=>
 (some ((0:Int),(0:Int),(0:Int),(0:Int),(⟨#[]⟩:ByteArray),y12.2.2.2.2.2.1,y12.2.2.2.2.2.2.1,false,()))
 | .inr r=>some r))
 | .inr r=>some r)))
noncomputable def bx.F:=stk bx.B
theorem bx.eq:bx.F=bx.B:=aN _
theorem bx.ev (x:TS bx.si):evI vK Tryz.f94 bx.h bx.si bx.so x=bx.B x:=by kernel_rfl
theorem bx.fn:FnO 94 Tryz.f94:=fnO (by kernel_rfl) (by kernel_rfl)
theorem bx.ok:aB PP 94 ⟨1,bx.si,bx.so,bx.F⟩:=okI ug bx.fn bx.h (by kernel_rfl) bx.ev
noncomputable def lK:SpL:=(94,[],⟨1,bx.si,bx.so,bx.F⟩)::uf
noncomputable abbrev mS:=cq lK sq0
theorem lL:bM PP mS:=ug.consS [] bx.fn.enters bx.ok
def br.si:Sh:=⟨[(0,.v false [.ptr 0 0])],[(0,true,.box 95 [.sl 111 dA,.int .i64,.bool])],[],1,[]⟩
def br.so:Sh:=⟨[(0,.v false [.ref 1001])],[(0,true,.box 95 [.sl 111 dA,.int .i64,.bool]),(1001,false,.arr 78 bD)],[],1002,[(0,0)]⟩
def br.h:H:=(.s none .n (.s none .n (.s none .n (.s none (.b (.l ⟨[(0,.v false [.ptr 1 0]),(3,.v false [.ref 0])],[(0,false,.arr 78 bD),(1,true,.box 95 [.sl 111 dA,.int .i64,.bool])],[],2,[]⟩ .n)) .n))))
noncomputable def br.B:(List bH)×Int×Bool×Unit→Option ((List bH)×Int×Bool×(List ae)×Unit):=fun (o0_0,o0_1,o0_2,_)=>
 Option.bind (aX.F ((⟨#[91]⟩:ByteArray),o0_0,o0_1,o0_2,())) fun y1=>
 bE (S:=(List ae)×(List bH)×Int×Bool×Unit) (fun (o3_0,o0_0_0,o0_0_1,o0_0_2,_)=>
 (bif o0_0_2 then
 Option.bind (ax.F ((⟨#[93]⟩:ByteArray),o0_0_0,o0_0_1,o0_0_2,())) fun y2=>
 (bif (!y2.1) then
 Option.bind (bx.F (y2.2.1,y2.2.2.1,y2.2.2.2.1,())) fun y3=>
 bif (Nat.ble (o3_0.length+ [(y3.1,(y3.2.1,(y3.2.2.1,(y3.2.2.2.1,y3.2.2.2.2.1))))].length) 2932031007402) then
 (bif (decide (((o3_0++ [(y3.1,(y3.2.1,(y3.2.2.1,(y3.2.2.2.1,y3.2.2.2.2.1))))]).length:Int)>(100:Int))) then
 some (.inl ((o3_0++ [(y3.1,(y3.2.1,(y3.2.2.1,(y3.2.2.2.1,y3.2.2.2.2.1))))]),y3.2.2.2.2.2.1,y3.2.2.2.2.2.2.1,false,()))
 else
 some (.inl ((o3_0++ [(y3.1,(y3.2.1,(y3.2.2.1,(y3.2.2.2.1,y3.2.2.2.2.1))))]),y3.2.2.2.2.2.1,y3.2.2.2.2.2.2.1,y3.2.2.2.2.2.2.2.1,())))
 else none
 else
 some (.inr (y2.2.1,y2.2.2.1,y2.2.2.2.1,o3_0,())))
 else
 some (.inr (o0_0_0,o0_0_1,o0_0_2,o3_0,())))) (([]:List ae),y1.1,y1.2.1,y1.2.2.1,())
noncomputable def br.F:=stk br.B
theorem br.eq:br.F=br.B:=aN _
theorem br.ev (x:TS br.si):evI mS Tryz.f74 br.h br.si br.so x=br.B x:=by kernel_rfl
theorem br.fn:FnO 74 Tryz.f74:=fnO (by kernel_rfl) (by kernel_rfl)
theorem br.ok:aB PP 74 ⟨1,br.si,br.so,br.F⟩:=okI lL br.fn br.h (by kernel_rfl) br.ev
noncomputable def lM:SpL:=(74,[],⟨1,br.si,br.so,br.F⟩)::lK
noncomputable abbrev mT:=cq lM sq0
theorem lN:bM PP mT:=lL.consS [] br.fn.enters br.ok
def bn.si:Sh:=⟨[(0,.v false [.ptr 0 0])],[(0,true,.box 95 [.sl 111 dA,.int .i64,.bool])],[],1,[]⟩
def bn.so:Sh:=⟨[(0,.v true [.str,.ref 1001,.ref 1002])],[(0,true,.box 95 [.sl 111 dA,.int .i64,.bool]),(1001,false,.arr 41 bR),(1002,false,.arr 32 (.sl 78 bD))],[],1003,[(0,0)]⟩
def bn.h:H:=(.s none .n (.s none .n (.s none .n (.s none .n (.s (some ⟨[(0,.v false [.ptr 0 0]),(3,.v false [.ptr 1 0])],[(0,true,.box 95 [.sl 111 dA,.int .i64,.bool]),(1,true,.box 29 [.str,.ref 2,.ref 3]),(2,false,.arr 41 bR),(3,false,.arr 32 (.sl 78 bD))],[2],4,[]⟩) (.b (.l ⟨[(0,.v false [.ptr 0 0]),(3,.v false [.ptr 1 0])],[(0,true,.box 95 [.sl 111 dA,.int .i64,.bool]),(1,true,.box 29 [.str,.ref 2,.ref 3]),(2,false,.arr 41 bR),(3,false,.arr 32 (.sl 78 bD))],[2],4,[]⟩ .n)) (.s none .n (.s (some ⟨[(0,.v false [.ptr 0 0]),(3,.v false [.ptr 1 0])],[(0,true,.box 95 [.sl 111 dA,.int .i64,.bool]),(1,true,.box 29 [.str,.ref 2,.ref 3]),(2,false,.arr 41 bR),(3,false,.arr 32 (.sl 78 bD))],[2],4,[]⟩) (.b (.l ⟨[(0,.v false [.ptr 0 0]),(3,.v false [.ptr 1 0])],[(0,true,.box 95 [.sl 111 dA,.int .i64,.bool]),(1,true,.box 29 [.str,.ref 2,.ref 3]),(2,false,.arr 41 bR),(3,false,.arr 32 (.sl 78 bD))],[2],4,[]⟩ .n)) .n)))))))
noncomputable def bn.B:(List bH)×Int×Bool×Unit→Option (ByteArray×(List bH)×Int×Bool×(List ba)×(List (List ae))×Unit):=fun (o0_0,o0_1,o0_2,_)=>
 Option.bind (bd.F (o0_0,o0_1,o0_2,())) fun y1=>
 Option.bind (aX.F ((⟨#[40]⟩:ByteArray),y1.2.1,y1.2.2.1,y1.2.2.2.1,())) fun y2=>
 Option.bind (bb.F (y2.1,y2.2.1,y2.2.2.1,())) fun y3=>
 bif (Nat.ble [(y3.1,(y3.2.1,(y3.2.2.1,(y3.2.2.2.1,(y3.2.2.2.2.1,y3.2.2.2.2.2.1)))))].length 2513169434916) then
 Option.bind (
 bE (S:=(List bH)×Int×Bool×ByteArray×(List ba)×(List (List ae))×Unit) (fun (o0_0_0,o0_0_1,o0_0_2,o3_0_0,o3_0_1,o3_0_2,_)=>
 (bif o0_0_2 then
 Option.bind (ax.F ((⟨#[44]⟩:ByteArray),o0_0_0,o0_0_1,o0_0_2,())) fun y4=>
 (bif y4.1 then
 Option.bind (bb.F (y4.2.1,y4.2.2.1,y4.2.2.2.1,())) fun y5=>
 bif (Nat.ble (o3_0_1.length+ [(y5.1,(y5.2.1,(y5.2.2.1,(y5.2.2.2.1,(y5.2.2.2.2.1,y5.2.2.2.2.2.1)))))].length) 2513169434916) then
 some (.inl (y5.2.2.2.2.2.2.1,y5.2.2.2.2.2.2.2.1,y5.2.2.2.2.2.2.2.2.1,o3_0_0,(o3_0_1++ [(y5.1,(y5.2.1,(y5.2.2.1,(y5.2.2.2.1,(y5.2.2.2.2.1,y5.2.2.2.2.2.1)))))]),o3_0_2,()))
 else none
 else
 some (.inr (.inl (y4.2.1,y4.2.2.1,y4.2.2.2.1,o3_0_0,o3_0_1,o3_0_2,()))))
 else
 some (.inr (.inl (o0_0_0,o0_0_1,o0_0_2,o3_0_0,o3_0_1,o3_0_2,()))))) (y3.2.2.2.2.2.2.1,y3.2.2.2.2.2.2.2.1,y3.2.2.2.2.2.2.2.2.1,y1.1,[(y3.1,(y3.2.1,(y3.2.2.1,(y3.2.2.2.1,(y3.2.2.2.2.1,y3.2.2.2.2.2.1)))))],[],()):Option (((List bH)×Int×Bool×ByteArray×(List ba)×(List (List ae))×Unit)⊕_)) fun r6=>match r6 with
 | .inl (o0_0_0_6,o0_0_1_6,o0_0_2_6,o3_0_0_6,o3_0_1_6,o3_0_2_6,_)=>
 (Option.bind (aX.F ((⟨#[41]⟩:ByteArray),o0_0_0_6,o0_0_1_6,o0_0_2_6,())) fun y7=>
 Option.bind (
 bE (S:=(List bH)×Int×Bool×ByteArray×(List ba)×(List (List ae))×Unit) (fun (o0_0_0,o0_0_1,o0_0_2,o3_0_0,o3_0_1,o3_0_2,_)=>
 (bif o0_0_2 then
 Option.bind (ax.F ((⟨#[99,104,101,99,107]⟩:ByteArray),o0_0_0,o0_0_1,o0_0_2,())) fun y8=>
 (bif y8.1 then
 Option.bind (br.F (y8.2.1,y8.2.2.1,y8.2.2.2.1,())) fun y9=>
 bif (Nat.ble (o3_0_2.length+ [y9.2.2.2.1].length) 5864062014805) then
 some (.inl (y9.1,y9.2.1,y9.2.2.1,o3_0_0,o3_0_1,(o3_0_2++ [y9.2.2.2.1]),()))
 else none
 else
 some (.inr (.inl (y8.2.1,y8.2.2.1,y8.2.2.2.1,o3_0_0,o3_0_1,o3_0_2,()))))
 else
 some (.inr (.inl (o0_0_0,o0_0_1,o0_0_2,o3_0_0,o3_0_1,o3_0_2,()))))) (y7.1,y7.2.1,y7.2.2.1,o3_0_0_6,o3_0_1_6,o3_0_2_6,()):Option (((List bH)×Int×Bool×ByteArray×(List ba)×(List (List ae))×Unit)⊕_)) fun r10=>match r10 with
 | .inl (o0_0_0_10,o0_0_1_10,o0_0_2_10,o3_0_0_10,o3_0_1_10,o3_0_2_10,_)=>
 ((bif (decide ((o3_0_1_10.length:Int)>(40:Int))) then
 some (o3_0_0_10,o0_0_0_10,o0_0_1_10,false,o3_0_1_10,o3_0_2_10,())
 else
 (bif (decide ((o3_0_2_10.length:Int)>(40:Int))) then
 some (o3_0_0_10,o0_0_0_10,o0_0_1_10,false,o3_0_1_10,o3_0_2_10,())
 else
 some (o3_0_0_10,o0_0_0_10,o0_0_1_10,o0_0_2_10,o3_0_1_10,o3_0_2_10,()))))
 | .inr r=>some r)
 | .inr r=>some r
 else none
noncomputable def bn.F:=stk bn.B
theorem bn.eq:bn.F=bn.B:=aN _
theorem bn.ev (x:TS bn.si):evI mT Tryz.f50 bn.h bn.si bn.so x=bn.B x:=by kernel_rfl
theorem bn.fn:FnO 50 Tryz.f50:=fnO (by kernel_rfl) (by kernel_rfl)
theorem bn.ok:aB PP 50 ⟨1,bn.si,bn.so,bn.F⟩:=okI lN bn.fn bn.h (by kernel_rfl) bn.ev
noncomputable def kN:SpL:=(50,[],⟨1,bn.si,bn.so,bn.F⟩)::lM
noncomputable abbrev lO:=cq kN sq0
theorem kO:bM PP lO:=lN.consS [] bn.fn.enters bn.ok
def bg.si:Sh:=⟨[(0,.v false [.ptr 0 0])],[(0,true,.box 95 [.sl 111 dA,.int .i64,.bool])],[],1,[]⟩
def bg.so:Sh:=⟨[(0,.v false [.int .i64])],[(0,true,.box 95 [.sl 111 dA,.int .i64,.bool])],[],1001,[(0,0)]⟩
def bg.h:H:=(.s none .n (.s none .n (.s none (.s (some ⟨[(26,.v false [.bool])],[],[0,3],0,[]⟩) .n .n) .n)))
noncomputable def bg.B:(List bH)×Int×Bool×Unit→Option (Int×(List bH)×Int×Bool×Unit):=fun (o0_0,o0_1,o0_2,_)=>
 Option.bind (bq.F (o0_0,o0_1,o0_2,())) fun y1=>
 Option.bind (
 (bif (y1.1 !=(1:Int)) then
 some (.inl (true,()))
 else
 (bif (y1.2.2.1 !=(2:Int)) then
 some (.inl (true,()))
 else
 (bif (decide (y1.2.2.2.1<(0:Int))) then
 some (.inl (true,()))
 else
 some (.inl ((decide (y1.2.2.2.1>(99:Int))),()))))):Option ((Bool×Unit)⊕_)) fun r2=>match r2 with
 | .inl (x26_2,_)=>
 ((bif x26_2 then
 some (y1.2.2.2.1,y1.2.2.2.2.2.1,y1.2.2.2.2.2.2.1,false,())
 else
 some (y1.2.2.2.1,y1.2.2.2.2.2.1,y1.2.2.2.2.2.2.1,y1.2.2.2.2.2.2.2.1,())))
 | .inr r=>some r
noncomputable def bg.F:=stk bg.B
theorem bg.eq:bg.F=bg.B:=aN _
theorem bg.ev (x:TS bg.si):evI lO Tryz.f75 bg.h bg.si bg.so x=bg.B x:=by kernel_rfl
theorem bg.fn:FnO 75 Tryz.f75:=fnO (by kernel_rfl) (by kernel_rfl)
theorem bg.ok:aB PP 75 ⟨1,bg.si,bg.so,bg.F⟩:=okI kO bg.fn bg.h (by kernel_rfl) bg.ev
noncomputable def mU:SpL:=(75,[],⟨1,bg.si,bg.so,bg.F⟩)::kN
noncomputable abbrev oA:=cq mU sq0
theorem mV:bM PP oA:=kO.consS [] bg.fn.enters bg.ok
def bt.si:Sh:=⟨[(0,.v false [.ptr 0 0])],[(0,true,.box 95 [.sl 111 dA,.int .i64,.bool])],[],1,[]⟩
def bt.so:Sh:=⟨[(0,.v true [.int .i64,.int .i64])],[(0,true,.box 95 [.sl 111 dA,.int .i64,.bool])],[],1001,[(0,0)]⟩
def bt.h:H:=.n
noncomputable def bt.B:(List bH)×Int×Bool×Unit→Option (Int×Int×(List bH)×Int×Bool×Unit):=fun (o0_0,o0_1,o0_2,_)=>
 Option.bind (bp.F ([(⟨#[99,111,117,110,116]⟩:ByteArray),(⟨#[115,117,109]⟩:ByteArray),(⟨#[109,105,110]⟩:ByteArray),(⟨#[109,97,120]⟩:ByteArray)],o0_0,o0_1,o0_2,())) fun y1=>
 (bif (y1.1 !=(0:Int)) then
 Option.bind (bg.F (y1.2.1,y1.2.2.1,y1.2.2.2.1,())) fun y2=>
 some (y1.1,y2.1,y2.2.1,y2.2.2.1,y2.2.2.2.1,())
 else
 some (y1.1,(0:Int),y1.2.1,y1.2.2.1,y1.2.2.2.1,()))
noncomputable def bt.F:=stk bt.B
theorem bt.eq:bt.F=bt.B:=aN _
theorem bt.ev (x:TS bt.si):evI oA Tryz.f77 bt.h bt.si bt.so x=bt.B x:=by kernel_rfl
theorem bt.fn:FnO 77 Tryz.f77:=fnO (by kernel_rfl) (by kernel_rfl)
theorem bt.ok:aB PP 77 ⟨1,bt.si,bt.so,bt.F⟩:=okI mV bt.fn bt.h (by kernel_rfl) bt.ev
noncomputable def mW:SpL:=(77,[],⟨1,bt.si,bt.so,bt.F⟩)::mU
noncomputable abbrev oB:=cq mW sq0
theorem mX:bM PP oB:=mV.consS [] bt.fn.enters bt.ok
def bz.si:Sh:=⟨[(0,.v false [.ptr 0 0])],[(0,true,.box 95 [.sl 111 dA,.int .i64,.bool])],[],1,[]⟩
def bz.so:Sh:=⟨[(0,.v true [.str,.str,.str,.int .i64,.int .i64,.ref 1001,.ref 1002,.bool,.ref 1003])],[(0,true,.box 95 [.sl 111 dA,.int .i64,.bool]),(1001,false,.arr 78 bD),(1002,false,.arr 3 (.int .i64)),(1003,false,.arr 66 ei)],[],1004,[(0,0)]⟩
def bz.h:H:=(.s none .n (.s none .n (.s none .n (.s none .n (.s (some ⟨[(0,.v false [.ptr 0 0]),(3,.v false [.ptr 1 0])],[(0,true,.box 95 [.sl 111 dA,.int .i64,.bool]),(1,true,.box 36 [.str,.str,.str,.int .i64,.int .i64,.ref 2,.ref 3,.bool,.ref 4]),(2,false,.arr 78 bD),(3,false,.arr 3 (.int .i64)),(4,false,.arr 66 ei)],[2],5,[]⟩) .n (.s (some ⟨[(0,.v false [.ptr 0 0]),(3,.v false [.ptr 1 0])],[(0,true,.box 95 [.sl 111 dA,.int .i64,.bool]),(1,true,.box 36 [.str,.str,.str,.int .i64,.int .i64,.ref 2,.ref 3,.bool,.ref 4]),(2,false,.arr 78 bD),(3,false,.arr 3 (.int .i64)),(4,false,.arr 66 ei)],[2],5,[]⟩) .n (.s none .n (.s (some ⟨[(0,.v false [.ptr 0 0]),(3,.v false [.ptr 1 0])],[(0,true,.box 95 [.sl 111 dA,.int .i64,.bool]),(1,true,.box 36 [.str,.str,.str,.int .i64,.int .i64,.ref 2,.ref 3,.bool,.ref 4]),(2,false,.arr 78 bD),(3,false,.arr 3 (.int .i64)),(4,false,.arr 66 ei)],[2],5,[]⟩) (.s (some ⟨[(0,.v false [.ptr 0 0]),(52,.v false [.bool])],[(0,true,.box 95 [.sl 111 dA,.int .i64,.bool])],[2,3],1,[]⟩) .n (.c (.s none .n (.b (.l ⟨[(0,.v false [.ptr 0 0]),(3,.v false [.ptr 1 0])],[(0,true,.box 95 [.sl 111 dA,.int .i64,.bool]),(1,true,.box 36 [.str,.str,.str,.int .i64,.int .i64,.ref 2,.ref 3,.bool,.ref 4]),(2,false,.arr 78 bD),(3,false,.arr 3 (.int .i64)),(4,false,.arr 66 ei)],[2],5,[]⟩ .n))) .n)) (.s none .n (.s (some ⟨[(0,.v false [.ptr 0 0]),(3,.v false [.ptr 1 0])],[(0,true,.box 95 [.sl 111 dA,.int .i64,.bool]),(1,true,.box 36 [.str,.str,.str,.int .i64,.int .i64,.ref 2,.ref 3,.bool,.ref 4]),(2,false,.arr 78 bD),(3,false,.arr 3 (.int .i64)),(4,false,.arr 66 ei)],[2],5,[]⟩) (.s (some ⟨[(91,.v false [.bool])],[],[0,2,3],0,[]⟩) .n (.c (.s none .n (.b (.l ⟨[(0,.v false [.ptr 0 0]),(3,.v false [.ptr 1 0])],[(0,true,.box 95 [.sl 111 dA,.int .i64,.bool]),(1,true,.box 36 [.str,.str,.str,.int .i64,.int .i64,.ref 2,.ref 3,.bool,.ref 4]),(2,false,.arr 78 bD),(3,false,.arr 3 (.int .i64)),(4,false,.arr 66 ei)],[2],5,[]⟩ .n))) .n)) .n))))))))))
noncomputable def bz.B:(List bH)×Int×Bool×Unit→Option (ByteArray×ByteArray×ByteArray×Int×Int×Bool×(List bH)×Int×Bool×(List ae)×(List Int)×(List ct)×Unit):=fun (o0_0,o0_1,o0_2,_)=>
 Option.bind (bd.F (o0_0,o0_1,o0_2,())) fun y1=>
 Option.bind (aX.F ((⟨#[102,114,111,109]⟩:ByteArray),y1.2.1,y1.2.2.1,y1.2.2.2.1,())) fun y2=>
 Option.bind (bd.F (y2.1,y2.2.1,y2.2.2.1,())) fun y3=>
 Option.bind (
 Option.bind (ax.F ((⟨#[106,111,105,110]⟩:ByteArray),y3.2.1,y3.2.2.1,y3.2.2.2.1,())) fun y4=>
 (bif y4.1 then
 Option.bind (bd.F (y4.2.1,y4.2.2.1,y4.2.2.2.1,())) fun y5=>
 Option.bind (aX.F ((⟨#[111,110]⟩:ByteArray),y5.2.1,y5.2.2.1,y5.2.2.2.1,())) fun y6=>
 Option.bind (bg.F (y6.1,y6.2.1,y6.2.2.1,())) fun y7=>
 Option.bind (aX.F ((⟨#[61]⟩:ByteArray),y7.2.1,y7.2.2.1,y7.2.2.2.1,())) fun y8=>
 Option.bind (bg.F (y8.1,y8.2.1,y8.2.2.1,())) fun y9=>
 some (.inl (y9.2.1,y9.2.2.1,y9.2.2.2.1,y1.1,y3.1,y5.1,y7.1,y9.1,false,[],[],[],()))
 else
 some (.inl (y4.2.1,y4.2.2.1,y4.2.2.2.1,y1.1,y3.1,(⟨#[]⟩:ByteArray),(0:Int),(0:Int),false,[],[],[],()))):Option (((List bH)×Int×Bool×ByteArray×ByteArray×ByteArray×Int×Int×Bool×(List ae)×(List Int)×(List ct)×Unit)⊕_)) fun r10=>match r10 with
 | .inl (o0_0_0_10,o0_0_1_10,o0_0_2_10,o3_0_0_10,o3_0_1_10,o3_0_2_10,o3_0_3_10,o3_0_4_10,o3_0_7_10,o3_0_5_10,o3_0_6_10,o3_0_8_10,_)=>
 (Option.bind (
 Option.bind (ax.F ((⟨#[119,104,101,114,101]⟩:ByteArray),o0_0_0_10,o0_0_1_10,o0_0_2_10,())) fun y11=>
 (bif y11.1 then
 Option.bind (br.F (y11.2.1,y11.2.2.1,y11.2.2.2.1,())) fun y12=>
 some (.inl (y12.1,y12.2.1,y12.2.2.1,o3_0_0_10,o3_0_1_10,o3_0_2_10,o3_0_3_10,o3_0_4_10,o3_0_7_10,y12.2.2.2.1,o3_0_6_10,o3_0_8_10,()))
 else
 some (.inl (y11.2.1,y11.2.2.1,y11.2.2.2.1,o3_0_0_10,o3_0_1_10,o3_0_2_10,o3_0_3_10,o3_0_4_10,o3_0_7_10,o3_0_5_10,o3_0_6_10,o3_0_8_10,()))):Option (((List bH)×Int×Bool×ByteArray×ByteArray×ByteArray×Int×Int×Bool×(List ae)×(List Int)×(List ct)×Unit)⊕_)) fun r13=>match r13 with
 | .inl (o0_0_0_13,o0_0_1_13,o0_0_2_13,o3_0_0_13,o3_0_1_13,o3_0_2_13,o3_0_3_13,o3_0_4_13,o3_0_7_13,o3_0_5_13,o3_0_6_13,o3_0_8_13,_)=>
 (Option.bind (aX.F ((⟨#[112,105,99,107]⟩:ByteArray),o0_0_0_13,o0_0_1_13,o0_0_2_13,())) fun y14=>
 Option.bind (
 Option.bind (
 (bif (decide (y14.2.1<(y14.1.length:Int))) then
 Option.bind (bF.F ((⟨#[103,114,111,117,112]⟩:ByteArray),y14.1,y14.2.1,y14.2.2.1,())) fun y15=>
 some (.inl ((!y15.1),y15.2.1,y15.2.2.1,y15.2.2.2.1,()))
 else
 some (.inl (false,y14.1,y14.2.1,y14.2.2.1,()))):Option ((Bool×(List bH)×Int×Bool×Unit)⊕_)) fun r16=>match r16 with
 | .inl (x52_16,o0_0_0_16,o0_0_1_16,o0_0_2_16,_)=>
 ((bif x52_16 then
 Option.bind (bg.F (o0_0_0_16,o0_0_1_16,o0_0_2_16,())) fun y17=>
 bif (Nat.ble (o3_0_6_13.length+ [y17.1].length) 17592186044416) then
 bE (S:=(List bH)×Int×Bool×ByteArray×ByteArray×ByteArray×Int×Int×Bool×(List ae)×(List Int)×(List ct)×Unit) (fun (o0_0_0,o0_0_1,o0_0_2,o3_0_0,o3_0_1,o3_0_2,o3_0_3,o3_0_4,o3_0_7,o3_0_5,o3_0_6,o3_0_8,_)=>
 (bif o0_0_2 then
 Option.bind (ax.F ((⟨#[44]⟩:ByteArray),o0_0_0,o0_0_1,o0_0_2,())) fun y18=>
 (bif y18.1 then
 Option.bind (bg.F (y18.2.1,y18.2.2.1,y18.2.2.2.1,())) fun y19=>
 bif (Nat.ble (o3_0_6.length+ [y19.1].length) 17592186044416) then
 some (.inl (y19.2.1,y19.2.2.1,y19.2.2.2.1,o3_0_0,o3_0_1,o3_0_2,o3_0_3,o3_0_4,o3_0_7,o3_0_5,(o3_0_6++ [y19.1]),o3_0_8,()))
 else none
 else
 some (.inr (.inl (y18.2.1,y18.2.2.1,y18.2.2.2.1,o3_0_0,o3_0_1,o3_0_2,o3_0_3,o3_0_4,o3_0_7,o3_0_5,o3_0_6,o3_0_8,()))))
 else
 some (.inr (.inl (o0_0_0,o0_0_1,o0_0_2,o3_0_0,o3_0_1,o3_0_2,o3_0_3,o3_0_4,o3_0_7,o3_0_5,o3_0_6,o3_0_8,()))))) (y17.2.1,y17.2.2.1,y17.2.2.2.1,o3_0_0_13,o3_0_1_13,o3_0_2_13,o3_0_3_13,o3_0_4_13,o3_0_7_13,o3_0_5_13,(o3_0_6_13++ [y17.1]),o3_0_8_13,())
 else none
 else
 some (.inl (o0_0_0_16,o0_0_1_16,o0_0_2_16,o3_0_0_13,o3_0_1_13,o3_0_2_13,o3_0_3_13,o3_0_4_13,o3_0_7_13,o3_0_5_13,o3_0_6_13,o3_0_8_13,()))))
 | .inr r=>some r:Option (((List bH)×Int×Bool×ByteArray×ByteArray×ByteArray×Int×Int×Bool×(List ae)×(List Int)×(List ct)×Unit)⊕_)) fun r20=>match r20 with
 | .inl (o0_0_0_20,o0_0_1_20,o0_0_2_20,o3_0_0_20,o3_0_1_20,o3_0_2_20,o3_0_3_20,o3_0_4_20,o3_0_7_20,o3_0_5_20,o3_0_6_20,o3_0_8_20,_)=>
 (Option.bind (ax.F ((⟨#[103,114,111,117,112]⟩:ByteArray),o0_0_0_20,o0_0_1_20,o0_0_2_20,())) fun y21=>
 Option.bind (
 Option.bind (
 (bif y21.1 then
 some (.inl ((decide (y21.2.2.1<(y21.2.1.length:Int))),()))
 else
 some (.inl (false,()))):Option ((Bool×Unit)⊕_)) fun r22=>match r22 with
 | .inl (x91_22,_)=>
 ((bif x91_22 then
 Option.bind (bt.F (y21.2.1,y21.2.2.1,y21.2.2.2.1,())) fun y23=>
 bif (Nat.ble (o3_0_8_20.length+ [(y23.1,y23.2.1)].length) 8796093022208) then
 bE (S:=(List bH)×Int×Bool×ByteArray×ByteArray×ByteArray×Int×Int×Bool×(List ae)×(List Int)×(List ct)×Unit) (fun (o0_0_0,o0_0_1,o0_0_2,o3_0_0,o3_0_1,o3_0_2,o3_0_3,o3_0_4,o3_0_7,o3_0_5,o3_0_6,o3_0_8,_)=>
 (bif o0_0_2 then
 Option.bind (ax.F ((⟨#[44]⟩:ByteArray),o0_0_0,o0_0_1,o0_0_2,())) fun y24=>
 (bif y24.1 then
 Option.bind (bt.F (y24.2.1,y24.2.2.1,y24.2.2.2.1,())) fun y25=>
 bif (Nat.ble (o3_0_8.length+ [(y25.1,y25.2.1)].length) 8796093022208) then
 some (.inl (y25.2.2.1,y25.2.2.2.1,y25.2.2.2.2.1,o3_0_0,o3_0_1,o3_0_2,o3_0_3,o3_0_4,o3_0_7,o3_0_5,o3_0_6,(o3_0_8++ [(y25.1,y25.2.1)]),()))
 else none
 else
 some (.inr (.inl (y24.2.1,y24.2.2.1,y24.2.2.2.1,o3_0_0,o3_0_1,o3_0_2,o3_0_3,o3_0_4,o3_0_7,o3_0_5,o3_0_6,o3_0_8,()))))
 else
 some (.inr (.inl (o0_0_0,o0_0_1,o0_0_2,o3_0_0,o3_0_1,o3_0_2,o3_0_3,o3_0_4,o3_0_7,o3_0_5,o3_0_6,o3_0_8,()))))) (y23.2.2.1,y23.2.2.2.1,y23.2.2.2.2.1,o3_0_0_20,o3_0_1_20,o3_0_2_20,o3_0_3_20,o3_0_4_20,y21.1,o3_0_5_20,o3_0_6_20,(o3_0_8_20++ [(y23.1,y23.2.1)]),())
 else none
 else
 some (.inl (y21.2.1,y21.2.2.1,y21.2.2.2.1,o3_0_0_20,o3_0_1_20,o3_0_2_20,o3_0_3_20,o3_0_4_20,y21.1,o3_0_5_20,o3_0_6_20,o3_0_8_20,()))))
 | .inr r=>some r:Option (((List bH)×Int×Bool×ByteArray×ByteArray×ByteArray×Int×Int×Bool×(List ae)×(List Int)×(List ct)×Unit)⊕_)) fun r26=>match r26 with
 | .inl (o0_0_0_26,o0_0_1_26,o0_0_2_26,o3_0_0_26,o3_0_1_26,o3_0_2_26,o3_0_3_26,o3_0_4_26,o3_0_7_26,o3_0_5_26,o3_0_6_26,o3_0_8_26,_)=>
 ((bif (decide ((o3_0_6_26.length:Int)>(40:Int))) then
 some (o3_0_0_26,o3_0_1_26,o3_0_2_26,o3_0_3_26,o3_0_4_26,o3_0_7_26,o0_0_0_26,o0_0_1_26,false,o3_0_5_26,o3_0_6_26,o3_0_8_26,())
 else
 (bif (decide ((o3_0_8_26.length:Int)>(40:Int))) then
 some (o3_0_0_26,o3_0_1_26,o3_0_2_26,o3_0_3_26,o3_0_4_26,o3_0_7_26,o0_0_0_26,o0_0_1_26,false,o3_0_5_26,o3_0_6_26,o3_0_8_26,())
 else
 some (o3_0_0_26,o3_0_1_26,o3_0_2_26,o3_0_3_26,o3_0_4_26,o3_0_7_26,o0_0_0_26,o0_0_1_26,o0_0_2_26,o3_0_5_26,o3_0_6_26,o3_0_8_26,()))))
 | .inr r=>some r)
 | .inr r=>some r)
 | .inr r=>some r)
 | .inr r=>some r
noncomputable def bz.F:=stk bz.B
theorem bz.eq:bz.F=bz.B:=aN _
theorem bz.ev (x:TS bz.si):evI oB Tryz.f51 bz.h bz.si bz.so x=bz.B x:=by kernel_rfl
theorem bz.fn:FnO 51 Tryz.f51:=fnO (by kernel_rfl) (by kernel_rfl)
theorem bz.ok:aB PP 51 ⟨1,bz.si,bz.so,bz.F⟩:=okI mX bz.fn bz.h (by kernel_rfl) bz.ev
noncomputable def lP:SpL:=(51,[],⟨1,bz.si,bz.so,bz.F⟩)::mW
noncomputable abbrev mY:=cq lP sq0
theorem lQ:bM PP mY:=mX.consS [] bz.fn.enters bz.ok
def cY.si:Sh:=⟨[(0,.v false [.str])],[],[],0,[]⟩
def cY.so:Sh:=⟨[(0,.tup [(true,[.int .i64,.str,.ref 1000,.ref 1001,.str,.str,.str,.int .i64,.int .i64,.ref 1002,.ref 1003,.bool,.ref 1004]),(false,[.int .i64])])],[(1000,false,.arr 41 bR),(1001,false,.arr 32 (.sl 78 bD)),(1002,false,.arr 78 bD),(1003,false,.arr 3 (.int .i64)),(1004,false,.arr 66 ei)],[],1005,[]⟩
def cY.h:H:=(.s none .n (.s none .n (.s none .n (.s none .n (.s none .n (.s (some ⟨[(6,.v false [.ptr 0 0]),(7,.v false [.ptr 1 0])],[(0,true,.box 95 [.sl 111 dA,.int .i64,.bool]),(1,true,.box 38 [.int .i64,.str,.ref 2,.ref 3,.str,.str,.str,.int .i64,.int .i64,.ref 4,.ref 5,.bool,.ref 6]),(2,false,.arr 41 bR),(3,false,.arr 32 (.sl 78 bD)),(4,false,.arr 78 bD),(5,false,.arr 3 (.int .i64)),(6,false,.arr 66 ei)],[2,4],7,[]⟩) (.s (some ⟨[(32,.v false [.bool])],[],[2,4,6,7],0,[]⟩) .n .n) .n))))))
noncomputable def cY.B:ByteArray×Unit→Option (Int×ByteArray×ByteArray×ByteArray×ByteArray×Int×Int×Bool×Int×(List ba)×(List (List ae))×(List ae)×(List Int)×(List ct)×Unit):=fun (p0,_)=>
 Option.bind (d8.F (p0,())) fun y1=>
 (bif (y1.1 !=(0:Int)) then
 some ((0:Int),(⟨#[]⟩:ByteArray),(⟨#[]⟩:ByteArray),(⟨#[]⟩:ByteArray),(⟨#[]⟩:ByteArray),(0:Int),(0:Int),false,y1.1,[],[],[],[],[],())
 else
 Option.bind (bp.F ([(⟨#[116,97,98,108,101]⟩:ByteArray),(⟨#[118,105,101,119]⟩:ByteArray)],y1.2.1,(0:Int),true,())) fun y2=>
 Option.bind (
 Option.bind (
 (bif y2.2.2.2.1 then
 some (.inl ((y2.1==(0:Int)),()))
 else
 some (.inl (false,()))):Option ((Bool×Unit)⊕_)) fun r3=>match r3 with
 | .inl (x32_3,_)=>
 ((bif x32_3 then
 Option.bind (bn.F (y2.2.1,y2.2.2.1,y2.2.2.2.1,())) fun y4=>
 some (.inl (y4.2.1,y4.2.2.1,y4.2.2.2.1,y2.1,y4.1,(⟨#[]⟩:ByteArray),(⟨#[]⟩:ByteArray),(⟨#[]⟩:ByteArray),(0:Int),(0:Int),false,y4.2.2.2.2.1,y4.2.2.2.2.2.1,[],[],[],()))
 else
 (bif y2.2.2.2.1 then
 Option.bind (bz.F (y2.2.1,y2.2.2.1,y2.2.2.2.1,())) fun y5=>
 some (.inl (y5.2.2.2.2.2.2.1,y5.2.2.2.2.2.2.2.1,y5.2.2.2.2.2.2.2.2.1,y2.1,(⟨#[]⟩:ByteArray),y5.1,y5.2.1,y5.2.2.1,y5.2.2.2.1,y5.2.2.2.2.1,y5.2.2.2.2.2.1,[],[],y5.2.2.2.2.2.2.2.2.2.1,y5.2.2.2.2.2.2.2.2.2.2.1,y5.2.2.2.2.2.2.2.2.2.2.2.1,()))
 else
 some (.inl (y2.2.1,y2.2.2.1,y2.2.2.2.1,y2.1,(⟨#[]⟩:ByteArray),(⟨#[]⟩:ByteArray),(⟨#[]⟩:ByteArray),(⟨#[]⟩:ByteArray),(0:Int),(0:Int),false,[],[],[],[],[],())))))
 | .inr r=>some r:Option (((List bH)×Int×Bool×Int×ByteArray×ByteArray×ByteArray×ByteArray×Int×Int×Bool×(List ba)×(List (List ae))×(List ae)×(List Int)×(List ct)×Unit)⊕_)) fun r6=>match r6 with
 | .inl (o6_0_0_6,o6_0_1_6,o6_0_2_6,o7_0_0_6,o7_0_1_6,o7_0_4_6,o7_0_5_6,o7_0_6_6,o7_0_7_6,o7_0_8_6,o7_0_11_6,o7_0_2_6,o7_0_3_6,o7_0_9_6,o7_0_10_6,o7_0_12_6,_)=>
 ((bif (!o6_0_2_6) then
 some ((0:Int),(⟨#[]⟩:ByteArray),(⟨#[]⟩:ByteArray),(⟨#[]⟩:ByteArray),(⟨#[]⟩:ByteArray),(0:Int),(0:Int),false,(70:Int),[],[],[],[],[],())
 else
 (bif (decide (o6_0_1_6<(y1.2.1.length:Int))) then
 some ((0:Int),(⟨#[]⟩:ByteArray),(⟨#[]⟩:ByteArray),(⟨#[]⟩:ByteArray),(⟨#[]⟩:ByteArray),(0:Int),(0:Int),false,(70:Int),[],[],[],[],[],())
 else
 some (o7_0_0_6,o7_0_1_6,o7_0_4_6,o7_0_5_6,o7_0_6_6,o7_0_7_6,o7_0_8_6,o7_0_11_6,(0:Int),o7_0_2_6,o7_0_3_6,o7_0_9_6,o7_0_10_6,o7_0_12_6,()))))
 | .inr r=>some r)
noncomputable def cY.F:=stk cY.B
theorem cY.eq:cY.F=cY.B:=aN _
theorem cY.ev (x:TS cY.si):evI mY Tryz.f32 cY.h cY.si cY.so x=cY.B x:=by kernel_rfl
theorem cY.fn:FnO 32 Tryz.f32:=fnO (by kernel_rfl) (by kernel_rfl)
theorem cY.ok:aB PP 32 ⟨1,cY.si,cY.so,cY.F⟩:=okI lQ cY.fn cY.h (by kernel_rfl) cY.ev
noncomputable def uh:SpL:=(32,[],⟨1,cY.si,cY.so,cY.F⟩)::lP
noncomputable abbrev vL:=cq uh sq0
theorem ui:bM PP vL:=lQ.consS [] cY.fn.enters cY.ok
def dv.si:Sh:=⟨[(0,.v false [.sl 78 bD]),(1,.v false [.sl 78 bD])],[],[],0,[]⟩
def dv.so:Sh:=⟨[(0,.v false [.bool])],[],[],1000,[]⟩
def dv.h:H:=(.s none .n (.s none .n (.s none (.s none .n (.b (.l ⟨[(5,.v false [.int .i64])],[],[0,1],0,[]⟩ .n))) .n)))
noncomputable def dv.B:(List ae)×(List ae)×Unit→Option (Bool×Unit):=fun (p0,p1,_)=>
 (bif ((p0.length:Int) !=(p1.length:Int)) then
 some (false,())
 else
 bE (S:=Int×Unit) (fun (x5,_)=>
 (bif (decide (x5<(p0.length:Int))) then
 bif (decide (0≤x5)&&decide (x5<(p0.length:Int))) then
 let e1:ae:=(List.getD p0 (Int.toNat x5) bD.z)
 bif (decide (0≤x5)&&decide (x5<(p1.length:Int))) then
 let e2:ae:=(List.getD p1 (Int.toNat x5) bD.z)
 (bif (!(Ty.eq bD e1 e2)) then
 some (.inr (false,()))
 else
 let e3:Int:=(IntKind.i64.wrap (x5+(1:Int)))
 some (.inl (e3,())))
 else none
 else none
 else
 some (.inr (true,())))) ((0:Int),()))
noncomputable def dv.F:=stk dv.B
theorem dv.eq:dv.F=dv.B:=aN _
theorem dv.ev (x:TS dv.si):evI vL Tryz.f59 dv.h dv.si dv.so x=dv.B x:=by kernel_rfl
theorem dv.fn:FnO 59 Tryz.f59:=fnO (by kernel_rfl) (by kernel_rfl)
theorem dv.ok:aB PP 59 ⟨2,dv.si,dv.so,dv.F⟩:=okI ui dv.fn dv.h (by kernel_rfl) dv.ev
noncomputable def vM:SpL:=(59,[],⟨2,dv.si,dv.so,dv.F⟩)::uh
noncomputable abbrev yK:=cq vM sq0
theorem vN:bM PP yK:=ui.consS [] dv.fn.enters dv.ok
def bO.si:Sh:=⟨[(0,.v true [.str,.sl 41 bR,.sl 32 (.sl 78 bD)]),(1,.v true [.str,.sl 41 bR,.sl 32 (.sl 78 bD)])],[],[],0,[]⟩
def bO.so:Sh:=⟨[(0,.v false [.bool])],[],[],1000,[]⟩
def bO.h:H:=(.s none .n (.s (some ⟨[],[],[2,3],0,[]⟩) .n (.s (some ⟨[],[],[2,3],0,[]⟩) (.s none .n (.b (.l ⟨[(5,.v false [.int .i64])],[],[2,3],0,[]⟩ .n))) (.s none (.s none .n (.b (.l ⟨[(6,.v false [.int .i64])],[],[2,3],0,[]⟩ .n))) .n))))
noncomputable def bO.B:ByteArray×(List ba)×(List (List ae))×ByteArray×(List ba)×(List (List ae))×Unit→Option (Bool×Unit):=fun (p0_0,p0_1,p0_2,p1_0,p1_1,p1_2,_)=>
 Option.bind (
 (bif (!(p0_0.toList==p1_0.toList)) then
 some (.inr (false,()))
 else
 (bif ((p0_1.length:Int) !=(p1_1.length:Int)) then
 some (.inr (false,()))
 else
 (bif ((p0_2.length:Int) !=(p1_2.length:Int)) then
 some (.inr (false,()))
 else
 some (.inl (()))))):Option ((Unit)⊕_)) fun r1=>match r1 with
 | .inl (_)=>
 (Option.bind (
 bE (S:=Int×Unit) (fun (x5,_)=>
 (bif (decide (x5<(p0_1.length:Int))) then
 bif (decide (0≤x5)&&decide (x5<(p0_1.length:Int))) then
 let e2:ba:=(List.getD p0_1 (Int.toNat x5) bR.z)
 bif (decide (0≤x5)&&decide (x5<(p1_1.length:Int))) then
 let e3:ba:=(List.getD p1_1 (Int.toNat x5) bR.z)
 (bif (!(Ty.eq bR e2 e3)) then
 some (.inr (.inr (false,())))
 else
 let e4:Int:=(IntKind.i64.wrap (x5+(1:Int)))
 some (.inl (e4,())))
 else none
 else none
 else
 some (.inr (.inl (()))))) ((0:Int),()):Option ((Unit)⊕_)) fun r5=>match r5 with
 | .inl (_)=>
 (bE (S:=Int×Unit) (fun (x6,_)=>
 (bif (decide (x6<(p0_2.length:Int))) then
 bif (decide (0≤x6)&&decide (x6<(p0_2.length:Int))) then
 let e6:(List ae):=(List.getD p0_2 (Int.toNat x6) [])
 bif (decide (0≤x6)&&decide (x6<(p1_2.length:Int))) then
 let e7:(List ae):=(List.getD p1_2 (Int.toNat x6) [])
 Option.bind (dv.F (e6,e7,())) fun y8=>
 (bif (!y8.1) then
 some (.inr (false,()))
 else
 let e9:Int:=(IntKind.i64.wrap (x6+(1:Int)))
 some (.inl (e9,())))
 else none
 else none
 else
 some (.inr (true,())))) ((0:Int),()))
 | .inr r=>some r)
 | .inr r=>some r
noncomputable def bO.F:=stk bO.B
theorem bO.eq:bO.F=bO.B:=aN _
theorem bO.ev (x:TS bO.si):evI yK Tryz.f43 bO.h bO.si bO.so x=bO.B x:=by kernel_rfl
theorem bO.fn:FnO 43 Tryz.f43:=fnO (by kernel_rfl) (by kernel_rfl)
theorem bO.ok:aB PP 43 ⟨2,bO.si,bO.so,bO.F⟩:=okI vN bO.fn bO.h (by kernel_rfl) bO.ev
noncomputable def oC:SpL:=(43,[],⟨2,bO.si,bO.so,bO.F⟩)::vM
noncomputable abbrev pe:=cq oC sq0
theorem oD:bM PP pe:=vN.consS [] bO.fn.enters bO.ok
def dx.si:Sh:=⟨[(0,.v false [.sl 3 (.int .i64)]),(1,.v false [.sl 3 (.int .i64)])],[],[],0,[]⟩
def dx.so:Sh:=⟨[(0,.v false [.bool])],[],[],1000,[]⟩
def dx.h:H:=(.s none .n (.s none .n (.s none (.s none .n (.b (.l ⟨[(5,.v false [.int .i64])],[],[0,1],0,[]⟩ .n))) .n)))
noncomputable def dx.B:(List Int)×(List Int)×Unit→Option (Bool×Unit):=fun (p0,p1,_)=>
 (bif ((p0.length:Int) !=(p1.length:Int)) then
 some (false,())
 else
 bE (S:=Int×Unit) (fun (x5,_)=>
 (bif (decide (x5<(p0.length:Int))) then
 bif (decide (0≤x5)&&decide (x5<(p0.length:Int))) then
 let e1:Int:=(List.getD p0 (Int.toNat x5) (0:Int))
 bif (decide (0≤x5)&&decide (x5<(p1.length:Int))) then
 let e2:Int:=(List.getD p1 (Int.toNat x5) (0:Int))
 (bif (e1 !=e2) then
 some (.inr (false,()))
 else
 let e3:Int:=(IntKind.i64.wrap (x5+(1:Int)))
 some (.inl (e3,())))
 else none
 else none
 else
 some (.inr (true,())))) ((0:Int),()))
noncomputable def dx.F:=stk dx.B
theorem dx.eq:dx.F=dx.B:=aN _
theorem dx.ev (x:TS dx.si):evI pe Tryz.f17 dx.h dx.si dx.so x=dx.B x:=by kernel_rfl
theorem dx.fn:FnO 17 Tryz.f17:=fnO (by kernel_rfl) (by kernel_rfl)
theorem dx.ok:aB PP 17 ⟨2,dx.si,dx.so,dx.F⟩:=okI oD dx.fn dx.h (by kernel_rfl) dx.ev
noncomputable def vO:SpL:=(17,[],⟨2,dx.si,dx.so,dx.F⟩)::oC
noncomputable abbrev yL:=cq vO sq0
theorem vP:bM PP yL:=oD.consS [] dx.fn.enters dx.ok
def ce.si:Sh:=⟨[(0,.v true [.str,.str,.str,.int .i64,.int .i64,.sl 78 bD,.sl 3 (.int .i64),.bool,.sl 66 ei]),(1,.v true [.str,.str,.str,.int .i64,.int .i64,.sl 78 bD,.sl 3 (.int .i64),.bool,.sl 66 ei])],[],[],0,[]⟩
def ce.so:Sh:=⟨[(0,.v false [.bool])],[],[],1000,[]⟩
def ce.h:H:=(.s none .n (.s none (.s (some ⟨[(63,.v false [.bool])],[],[2,3],0,[]⟩) .n .n) (.s none (.s none .n (.b (.l ⟨[(5,.v false [.int .i64])],[],[2,3],0,[]⟩ .n))) .n)))
noncomputable def ce.B:ByteArray×ByteArray×ByteArray×Int×Int×(List ae)×(List Int)×Bool×(List ct)×ByteArray×ByteArray×ByteArray×Int×Int×(List ae)×(List Int)×Bool×(List ct)×Unit→Option (Bool×Unit):=fun (p0_0,p0_1,p0_2,p0_3,p0_4,p0_5,p0_6,p0_7,p0_8,p1_0,p1_1,p1_2,p1_3,p1_4,p1_5,p1_6,p1_7,p1_8,_)=>
 Option.bind (
 (bif (!(p0_0.toList==p1_0.toList)) then
 some (.inl (true,()))
 else
 (bif (!(p0_1.toList==p1_1.toList)) then
 some (.inl (true,()))
 else
 (bif (!(p0_2.toList==p1_2.toList)) then
 some (.inl (true,()))
 else
 (bif (!(Ty.eq ei (p0_3,p0_4) (p1_3,p1_4))) then
 some (.inl (true,()))
 else
 Option.bind (dv.F (p0_5,p1_5,())) fun y1=>
 (bif (!y1.1) then
 some (.inl (true,()))
 else
 Option.bind (dx.F (p0_6,p1_6,())) fun y2=>
 (bif (!y2.1) then
 some (.inl (true,()))
 else
 (bif (!(p0_7==p1_7)) then
 some (.inl (true,()))
 else
 some (.inl (((p0_8.length:Int) !=(p1_8.length:Int)),()))))))))):Option ((Bool×Unit)⊕_)) fun r3=>match r3 with
 | .inl (x63_3,_)=>
 ((bif x63_3 then
 some (false,())
 else
 bE (S:=Int×Unit) (fun (x5,_)=>
 (bif (decide (x5<(p0_8.length:Int))) then
 bif (decide (0≤x5)&&decide (x5<(p0_8.length:Int))) then
 let e4:ct:=(List.getD p0_8 (Int.toNat x5) ei.z)
 bif (decide (0≤x5)&&decide (x5<(p1_8.length:Int))) then
 let e5:ct:=(List.getD p1_8 (Int.toNat x5) ei.z)
 (bif (!(Ty.eq ei e4 e5)) then
 some (.inr (false,()))
 else
 let e6:Int:=(IntKind.i64.wrap (x5+(1:Int)))
 some (.inl (e6,())))
 else none
 else none
 else
 some (.inr (true,())))) ((0:Int),())))
 | .inr r=>some r
noncomputable def ce.F:=stk ce.B
theorem ce.eq:ce.F=ce.B:=aN _
theorem ce.ev (x:TS ce.si):evI yL Tryz.f44 ce.h ce.si ce.so x=ce.B x:=by kernel_rfl
theorem ce.fn:FnO 44 Tryz.f44:=fnO (by kernel_rfl) (by kernel_rfl)
theorem ce.ok:aB PP 44 ⟨2,ce.si,ce.so,ce.F⟩:=okI vP ce.fn ce.h (by kernel_rfl) ce.ev
noncomputable def pf:SpL:=(44,[],⟨2,ce.si,ce.so,ce.F⟩)::vO
noncomputable abbrev qJ:=cq pf sq0
theorem pg:bM PP qJ:=vP.consS [] ce.fn.enters ce.ok
def dy.si:Sh:=⟨[(0,.v true [.int .i64,.str,.sl 41 bR,.sl 32 (.sl 78 bD),.str,.str,.str,.int .i64,.int .i64,.sl 78 bD,.sl 3 (.int .i64),.bool,.sl 66 ei]),(1,.v true [.int .i64,.str,.sl 41 bR,.sl 32 (.sl 78 bD),.str,.str,.str,.int .i64,.int .i64,.sl 78 bD,.sl 3 (.int .i64),.bool,.sl 66 ei])],[],[],0,[]⟩
def dy.so:Sh:=⟨[(0,.v false [.bool])],[],[],1000,[]⟩
def dy.h:H:=.n
noncomputable def dy.B:Int×ByteArray×(List ba)×(List (List ae))×ByteArray×ByteArray×ByteArray×Int×Int×(List ae)×(List Int)×Bool×(List ct)×Int×ByteArray×(List ba)×(List (List ae))×ByteArray×ByteArray×ByteArray×Int×Int×(List ae)×(List Int)×Bool×(List ct)×Unit→Option (Bool×Unit):=fun (p0_0,p0_1,p0_2,p0_3,p0_4,p0_5,p0_6,p0_7,p0_8,p0_9,p0_10,p0_11,p0_12,p1_0,p1_1,p1_2,p1_3,p1_4,p1_5,p1_6,p1_7,p1_8,p1_9,p1_10,p1_11,p1_12,_)=>
 (bif (p0_0==p1_0) then
 Option.bind (bO.F (p0_1,p0_2,p0_3,p1_1,p1_2,p1_3,())) fun y1=>
 (bif y1.1 then
 Option.bind (ce.F (p0_4,p0_5,p0_6,p0_7,p0_8,p0_9,p0_10,p0_11,p0_12,p1_4,p1_5,p1_6,p1_7,p1_8,p1_9,p1_10,p1_11,p1_12,())) fun y2=>
 some (y2.1,())
 else
 some (false,()))
 else
 some (false,()))
noncomputable def dy.F:=stk dy.B
theorem dy.eq:dy.F=dy.B:=aN _
theorem dy.ev (x:TS dy.si):evI qJ Tryz.f29 dy.h dy.si dy.so x=dy.B x:=by kernel_rfl
theorem dy.fn:FnO 29 Tryz.f29:=fnO (by kernel_rfl) (by kernel_rfl)
theorem dy.ok:aB PP 29 ⟨2,dy.si,dy.so,dy.F⟩:=okI pg dy.fn dy.h (by kernel_rfl) dy.ev
noncomputable def vQ:SpL:=(29,[],⟨2,dy.si,dy.so,dy.F⟩)::pf
noncomputable abbrev yM:=cq vQ sq0
theorem vR:bM PP yM:=pg.consS [] dy.fn.enters dy.ok
def cZ.si:Sh:=⟨[(0,.v true [.int .i64,.str,.sl 41 bR,.sl 32 (.sl 78 bD),.str,.str,.str,.int .i64,.int .i64,.sl 78 bD,.sl 3 (.int .i64),.bool,.sl 66 ei])],[],[],0,[]⟩
def cZ.so:Sh:=⟨[(0,.v false [.str])],[],[],1000,[]⟩
def cZ.h:H:=(.s none .n (.s none .n (.s (some ⟨[(3,.v false [.str])],[],[1],0,[]⟩) .n .n)))
noncomputable def cZ.B:Int×ByteArray×(List ba)×(List (List ae))×ByteArray×ByteArray×ByteArray×Int×Int×(List ae)×(List Int)×Bool×(List ct)×Unit→Option (ByteArray×Unit):=fun (p0_0,p0_1,p0_2,p0_3,p0_4,p0_5,p0_6,p0_7,p0_8,p0_9,p0_10,p0_11,p0_12,_)=>
 Option.bind (bZ.F (p0_4,p0_5,p0_6,p0_7,p0_8,p0_9,p0_10,p0_11,p0_12,())) fun y1=>
 Option.bind (
 (bif (p0_0==(0:Int)) then
 Option.bind (bN.F (p0_1,p0_2,p0_3,())) fun y2=>
 some (.inl (y2.1,()))
 else
 some (.inl (y1.1,()))):Option ((ByteArray×Unit)⊕_)) fun r3=>match r3 with
 | .inl (x3_3,_)=>
 ((bif (decide ((x3_3.size:Int)>(20000:Int))) then
 some ((⟨#[]⟩:ByteArray),())
 else
 Option.bind (cY.F (x3_3,())) fun y4=>
 (bif (y4.2.2.2.2.2.2.2.2.1 !=(0:Int)) then
 some ((⟨#[]⟩:ByteArray),())
 else
 Option.bind (dy.F (p0_0,p0_1,p0_2,p0_3,p0_4,p0_5,p0_6,p0_7,p0_8,p0_9,p0_10,p0_11,p0_12,y4.1,y4.2.1,y4.2.2.2.2.2.2.2.2.2.1,y4.2.2.2.2.2.2.2.2.2.2.1,y4.2.2.1,y4.2.2.2.1,y4.2.2.2.2.1,y4.2.2.2.2.2.1,y4.2.2.2.2.2.2.1,y4.2.2.2.2.2.2.2.2.2.2.2.1,y4.2.2.2.2.2.2.2.2.2.2.2.2.1,y4.2.2.2.2.2.2.2.1,y4.2.2.2.2.2.2.2.2.2.2.2.2.2.1,())) fun y5=>
 (bif (!y5.1) then
 some ((⟨#[]⟩:ByteArray),())
 else
 some (x3_3,())))))
 | .inr r=>some r
noncomputable def cZ.F:=stk cZ.B
theorem cZ.eq:cZ.F=cZ.B:=aN _
theorem cZ.ev (x:TS cZ.si):evI yM Tryz.f21 cZ.h cZ.si cZ.so x=cZ.B x:=by kernel_rfl
theorem cZ.fn:FnO 21 Tryz.f21:=fnO (by kernel_rfl) (by kernel_rfl)
theorem cZ.ok:aB PP 21 ⟨1,cZ.si,cZ.so,cZ.F⟩:=okI vR cZ.fn cZ.h (by kernel_rfl) cZ.ev
noncomputable def uj:SpL:=(21,[],⟨1,cZ.si,cZ.so,cZ.F⟩)::vQ
noncomputable abbrev vS:=cq uj sq0
theorem uk:bM PP vS:=vR.consS [] cZ.fn.enters cZ.ok
def dV.si:Sh:=⟨[(0,.v false [.sl 78 bD])],[],[],0,[]⟩
def dV.so:Sh:=⟨[(0,.v false [.bool])],[],[],1000,[]⟩
def dV.h:H:=(.s none .n (.s (some ⟨[],[],[0],0,[]⟩) (.s none .n (.b (.l ⟨[(3,.v false [.int .i64])],[],[0],0,[]⟩ .n))) .n))
noncomputable def dV.B:(List ae)×Unit→Option (Bool×Unit):=fun (p0,_)=>
 Option.bind (
 bE (S:=Int×Unit) (fun (x3,_)=>
 (bif (decide (x3<(p0.length:Int))) then
 bif (decide (0≤x3)&&decide (x3<(p0.length:Int))) then
 let e1:ae:=(List.getD p0 (Int.toNat x3) bD.z)
 (bif (decide ((e1.2.2.2.2.size:Int)>(1000:Int))) then
 some (.inr (.inr (true,())))
 else
 let e2:Int:=(IntKind.i64.wrap (x3+(1:Int)))
 some (.inl (e2,())))
 else none
 else
 some (.inr (.inl (()))))) ((0:Int),()):Option ((Unit)⊕_)) fun r3=>match r3 with
 | .inl (_)=>
 (some ((decide ((p0.length:Int)>(120:Int))),()))
 | .inr r=>some r
noncomputable def dV.F:=stk dV.B
theorem dV.eq:dV.F=dV.B:=aN _
theorem dV.ev (x:TS dV.si):evI vS Tryz.f27 dV.h dV.si dV.so x=dV.B x:=by kernel_rfl
theorem dV.fn:FnO 27 Tryz.f27:=fnO (by kernel_rfl) (by kernel_rfl)
theorem dV.ok:aB PP 27 ⟨1,dV.si,dV.so,dV.F⟩:=okI uk dV.fn dV.h (by kernel_rfl) dV.ev
noncomputable def yN:SpL:=(27,[],⟨1,dV.si,dV.so,dV.F⟩)::uj
noncomputable abbrev Bi:=cq yN sq0
theorem yO:bM PP Bi:=uk.consS [] dV.fn.enters dV.ok
def d9.si:Sh:=⟨[(0,.v true [.int .i64,.str,.sl 41 bR,.sl 32 (.sl 78 bD),.str,.str,.str,.int .i64,.int .i64,.sl 78 bD,.sl 3 (.int .i64),.bool,.sl 66 ei])],[],[],0,[]⟩
def d9.so:Sh:=⟨[(0,.v false [.bool])],[],[],1000,[]⟩
def d9.h:H:=(.s none .n (.s none .n (.s (some ⟨[(3,.v false [.int .i64])],[],[1],0,[]⟩) (.s none .n (.b (.l ⟨[(3,.v false [.int .i64]),(4,.v false [.int .i64])],[],[1],0,[]⟩ .n))) (.s (some ⟨[],[],[1,3],0,[]⟩) (.s none .n (.b (.l ⟨[(5,.v false [.int .i64])],[],[1,3],0,[]⟩ .n))) .n))))
noncomputable def d9.B:Int×ByteArray×(List ba)×(List (List ae))×ByteArray×ByteArray×ByteArray×Int×Int×(List ae)×(List Int)×Bool×(List ct)×Unit→Option (Bool×Unit):=fun (p0_0,p0_1,p0_2,p0_3,p0_4,p0_5,p0_6,p0_7,p0_8,p0_9,p0_10,p0_11,p0_12,_)=>
 let e1:Int:=(IntKind.i64.wrap ((p0_2.length:Int)+(p0_3.length:Int)))
 let e2:Int:=(IntKind.i64.wrap (e1+(p0_10.length:Int)))
 let e3:Int:=(IntKind.i64.wrap (e2+(p0_12.length:Int)))
 let e4:Int:=(IntKind.i64.wrap (e3+(p0_9.length:Int)))
 Option.bind (
 bE (S:=Int×Int×Unit) (fun (x3,x4,_)=>
 (bif (decide (x4<(p0_3.length:Int))) then
 bif (decide (0≤x4)&&decide (x4<(p0_3.length:Int))) then
 let e5:(List ae):=(List.getD p0_3 (Int.toNat x4) [])
 let e6:Int:=(IntKind.i64.wrap (x3+(e5.length:Int)))
 bif (decide (0≤x4)&&decide (x4<(p0_3.length:Int))) then
 let e7:(List ae):=(List.getD p0_3 (Int.toNat x4) [])
 Option.bind (dV.F (e7,())) fun y8=>
 (bif y8.1 then
 some (.inr (.inr (true,())))
 else
 let e9:Int:=(IntKind.i64.wrap (x4+(1:Int)))
 some (.inl (e6,e9,())))
 else none
 else none
 else
 some (.inr (.inl (x3,()))))) (e4,(0:Int),()):Option ((Int×Unit)⊕_)) fun r10=>match r10 with
 | .inl (x3_10,_)=>
 (Option.bind (
 bE (S:=Int×Unit) (fun (x5,_)=>
 (bif (decide (x5<(p0_2.length:Int))) then
 bif (decide (0≤x5)&&decide (x5<(p0_2.length:Int))) then
 let e11:ba:=(List.getD p0_2 (Int.toNat x5) bR.z)
 (bif (decide ((e11.1.size:Int)>(100:Int))) then
 some (.inr (.inr (true,())))
 else
 bif (decide (0≤x5)&&decide (x5<(p0_2.length:Int))) then
 let e12:ba:=(List.getD p0_2 (Int.toNat x5) bR.z)
 (bif (decide ((e12.2.2.2.2.1.size:Int)>(100:Int))) then
 some (.inr (.inr (true,())))
 else
 let e13:Int:=(IntKind.i64.wrap (x5+(1:Int)))
 some (.inl (e13,())))
 else none)
 else none
 else
 some (.inr (.inl (()))))) ((0:Int),()):Option ((Unit)⊕_)) fun r14=>match r14 with
 | .inl (_)=>
 ((bif (decide (x3_10>(400:Int))) then
 some (true,())
 else
 Option.bind (dV.F (p0_9,())) fun y15=>
 (bif y15.1 then
 some (true,())
 else
 (bif (decide ((p0_1.size:Int)>(100:Int))) then
 some (true,())
 else
 (bif (decide ((p0_4.size:Int)>(100:Int))) then
 some (true,())
 else
 (bif (decide ((p0_5.size:Int)>(100:Int))) then
 some (true,())
 else
 some ((decide ((p0_6.size:Int)>(100:Int))),())))))))
 | .inr r=>some r)
 | .inr r=>some r
noncomputable def d9.F:=stk d9.B
theorem d9.eq:d9.F=d9.B:=aN _
theorem d9.ev (x:TS d9.si):evI Bi Tryz.f14 d9.h d9.si d9.so x=d9.B x:=by kernel_rfl
theorem d9.fn:FnO 14 Tryz.f14:=fnO (by kernel_rfl) (by kernel_rfl)
theorem d9.ok:aB PP 14 ⟨1,d9.si,d9.so,d9.F⟩:=okI yO d9.fn d9.h (by kernel_rfl) d9.ev
noncomputable def yP:SpL:=(14,[],⟨1,d9.si,d9.so,d9.F⟩)::yN
noncomputable abbrev Bj:=cq yP sq0
theorem yQ:bM PP Bj:=yO.consS [] d9.fn.enters d9.ok
def aK.si:Sh:=⟨[(0,.v false [.ptr 0 0]),(1,.v false [.sl 9 .str])],[(0,true,.box 127 [.ref 1]),(1,true,.arr 9 .str)],[],2,[]⟩
def aK.so:Sh:=⟨[(0,.tup [])],[(0,true,.box 127 [.ref 1001]),(1001,false,.arr 9 .str)],[],1002,[(0,0)]⟩
def aK.h:H:=.n
noncomputable def aK.B:(List ByteArray)×(List ByteArray)×Unit→Option ((List ByteArray)×Unit):=fun (p1,o0_0,_)=>
 bif (Nat.ble (o0_0.length+p1.length) 8796093022208) then
 some ((o0_0++p1),())
 else none
noncomputable def aK.F:=stk aK.B
theorem aK.eq:aK.F=aK.B:=aN _
theorem aK.ev (x:TS aK.si):evI Bj Tryz.f95 aK.h aK.si aK.so x=aK.B x:=by kernel_rfl
theorem aK.fn:FnO 95 Tryz.f95:=fnO (by kernel_rfl) (by kernel_rfl)
theorem aK.ok:aB PP 95 ⟨2,aK.si,aK.so,aK.F⟩:=okI yQ aK.fn aK.h (by kernel_rfl) aK.ev
noncomputable def lR:SpL:=(95,[],⟨2,aK.si,aK.so,aK.F⟩)::yP
noncomputable abbrev mZ:=cq lR sq0
theorem lS:bM PP mZ:=yQ.consS [] aK.fn.enters aK.ok
def dj.si:Sh:=⟨[(0,.v false [.int .i64]),(1,.v false [.sl 9 .str])],[],[],0,[]⟩
def dj.so:Sh:=⟨[(0,.v false [.str])],[],[],1000,[]⟩
def dj.h:H:=.n
noncomputable def dj.B:Int×(List ByteArray)×Unit→Option (ByteArray×Unit):=fun (p0,p1,_)=>
 (bif (decide (p0<(0:Int))) then
 some ((⟨#[33]⟩:ByteArray),())
 else
 (bif (decide (p0≥(p1.length:Int))) then
 some ((⟨#[33]⟩:ByteArray),())
 else
 bif (decide (0≤p0)&&decide (p0<(p1.length:Int))) then
 let e1:ByteArray:=(List.getD p1 (Int.toNat p0) (⟨#[]⟩:ByteArray))
 some (e1,())
 else none))
noncomputable def dj.F:=stk dj.B
theorem dj.eq:dj.F=dj.B:=aN _
theorem dj.ev (x:TS dj.si):evI mZ Tryz.f98 dj.h dj.si dj.so x=dj.B x:=by kernel_rfl
theorem dj.fn:FnO 98 Tryz.f98:=fnO (by kernel_rfl) (by kernel_rfl)
theorem dj.ok:aB PP 98 ⟨2,dj.si,dj.so,dj.F⟩:=okI lS dj.fn dj.h (by kernel_rfl) dj.ev
noncomputable def vT:SpL:=(98,[],⟨2,dj.si,dj.so,dj.F⟩)::lR
noncomputable abbrev yR:=cq vT sq0
theorem vU:bM PP yR:=lS.consS [] dj.fn.enters dj.ok
def aJ.si:Sh:=⟨[(0,.v false [.ptr 0 0]),(1,.v false [.bool]),(2,.v false [.sl 9 .str])],[(0,true,.box 127 [.ref 1]),(1,true,.arr 9 .str)],[],2,[]⟩
def aJ.so:Sh:=⟨[(0,.tup [])],[(0,true,.box 127 [.ref 1001]),(1001,false,.arr 9 .str)],[],1002,[(0,0)]⟩
def aJ.h:H:=.n
noncomputable def aJ.B:Bool×(List ByteArray)×(List ByteArray)×Unit→Option ((List ByteArray)×Unit):=fun (p1,p2,o0_0,_)=>
 (bif p1 then
 Option.bind (aK.F (p2,o0_0,())) fun y1=>
 some (y1.1,())
 else
 some (o0_0,()))
noncomputable def aJ.F:=stk aJ.B
theorem aJ.eq:aJ.F=aJ.B:=aN _
theorem aJ.ev (x:TS aJ.si):evI yR Tryz.f99 aJ.h aJ.si aJ.so x=aJ.B x:=by kernel_rfl
theorem aJ.fn:FnO 99 Tryz.f99:=fnO (by kernel_rfl) (by kernel_rfl)
theorem aJ.ok:aB PP 99 ⟨3,aJ.si,aJ.so,aJ.F⟩:=okI vU aJ.fn aJ.h (by kernel_rfl) aJ.ev
noncomputable def km:SpL:=(99,[],⟨3,aJ.si,aJ.so,aJ.F⟩)::vT
noncomputable abbrev rh:=cq km sq0
theorem qy:bM PP rh:=vU.consS [] aJ.fn.enters aJ.ok
def strconv_Itoa.si:Sh:=⟨[(0,.v false [.int .i64])],[],[],0,[]⟩
def strconv_Itoa.so:Sh:=⟨[(0,.v false [.str])],[],[],1000,[]⟩
noncomputable def strconv_Itoa.B:TS strconv_Itoa.si→Option (TS strconv_Itoa.so):=EC
noncomputable def strconv_Itoa.F:=stk strconv_Itoa.B
theorem strconv_Itoa.eq:strconv_Itoa.F=strconv_Itoa.B:=aN _
theorem strconv_Itoa.ok:aB PP 101 ⟨1,strconv_Itoa.si,strconv_Itoa.so,strconv_Itoa.F⟩:=by
 rw [strconv_Itoa.eq]
 exact Jb
theorem strconv_Itoa.en:Lv.nY PP 101:=⟨_,Tryz.func101,by kernel_rfl,by decide⟩
noncomputable def ph:SpL:=(101,[],⟨1,strconv_Itoa.si,strconv_Itoa.so,strconv_Itoa.F⟩)::km
noncomputable abbrev qK:=cq ph sq0
theorem pi:bM PP qK:=qy.consS [] strconv_Itoa.en strconv_Itoa.ok
def ep.si:Sh:=⟨[(0,.v false [.int .u8])],[],[],0,[]⟩
def ep.so:Sh:=⟨[(0,.v false [.int .i64])],[],[],1000,[]⟩
def ep.h:H:=(.s none .n (.s none (.b (.s (some ⟨[(3,.v false [.bool])],[],[0],0,[]⟩) .n (.c .n (.s (some ⟨[(10,.v false [.bool])],[],[0],0,[]⟩) .n .n)))) .n))
noncomputable def ep.B:Int×Unit→Option (Int×Unit):=fun (p0,_)=>
 Option.bind (
 (bif (decide (p0≥(97:Int))) then
 some (.inl ((decide (p0≤(122:Int))),()))
 else
 some (.inl (false,()))):Option ((Bool×Unit)⊕_)) fun r1=>match r1 with
 | .inl (x3_1,_)=>
 ((bif x3_1 then
 some ((1:Int),())
 else
 Option.bind (
 (bif (decide (p0≥(48:Int))) then
 some (.inl ((decide (p0≤(57:Int))),()))
 else
 some (.inl (false,()))):Option ((Bool×Unit)⊕_)) fun r2=>match r2 with
 | .inl (x10_2,_)=>
 ((bif x10_2 then
 some ((2:Int),())
 else
 (bif (p0==(95:Int)) then
 some ((3:Int),())
 else
 (bif (p0==(39:Int)) then
 some ((4:Int),())
 else
 (bif (p0==(32:Int)) then
 some ((5:Int),())
 else
 some ((0:Int),()))))))
 | .inr r=>some r))
 | .inr r=>some r
noncomputable def ep.F:=stk ep.B
theorem ep.eq:ep.F=ep.B:=aN _
theorem ep.ev (x:TS ep.si):evI qK Tryz.f155 ep.h ep.si ep.so x=ep.B x:=by kernel_rfl
theorem ep.fn:FnO 155 Tryz.f155:=fnO (by kernel_rfl) (by kernel_rfl)
theorem ep.ok:aB PP 155 ⟨1,ep.si,ep.so,ep.F⟩:=okI pi ep.fn ep.h (by kernel_rfl) ep.ev
noncomputable def Bk:SpL:=(155,[],⟨1,ep.si,ep.so,ep.F⟩)::ph
noncomputable abbrev Ee:=cq Bk sq0
theorem Bl:bM PP Ee:=pi.consS [] ep.fn.enters ep.ok
def be.si:Sh:=⟨[(0,.v false [.ptr 0 0]),(1,.v false [.sl 183 (.int .i64)])],[(0,true,.box 181 [.str,.int .i64])],[],1,[]⟩
def be.so:Sh:=⟨[(0,.v false [.str])],[(0,true,.box 181 [.str,.int .i64])],[],1001,[(0,0)]⟩
def be.h:H:=(.s none .n (.s none .n (.s (some ⟨[(0,.v false [.ptr 0 0])],[(0,true,.box 181 [.str,.int .i64])],[5],1,[]⟩) (.b (.l ⟨[(0,.v false [.ptr 0 0])],[(0,true,.box 181 [.str,.int .i64])],[1,5],1,[]⟩ (.s none .n (.b (.s none .n (.s none .n (.s (some ⟨[(7,.v false [.bool])],[],[0,1,5],0,[]⟩) (.s none .n (.b (.l ⟨[(7,.v false [.bool]),(36,.v false [.int .i64])],[],[0,1,5,6,34,35],0,[]⟩ .n))) .n))))))) .n)))
noncomputable def be.B:(List Int)×ByteArray×Int×Unit→Option (ByteArray×ByteArray×Int×Unit):=fun (p1,o0_0,o0_1,_)=>
 Option.bind (
 bE (S:=ByteArray×Int×Unit) (fun (o0_0_0,o0_0_1,_)=>
 (bif (decide (o0_0_1<(o0_0_0.size:Int))) then
 bif (decide (0≤o0_0_1)&&decide (o0_0_1<(o0_0_0.size:Int))) then
 let e1:Int:=(eK o0_0_0 (Int.toNat o0_0_1))
 Option.bind (ep.F (e1,())) fun y2=>
 Option.bind (
 bE (S:=Bool×Int×Unit) (fun (x7',x36',_)=>
 (bif (decide (x36'<(p1.length:Int))) then
 bif (decide (0≤x36')&&decide (x36'<(p1.length:Int))) then
 let e3:Int:=(List.getD p1 (Int.toNat x36') (0:Int))
 (bif x7' then
 let e4:Int:=(IntKind.i64.wrap (x36'+(1:Int)))
 some (.inl (true,e4,()))
 else
 let e5:Int:=(IntKind.i64.wrap (x36'+(1:Int)))
 some (.inl ((e3==y2.1),e5,())))
 else none
 else
 some (.inr (.inl (x7',()))))) (false,(0:Int),()):Option ((Bool×Unit)⊕_)) fun r6=>match r6 with
 | .inl (x7_6,_)=>
 ((bif (!x7_6) then
 some (.inr (.inl (o0_0_0,o0_0_1,())))
 else
 let e7:Int:=(IntKind.i64.wrap (o0_0_1+(1:Int)))
 some (.inl (o0_0_0,e7,()))))
 | .inr r=>some r
 else none
 else
 some (.inr (.inl (o0_0_0,o0_0_1,()))))) (o0_0,o0_1,()):Option ((ByteArray×Int×Unit)⊕_)) fun r8=>match r8 with
 | .inl (o0_0_0_8,o0_0_1_8,_)=>
 (bif (decide (0≤o0_1)&&(decide (o0_1≤o0_0_1_8)&&decide (o0_0_1_8≤(o0_0_0_8.size:Int)))) then
 let e9:ByteArray:=(o0_0_0_8.extract (Int.toNat o0_1) (Int.toNat o0_0_1_8))
 some (e9,o0_0_0_8,o0_0_1_8,())
 else none)
 | .inr r=>some r
noncomputable def be.F:=stk be.B
theorem be.eq:be.F=be.B:=aN _
theorem be.ev (x:TS be.si):evI Ee Tryz.f132 be.h be.si be.so x=be.B x:=by kernel_rfl
theorem be.fn:FnO 132 Tryz.f132:=fnO (by kernel_rfl) (by kernel_rfl)
theorem be.ok:aB PP 132 ⟨2,be.si,be.so,be.F⟩:=okI Bl be.fn be.h (by kernel_rfl) be.ev
noncomputable def lT:SpL:=(132,[],⟨2,be.si,be.so,be.F⟩)::Bk
noncomputable abbrev m0:=cq lT sq0
theorem lU:bM PP m0:=Bl.consS [] be.fn.enters be.ok
def dz.si:Sh:=⟨[(0,.v false [.str])],[],[],0,[]⟩
def dz.so:Sh:=⟨[(0,.v false [.bool])],[],[],1000,[]⟩
def dz.h:H:=(.s none .n (.s (some ⟨[],[],[0],0,[]⟩) .n .n))
noncomputable def dz.B:ByteArray×Unit→Option (Bool×Unit):=fun (p0,_)=>
 Option.bind (
 (bif (p0.toList==(⟨#[]⟩:ByteArray).toList) then
 some (.inr (false,()))
 else
 (bif (decide ((p0.size:Int)>(30:Int))) then
 some (.inr (false,()))
 else
 bif (decide (0≤(0:Int))&&decide ((0:Int)<(p0.size:Int))) then
 let e1:Int:=(eK p0 0)
 Option.bind (ep.F (e1,())) fun y2=>
 (bif (y2.1 !=(1:Int)) then
 some (.inr (false,()))
 else
 some (.inl (())))
 else none)):Option ((Unit)⊕_)) fun r3=>match r3 with
 | .inl (_)=>
 (Option.bind (be.F ([(1:Int),(2:Int),(3:Int)],p0,(0:Int),())) fun y4=>
 some ((y4.1.toList==p0.toList),()))
 | .inr r=>some r
noncomputable def dz.F:=stk dz.B
theorem dz.eq:dz.F=dz.B:=aN _
theorem dz.ev (x:TS dz.si):evI m0 Tryz.f165 dz.h dz.si dz.so x=dz.B x:=by kernel_rfl
theorem dz.fn:FnO 165 Tryz.f165:=fnO (by kernel_rfl) (by kernel_rfl)
theorem dz.ok:aB PP 165 ⟨1,dz.si,dz.so,dz.F⟩:=okI lU dz.fn dz.h (by kernel_rfl) dz.ev
noncomputable def vV:SpL:=(165,[],⟨1,dz.si,dz.so,dz.F⟩)::lT
noncomputable abbrev yS:=cq vV sq0
theorem vW:bM PP yS:=lU.consS [] dz.fn.enters dz.ok
def cy.si:Sh:=⟨[(0,.v true [.int .i64,.int .i64,.str])],[],[],0,[]⟩
def cy.so:Sh:=⟨[(0,.v false [.bool])],[],[],1000,[]⟩
def cy.h:H:=.n
noncomputable def cy.B:Int×Int×ByteArray×Unit→Option (Bool×Unit):=fun (p0_0,p0_1,p0_2,_)=>
 (bif (p0_0==(0:Int)) then
 some ((Ty.eq nN (p0_0,(p0_1,p0_2)) ((0:Int),((0:Int),(⟨#[]⟩:ByteArray)))),())
 else
 (bif (p0_0==(1:Int)) then
 (bif (p0_1==(0:Int)) then
 some ((p0_2.toList==(⟨#[]⟩:ByteArray).toList),())
 else
 (bif (p0_1==(1:Int)) then
 some ((p0_2.toList==(⟨#[]⟩:ByteArray).toList),())
 else
 some (false,())))
 else
 (bif (p0_0==(2:Int)) then
 some ((p0_2.toList==(⟨#[]⟩:ByteArray).toList),())
 else
 (bif (p0_0==(3:Int)) then
 (bif (p0_1==(0:Int)) then
 some ((decide ((p0_2.size:Int)≤(1000:Int))),())
 else
 some (false,()))
 else
 some (false,())))))
noncomputable def cy.F:=stk cy.B
theorem cy.eq:cy.F=cy.B:=aN _
theorem cy.ev (x:TS cy.si):evI yS Tryz.f147 cy.h cy.si cy.so x=cy.B x:=by kernel_rfl
theorem cy.fn:FnO 147 Tryz.f147:=fnO (by kernel_rfl) (by kernel_rfl)
theorem cy.ok:aB PP 147 ⟨1,cy.si,cy.so,cy.F⟩:=okI vW cy.fn cy.h (by kernel_rfl) cy.ev
noncomputable def ul:SpL:=(147,[],⟨1,cy.si,cy.so,cy.F⟩)::vV
noncomputable abbrev CV:=cq ul sq0
theorem Bm:bM PP CV:=vW.consS [] cy.fn.enters cy.ok
def strings_Contains.si:Sh:=⟨[(0,.v false [.str]),(1,.v false [.str])],[],[],0,[]⟩
def strings_Contains.so:Sh:=⟨[(0,.v false [.bool])],[],[],1000,[]⟩
noncomputable def strings_Contains.B:TS strings_Contains.si→Option (TS strings_Contains.so):=qo
noncomputable def strings_Contains.F:=stk strings_Contains.B
theorem strings_Contains.eq:strings_Contains.F=strings_Contains.B:=aN _
theorem strings_Contains.ok:aB PP 160 ⟨2,strings_Contains.si,strings_Contains.so,strings_Contains.F⟩:=by
 rw [strings_Contains.eq]
 exact Cf
theorem strings_Contains.en:Lv.nY PP 160:=⟨_,Tryz.func160,by kernel_rfl,by decide⟩
noncomputable def kP:SpL:=(160,[],⟨2,strings_Contains.si,strings_Contains.so,strings_Contains.F⟩)::ul
noncomputable abbrev lV:=cq kP sq0
theorem kQ:bM PP lV:=Bm.consS [] strings_Contains.en strings_Contains.ok
def dP.si:Sh:=⟨[(0,.v true [.int .i64,.str,.int .i64,.int .i64,.str])],[],[],0,[]⟩
def dP.so:Sh:=⟨[(0,.v false [.bool])],[],[],1000,[]⟩
def dP.h:H:=.n
noncomputable def dP.B:Int×ByteArray×Int×Int×ByteArray×Unit→Option (Bool×Unit):=fun (p0_0,p0_1,p0_2,p0_3,p0_4,_)=>
 (bif (p0_0==(0:Int)) then
 Option.bind (dz.F (p0_1,())) fun y1=>
 (bif y1.1 then
 some ((Ty.eq nN (p0_2,(p0_3,p0_4)) ((0:Int),((0:Int),(⟨#[]⟩:ByteArray)))),())
 else
 some (false,()))
 else
 (bif (p0_0==(1:Int)) then
 (bif (p0_1.toList==(⟨#[]⟩:ByteArray).toList) then
 Option.bind (cy.F (p0_2,p0_3,p0_4,())) fun y2=>
 (bif y2.1 then
 some ((decide (p0_2≥(2:Int))),())
 else
 some (false,()))
 else
 some (false,()))
 else
 (bif (p0_0==(2:Int)) then
 (bif ((p0_1.size:Int)==(1:Int)) then
 Option.bind (strings_Contains.F ((⟨#[40,41,91,93,44,61,60,43,45,42,63]⟩:ByteArray),p0_1,())) fun y3=>
 (bif y3.1 then
 some ((Ty.eq nN (p0_2,(p0_3,p0_4)) ((0:Int),((0:Int),(⟨#[]⟩:ByteArray)))),())
 else
 some (false,()))
 else
 some (false,()))
 else
 some (false,()))))
noncomputable def dP.F:=stk dP.B
theorem dP.eq:dP.F=dP.B:=aN _
theorem dP.ev (x:TS dP.si):evI lV Tryz.f150 dP.h dP.si dP.so x=dP.B x:=by kernel_rfl
theorem dP.fn:FnO 150 Tryz.f150:=fnO (by kernel_rfl) (by kernel_rfl)
theorem dP.ok:aB PP 150 ⟨1,dP.si,dP.so,dP.F⟩:=okI kQ dP.fn dP.h (by kernel_rfl) dP.ev
noncomputable def yT:SpL:=(150,[],⟨1,dP.si,dP.so,dP.F⟩)::kP
noncomputable abbrev Bn:=cq yT sq0
theorem yU:bM PP Bn:=kQ.consS [] dP.fn.enters dP.ok
def aF.si:Sh:=⟨[(0,.v false [.bool])],[],[],0,[]⟩
def aF.so:Sh:=⟨[(0,.v false [.str])],[],[],1000,[]⟩
def aF.h:H:=.n
noncomputable def aF.B:Bool×Unit→Option (ByteArray×Unit):=fun (p0,_)=>
 (bif p0 then
 some ((⟨#[116,114,117,101]⟩:ByteArray),())
 else
 some ((⟨#[102,97,108,115,101]⟩:ByteArray),()))
noncomputable def aF.F:=stk aF.B
theorem aF.ev (x:TS aF.si):evI Bn Tryz.f190 aF.h aF.si aF.so x=aF.B x:=by kernel_rfl
theorem aF.fn:FnO 190 Tryz.f190:=fnO (by kernel_rfl) (by kernel_rfl)
theorem aF.ok:aB PP 190 ⟨1,aF.si,aF.so,aF.F⟩:=okI yU aF.fn aF.h (by kernel_rfl) aF.ev
noncomputable def gJ:SpL:=(190,[],⟨1,aF.si,aF.so,aF.F⟩)::yT
noncomputable abbrev gR:=cq gJ sq0
theorem gK:bM PP gR:=yU.consS [] aF.fn.enters aF.ok
def bA.si:Sh:=⟨[(0,.v false [.bool])],[],[],0,[]⟩
def bA.so:Sh:=⟨[(0,.v false [.str])],[],[],1000,[]⟩
def bA.h:H:=.n
noncomputable def bA.B:Bool×Unit→Option (ByteArray×Unit):=fun (p0,_)=>
 Option.bind (aF.F (p0,())) fun y1=>
 some (y1.1,())
noncomputable def bA.F:=stk bA.B
theorem bA.ev (x:TS bA.si):evI gR Tryz.f178 bA.h bA.si bA.so x=bA.B x:=by kernel_rfl
theorem bA.fn:FnO 178 Tryz.f178:=fnO (by kernel_rfl) (by kernel_rfl)
theorem bA.ok:aB PP 178 ⟨1,bA.si,bA.so,bA.F⟩:=okI gK bA.fn bA.h (by kernel_rfl) bA.ev
noncomputable def jL:SpL:=(178,[],⟨1,bA.si,bA.so,bA.F⟩)::gJ
noncomputable abbrev qz:=cq jL sq0
theorem pj:bM PP qz:=gK.consS [] bA.fn.enters bA.ok
def strings_ReplaceAll.si:Sh:=⟨[(0,.v false [.str]),(1,.v false [.str]),(2,.v false [.str])],[],[],0,[]⟩
def strings_ReplaceAll.so:Sh:=⟨[(0,.v false [.str])],[],[],1000,[]⟩
noncomputable def strings_ReplaceAll.B:TS strings_ReplaceAll.si→Option (TS strings_ReplaceAll.so):=sS
noncomputable def strings_ReplaceAll.F:=stk strings_ReplaceAll.B
theorem strings_ReplaceAll.eq:strings_ReplaceAll.F=strings_ReplaceAll.B:=aN _
theorem strings_ReplaceAll.ok:aB PP 179 ⟨3,strings_ReplaceAll.si,strings_ReplaceAll.so,strings_ReplaceAll.F⟩:=by
 rw [strings_ReplaceAll.eq]
 exact Dq
theorem strings_ReplaceAll.en:Lv.nY PP 179:=⟨_,Tryz.func179,by kernel_rfl,by decide⟩
noncomputable def jM:SpL:=(179,[],⟨3,strings_ReplaceAll.si,strings_ReplaceAll.so,strings_ReplaceAll.F⟩)::jL
noncomputable abbrev kn:=cq jM sq0
theorem jN:bM PP kn:=pj.consS [] strings_ReplaceAll.en strings_ReplaceAll.ok
def cL.si:Sh:=⟨[(0,.v true [.int .i64,.int .i64,.str])],[],[],0,[]⟩
def cL.so:Sh:=⟨[(0,.v false [.str])],[],[],1000,[]⟩
def cL.h:H:=.n
noncomputable def cL.B:Int×Int×ByteArray×Unit→Option (ByteArray×Unit):=fun (p0_0,p0_1,p0_2,_)=>
 (bif (p0_0==(0:Int)) then
 some ((⟨#[110,117,108,108]⟩:ByteArray),())
 else
 (bif (p0_0==(1:Int)) then
 Option.bind (bA.F ((p0_1 !=(0:Int)),())) fun y1=>
 some (y1.1,())
 else
 (bif (p0_0==(2:Int)) then
 Option.bind (strconv_Itoa.F (p0_1,())) fun y2=>
 some (y2.1,())
 else
 (bif (p0_0==(3:Int)) then
 Option.bind (strings_ReplaceAll.F (p0_2,(⟨#[39]⟩:ByteArray),(⟨#[39,39]⟩:ByteArray),())) fun y3=>
 bif (!decide ((((⟨#[39]⟩:ByteArray).size+y3.1.size:Nat):Int)>IntKind.i64.max)) then
 let e4:ByteArray:=((⟨#[39]⟩:ByteArray)++y3.1)
 bif (!decide (((e4.size+(⟨#[39]⟩:ByteArray).size:Nat):Int)>IntKind.i64.max)) then
 let e5:ByteArray:=(e4++(⟨#[39]⟩:ByteArray))
 some (e5,())
 else none
 else none
 else
 some ((⟨#[63]⟩:ByteArray),())))))
noncomputable def cL.F:=stk cL.B
theorem cL.eq:cL.F=cL.B:=aN _
theorem cL.ev (x:TS cL.si):evI kn Tryz.f166 cL.h cL.si cL.so x=cL.B x:=by kernel_rfl
theorem cL.fn:FnO 166 Tryz.f166:=fnO (by kernel_rfl) (by kernel_rfl)
theorem cL.ok:aB PP 166 ⟨1,cL.si,cL.so,cL.F⟩:=okI jN cL.fn cL.h (by kernel_rfl) cL.ev
noncomputable def sd:SpL:=(166,[],⟨1,cL.si,cL.so,cL.F⟩)::jM
noncomputable abbrev Bo:=cq sd sq0
theorem Ah:bM PP Bo:=jN.consS [] cL.fn.enters cL.ok
def strings_Join.si:Sh:=⟨[(0,.v false [.sl 9 .str]),(1,.v false [.str])],[],[],0,[]⟩
def strings_Join.so:Sh:=⟨[(0,.v false [.str])],[],[],1000,[]⟩
noncomputable def strings_Join.B:TS strings_Join.si→Option (TS strings_Join.so):=fun (xs,sep,_)=>if xs.length≤140737488355328∧(j9 xs sep).size≤140737488355328 then some (j9 xs sep,()) else none
noncomputable def strings_Join.F:=stk strings_Join.B
theorem strings_Join.eq:strings_Join.F=strings_Join.B:=aN _
theorem strings_Join.ok:aB PP 80 ⟨2,strings_Join.si,strings_Join.so,strings_Join.F⟩:=by
 rw [strings_Join.eq]
 exact Jc
theorem strings_Join.en:Lv.nY PP 80:=⟨_,Tryz.func80,by kernel_rfl,by decide⟩
noncomputable def pl:SpL:=(80,[],⟨2,strings_Join.si,strings_Join.so,strings_Join.F⟩)::sd
noncomputable abbrev qL:=cq pl sq0
theorem pm:bM PP qL:=Ah.consS [] strings_Join.en strings_Join.ok
def cV.si:Sh:=⟨[(0,.v false [.sl 111 dA])],[],[],0,[]⟩
def cV.so:Sh:=⟨[(0,.v false [.str])],[],[],1000,[]⟩
def cV.h:H:=(.s none .n (.s none .n (.s (some ⟨[(3,.v false [.ref 0])],[(0,false,.arr 9 .str)],[],1,[]⟩) (.s none .n (.b (.l ⟨[(3,.v false [.ref 0]),(8,.v false [.int .i64])],[(0,false,.arr 9 .str)],[6,7],1,[]⟩ .n))) .n)))
noncomputable def cV.B:(List bH)×Unit→Option (ByteArray×Unit):=fun (p0,_)=>
 Option.bind (
 bE (S:=Int×(List ByteArray)×Unit) (fun (x8,o3_0,_)=>
 (bif (decide (x8<(p0.length:Int))) then
 bif (decide (0≤x8)&&decide (x8<(p0.length:Int))) then
 let e1:bH:=(List.getD p0 (Int.toNat x8) dA.z)
 Option.bind (dP.F (e1.1,e1.2.1,e1.2.2.1,e1.2.2.2.1,e1.2.2.2.2,())) fun y2=>
 (bif (!y2.1) then
 some (.inr (.inr ((⟨#[]⟩:ByteArray),())))
 else
 (bif (e1.1==(1:Int)) then
 Option.bind (cL.F (e1.2.2.1,e1.2.2.2.1,e1.2.2.2.2,())) fun y3=>
 bif (Nat.ble (o3_0.length+ [y3.1].length) 8796093022208) then
 let e4:Int:=(IntKind.i64.wrap (x8+(1:Int)))
 some (.inl (e4,(o3_0++ [y3.1]),()))
 else none
 else
 bif (Nat.ble (o3_0.length+ [e1.2.1].length) 8796093022208) then
 let e5:Int:=(IntKind.i64.wrap (x8+(1:Int)))
 some (.inl (e5,(o3_0++ [e1.2.1]),()))
 else none))
 else none
 else
 some (.inr (.inl (o3_0,()))))) ((0:Int),[],()):Option (((List ByteArray)×Unit)⊕_)) fun r6=>match r6 with
 | .inl (o3_0_6,_)=>
 (Option.bind (strings_Join.F (o3_0_6,(⟨#[32]⟩:ByteArray),())) fun y7=>
 some (y7.1,()))
 | .inr r=>some r
noncomputable def cV.F:=stk cV.B
theorem cV.eq:cV.F=cV.B:=aN _
theorem cV.ev (x:TS cV.si):evI qL Tryz.f151 cV.h cV.si cV.so x=cV.B x:=by kernel_rfl
theorem cV.fn:FnO 151 Tryz.f151:=fnO (by kernel_rfl) (by kernel_rfl)
theorem cV.ok:aB PP 151 ⟨1,cV.si,cV.so,cV.F⟩:=okI pm cV.fn cV.h (by kernel_rfl) cV.ev
noncomputable def um:SpL:=(151,[],⟨1,cV.si,cV.so,cV.F⟩)::pl
noncomputable abbrev CW:=cq um sq0
theorem pn:bM PP CW:=pm.consS [] cV.fn.enters cV.ok
def cD.si:Sh:=⟨[(0,.v true [.int .i64,.int .i64,.str])],[],[],0,[]⟩
def cD.so:Sh:=⟨[(0,.v false [.str])],[],[],1000,[]⟩
noncomputable def cD.B:TS cD.si→Option (TS cD.so):=fun (a,b,s,_)=>
 let e:ByteArray:=(⟨#[]⟩:ByteArray)
 bif (a==(0:Int))&&(b==(0:Int))&&(s==e) then some ((⟨#[110,117,108,108]⟩:ByteArray),())
 else bif (a==(1:Int))&&(b==(0:Int))&&(s==e) then some ((⟨#[102,97,108,115,101]⟩:ByteArray),())
 else bif (a==(1:Int))&&(b==(1:Int))&&(s==e) then some ((⟨#[116,114,117,101]⟩:ByteArray),())
 else Option.bind (dP.F ((1:Int),e,a,b,s,())) fun y=>
 bif (!y.1) then some ((⟨#[33]⟩:ByteArray),()) else Option.bind (cV.F ([((1:Int),e,a,b,s)],())) fun z=>some (z.1,())
noncomputable def cD.F:=stk cD.B
theorem cD.eq:cD.F=cD.B:=aN _
theorem cD.ok:aB PP 128 ⟨1,cD.si,cD.so,cD.F⟩:=by
 rw [cD.eq]
 exact FG pn (eo pn mixed) .n (fun a b s=>Option.bind (dP.F ((1:Int),(⟨#[]⟩:ByteArray),a,b,s,())) fun y=>bif (!y.1) then some ((⟨#[33]⟩:ByteArray),()) else Option.bind (cV.F ([((1:Int),(⟨#[]⟩:ByteArray),a,b,s)],())) fun z=>some (z.1,())) (fun a b s=>by kernel_rfl)
theorem cD.en:Lv.nY PP 128:=⟨_,Tryz.func128,by kernel_rfl,by decide⟩
noncomputable def po:SpL:=(128,[],⟨1,cD.si,cD.so,cD.F⟩)::um
noncomputable abbrev qM:=cq po sq0
theorem pp:bM PP qM:=pn.consS [] cD.en cD.ok
def bl.si:Sh:=⟨[(0,.v false [.ptr 0 0]),(1,.v false [.sl 78 bD])],[(0,true,.box 127 [.ref 1]),(1,true,.arr 9 .str)],[],2,[]⟩
def bl.so:Sh:=⟨[(0,.tup [])],[(0,true,.box 127 [.ref 1001]),(1001,false,.arr 9 .str)],[],1002,[(0,0)]⟩
def bl.h:H:=(.s none .n (.s (some ⟨[(0,.v false [.ptr 0 0])],[(0,true,.box 127 [.ref 1]),(1,false,.arr 9 .str)],[],2,[]⟩) (.s none .n (.b (.l ⟨[(0,.v false [.ptr 0 0]),(11,.v false [.int .i64])],[(0,true,.box 127 [.ref 1]),(1,false,.arr 9 .str)],[9,10],2,[]⟩ .n))) .n))
noncomputable def bl.B:(List ae)×(List ByteArray)×Unit→Option ((List ByteArray)×Unit):=fun (p1,o0_0,_)=>
 Option.bind (aK.F ([(⟨#[91]⟩:ByteArray)],o0_0,())) fun y1=>
 Option.bind (
 bE (S:=Int×(List ByteArray)×Unit) (fun (x11,o0_0_0,_)=>
 (bif (decide (x11<(p1.length:Int))) then
 bif (decide (0≤x11)&&decide (x11<(p1.length:Int))) then
 let e2:ae:=(List.getD p1 (Int.toNat x11) bD.z)
 (bif (e2.1==(0:Int)) then
 Option.bind (strconv_Itoa.F (e2.2.1,())) fun y3=>
 bif (!decide ((((⟨#[99]⟩:ByteArray).size+y3.1.size:Nat):Int)>IntKind.i64.max)) then
 let e4:ByteArray:=((⟨#[99]⟩:ByteArray)++y3.1)
 Option.bind (aK.F ([e4],o0_0_0,())) fun y5=>
 let e6:Int:=(IntKind.i64.wrap (x11+(1:Int)))
 some (.inl (e6,y5.1,()))
 else none
 else
 (bif (e2.1==(1:Int)) then
 Option.bind (cD.F (e2.2.2.1,e2.2.2.2.1,e2.2.2.2.2,())) fun y7=>
 Option.bind (aK.F ([y7.1],o0_0_0,())) fun y8=>
 let e9:Int:=(IntKind.i64.wrap (x11+(1:Int)))
 some (.inl (e9,y8.1,()))
 else
 let e10:Int:=(IntKind.i64.wrap (e2.1-(2:Int)))
 Option.bind (dj.F (e10,[(⟨#[43]⟩:ByteArray),(⟨#[45]⟩:ByteArray),(⟨#[42]⟩:ByteArray),(⟨#[61]⟩:ByteArray),(⟨#[60]⟩:ByteArray),(⟨#[97,110,100]⟩:ByteArray),(⟨#[111,114]⟩:ByteArray),(⟨#[110,111,116]⟩:ByteArray),(⟨#[110,117,108,108,32,63]⟩:ByteArray)],())) fun y11=>
 Option.bind (aK.F ([y11.1],o0_0_0,())) fun y12=>
 let e13:Int:=(IntKind.i64.wrap (x11+(1:Int)))
 some (.inl (e13,y12.1,()))))
 else none
 else
 some (.inr (.inl (o0_0_0,()))))) ((0:Int),y1.1,()):Option (((List ByteArray)×Unit)⊕_)) fun r14=>match r14 with
 | .inl (o0_0_0_14,_)=>
 (Option.bind (aK.F ([(⟨#[93]⟩:ByteArray)],o0_0_0_14,())) fun y15=>
 some (y15.1,()))
 | .inr r=>some r
noncomputable def bl.F:=stk bl.B
theorem bl.eq:bl.F=bl.B:=aN _
theorem bl.ev (x:TS bl.si):evI qM Tryz.f100 bl.h bl.si bl.so x=bl.B x:=by kernel_rfl
theorem bl.fn:FnO 100 Tryz.f100:=fnO (by kernel_rfl) (by kernel_rfl)
theorem bl.ok:aB PP 100 ⟨2,bl.si,bl.so,bl.F⟩:=okI pp bl.fn bl.h (by kernel_rfl) bl.ev
noncomputable def kR:SpL:=(100,[],⟨2,bl.si,bl.so,bl.F⟩)::po
noncomputable abbrev fR:=cq kR sq0
theorem er:bM PP fR:=pp.consS [] bl.fn.enters bl.ok
def aG.si:Sh:=⟨[(0,.v false [.ptr 0 0]),(1,.v true [.str,.sl 41 bR,.sl 32 (.sl 78 bD)])],[(0,true,.box 127 [.ref 1]),(1,true,.arr 9 .str)],[],2,[]⟩
def aG.so:Sh:=⟨[(0,.tup [])],[(0,true,.box 127 [.ref 1001]),(1001,false,.arr 9 .str)],[],1002,[(0,0)]⟩
def aG.h:H:=(.s none .n (.s none .n (.s none .n (.s none .n (.s none .n (.b (.l ⟨[(2,.v false [.ptr 0 0]),(23,.v false [.int .i64])],[(0,true,.box 125 [.ptr 1 0]),(1,true,.box 127 [.ref 2]),(2,false,.arr 9 .str)],[21,22],3,[]⟩ .n)))))))
noncomputable def aG.B:ByteArray×(List ba)×(List (List ae))×(List ByteArray)×Unit→Option ((List ByteArray)×Unit):=fun (p1_0,p1_1,p1_2,o0_0,_)=>
 Option.bind (aK.F ([(⟨#[116,97,98,108,101]⟩:ByteArray),p1_0,(⟨#[40]⟩:ByteArray)],o0_0,())) fun y1=>
 bE (S:=Int×(List ByteArray)×Unit) (fun (x8,o0_0_0,_)=>
 (bif (decide (x8<(p1_1.length:Int))) then
 Option.bind (
 Option.bind (aJ.F ((decide (x8>(0:Int))),[(⟨#[44]⟩:ByteArray)],o0_0_0,())) fun y2=>
 bif (decide (0≤x8)&&decide (x8<(p1_1.length:Int))) then
 let e3:ba:=(List.getD p1_1 (Int.toNat x8) bR.z)
 let e4:Int:=(IntKind.i64.wrap (e3.2.1-(1:Int)))
 Option.bind (dj.F (e4,[(⟨#[98,111,111,108]⟩:ByteArray),(⟨#[105,110,116]⟩:ByteArray),(⟨#[116,101,120,116]⟩:ByteArray)],())) fun y5=>
 Option.bind (aK.F ([e3.1,y5.1],y2.1,())) fun y6=>
 Option.bind (aJ.F (e3.2.2.1,[(⟨#[110,117,108,108]⟩:ByteArray)],y6.1,())) fun y7=>
 Option.bind (aJ.F (e3.2.2.2.1,[(⟨#[117,110,105,113,117,101]⟩:ByteArray)],y7.1,())) fun y8=>
 Option.bind (dj.F (e3.2.2.2.2.2,[(⟨#[114,101,115,116,114,105,99,116]⟩:ByteArray),(⟨#[99,97,115,99,97,100,101]⟩:ByteArray),(⟨#[115,101,116,110,117,108,108]⟩:ByteArray)],())) fun y9=>
 Option.bind (aJ.F ((!(e3.2.2.2.2.1.toList==(⟨#[]⟩:ByteArray).toList)),[(⟨#[114,101,102]⟩:ByteArray),e3.2.2.2.2.1,y9.1],y8.1,())) fun y10=>
 some (.inl (y10.1,()))
 else none:Option (((List ByteArray)×Unit)⊕_)) fun r11=>match r11 with
 | .inl (o0_0_0_11,_)=>
 (let e12:Int:=(IntKind.i64.wrap (x8+(1:Int)))
 some (.inl (e12,o0_0_0_11,())))
 | .inr r=>some r
 else
 Option.map Sum.inr (Option.bind (aK.F ([(⟨#[41]⟩:ByteArray)],o0_0_0,())) fun y13=>
 bE (S:=Int×(List ByteArray)×Unit) (fun (x23,o2_0_0_0,_)=>
 (bif (decide (x23<(p1_2.length:Int))) then
 bif (decide (0≤x23)&&decide (x23<(p1_2.length:Int))) then
 let e14:(List ae):=(List.getD p1_2 (Int.toNat x23) [])
 Option.bind (aK.F ([(⟨#[99,104,101,99,107]⟩:ByteArray)],o2_0_0_0,())) fun y15=>
 Option.bind (bl.F (e14,y15.1,())) fun y16=>
 let e17:Int:=(IntKind.i64.wrap (x23+(1:Int)))
 some (.inl (e17,y16.1,()))
 else none
 else
 some (.inr (o2_0_0_0,())))) ((0:Int),y13.1,())))) ((0:Int),y1.1,())
noncomputable def aG.F:=stk aG.B
theorem aG.eq:aG.F=aG.B:=aN _
noncomputable def aG.ins:Nat→List (Option dU)→cp→Option (Code×List ResultVar×H):=fun g xs hp=>bif Nat.beq g 96&&nu xs hp 2 97 then some (Tryz.f96.body.getD .skip,Tryz.f96.results.toList,(.s none .n (.b (.l ⟨[(0,.v false [.ptr 0 0]),(8,.v false [.int .i64])],[(0,true,.box 127 [.ref 1]),(1,false,.arr 9 .str)],[2,7],2,[]⟩ (.s none .n (.s none .n (.s (some ⟨[(0,.v false [.ptr 0 0])],[(0,true,.box 127 [.ref 1]),(1,false,.arr 9 .str)],[2,7,8],2,[]⟩) .n .n))))))) else bif Nat.beq g 97 then some (Tryz.f97.body.getD .skip,Tryz.f97.results.toList,.n) else none
theorem aG.ins_ok:∀n xs hp code res h,aG.ins n xs hp=some (code,res,h)→∃nt,oc PP n code res nt:=by
 intro n xs hp code res h e
 unfold aG.ins at e
 cases e0:(Nat.beq n 96&&nu xs hp 2 97) with
 |true=>rw [e0] at e;cases e;rw [Nat.eq_of_beq_eq_true (Bool.and_eq_true_iff.1 e0).1];exact ⟨_,eN (by kernel_rfl) (by kernel_rfl) (by kernel_rfl) (by kernel_rfl)⟩
 |false=>
 rw [e0] at e
 cases e1:(Nat.beq n 97) with
 |true=>rw [e1] at e;cases e;rw [Nat.eq_of_beq_eq_true e1];exact ⟨_,eN (by kernel_rfl) (by kernel_rfl) (by kernel_rfl) (by kernel_rfl)⟩
 |false=>
 rw [e1] at e
 cases e
theorem aG.ev (x:TS aG.si):evF fR (jZ fR aG.ins (jZ fR aG.ins (jZ fR aG.ins lz))) (Tryz.f78.body.getD .skip) Tryz.f78.results.toList aG.h aG.si aG.so x=aG.B x:=by kernel_rfl
theorem aG.fn:FnO 78 Tryz.f78:=fnO (by kernel_rfl) (by kernel_rfl)
theorem aG.ok:aB PP 78 ⟨2,aG.si,aG.so,aG.F⟩:=tB er (eJ er (eJ er (eJ er (fi _ _) (eo er mixed) aG.ins_ok) (eo er mixed) aG.ins_ok) (eo er mixed) aG.ins_ok) mixed aG.fn aG.h (by kernel_rfl) aG.ev
noncomputable def ko:SpL:=(78,[],⟨2,aG.si,aG.so,aG.F⟩)::kR
noncomputable abbrev fC:=cq ko sq0
theorem ek:bM PP fC:=er.consS [] aG.fn.enters aG.ok
def aL.si:Sh:=⟨[(0,.v false [.ptr 0 0]),(1,.v true [.str,.str,.str,.int .i64,.int .i64,.sl 78 bD,.sl 3 (.int .i64),.bool,.sl 66 ei])],[(0,true,.box 127 [.ref 1]),(1,true,.arr 9 .str)],[],2,[]⟩
def aL.so:Sh:=⟨[(0,.tup [])],[(0,true,.box 127 [.ref 1001]),(1001,false,.arr 9 .str)],[],1002,[(0,0)]⟩
def aL.h:H:=(.s none .n (.s none .n (.s none .n (.s (some ⟨[(2,.v false [.ptr 0 0])],[(0,true,.box 125 [.ptr 1 0]),(1,true,.box 127 [.ref 2]),(2,false,.arr 9 .str)],[3,4],3,[]⟩) .n (.s (some ⟨[(2,.v false [.ptr 0 0])],[(0,true,.box 125 [.ptr 1 0]),(1,true,.box 127 [.ref 2]),(2,false,.arr 9 .str)],[3,4],3,[]⟩) .n .n)))))
noncomputable def aL.B:ByteArray×ByteArray×ByteArray×Int×Int×(List ae)×(List Int)×Bool×(List ct)×(List ByteArray)×Unit→Option ((List ByteArray)×Unit):=fun (p1_0,p1_1,p1_2,p1_3,p1_4,p1_5,p1_6,p1_7,p1_8,o0_0,_)=>
 Option.bind (aK.F ([(⟨#[118,105,101,119]⟩:ByteArray),p1_0,(⟨#[102,114,111,109]⟩:ByteArray),p1_1],o0_0,())) fun y1=>
 Option.bind (
 bif (decide (0≤(0:Int))&&decide ((0:Int)<(2:Int))) then
 Option.bind (strconv_Itoa.F (p1_3,())) fun y2=>
 bif (decide (0≤(1:Int))&&decide ((1:Int)<(2:Int))) then
 Option.bind (strconv_Itoa.F (p1_4,())) fun y3=>
 Option.bind (aJ.F ((!(p1_2.toList==(⟨#[]⟩:ByteArray).toList)),[(⟨#[106,111,105,110]⟩:ByteArray),p1_2,(⟨#[111,110]⟩:ByteArray),y2.1,(⟨#[61]⟩:ByteArray),y3.1],y1.1,())) fun y4=>
 some (.inl (y4.1,()))
 else none
 else none:Option (((List ByteArray)×Unit)⊕_)) fun r5=>match r5 with
 | .inl (o2_0_0_0_5,_)=>
 (Option.bind (
 (bif (decide ((p1_5.length:Int)>(0:Int))) then
 Option.bind (aK.F ([(⟨#[119,104,101,114,101]⟩:ByteArray)],o2_0_0_0_5,())) fun y6=>
 Option.bind (bl.F (p1_5,y6.1,())) fun y7=>
 some (.inl (y7.1,()))
 else
 some (.inl (o2_0_0_0_5,()))):Option (((List ByteArray)×Unit)⊕_)) fun r8=>match r8 with
 | .inl (o2_0_0_0_8,_)=>
 (Option.bind (aK.F ([(⟨#[112,105,99,107]⟩:ByteArray)],o2_0_0_0_8,())) fun y9=>
 bE (S:=Int×(List ByteArray)×Unit) (fun (x8,o0_0_0,_)=>
 (bif (decide (x8<(p1_6.length:Int))) then
 Option.bind (
 Option.bind (aJ.F ((decide (x8>(0:Int))),[(⟨#[44]⟩:ByteArray)],o0_0_0,())) fun y10=>
 bif (decide (0≤x8)&&decide (x8<(p1_6.length:Int))) then
 let e11:Int:=(List.getD p1_6 (Int.toNat x8) (0:Int))
 Option.bind (strconv_Itoa.F (e11,())) fun y12=>
 Option.bind (aK.F ([y12.1],y10.1,())) fun y13=>
 some (.inl (y13.1,()))
 else none:Option (((List ByteArray)×Unit)⊕_)) fun r14=>match r14 with
 | .inl (o0_0_0_14,_)=>
 (let e15:Int:=(IntKind.i64.wrap (x8+(1:Int)))
 some (.inl (e15,o0_0_0_14,())))
 | .inr r=>some r
 else
 Option.map Sum.inr (Option.bind (aJ.F (p1_7,[(⟨#[103,114,111,117,112]⟩:ByteArray)],o0_0_0,())) fun y16=>
 bE (S:=Int×(List ByteArray)×Unit) (fun (x8,o0_0_0,_)=>
 (bif (decide (x8<(p1_8.length:Int))) then
 Option.bind (
 Option.bind (aJ.F ((decide (x8>(0:Int))),[(⟨#[44]⟩:ByteArray)],o0_0_0,())) fun y17=>
 bif (decide (0≤x8)&&decide (x8<(p1_8.length:Int))) then
 let e18:ct:=(List.getD p1_8 (Int.toNat x8) ei.z)
 Option.bind (dj.F (e18.1,[(⟨#[99,111,117,110,116]⟩:ByteArray),(⟨#[115,117,109]⟩:ByteArray),(⟨#[109,105,110]⟩:ByteArray),(⟨#[109,97,120]⟩:ByteArray)],())) fun y19=>
 Option.bind (aK.F ([y19.1],y17.1,())) fun y20=>
 Option.bind (strconv_Itoa.F (e18.2,())) fun y21=>
 Option.bind (aJ.F ((e18.1 !=(0:Int)),[y21.1],y20.1,())) fun y22=>
 some (.inl (y22.1,()))
 else none:Option (((List ByteArray)×Unit)⊕_)) fun r23=>match r23 with
 | .inl (o0_0_0_23,_)=>
 (let e24:Int:=(IntKind.i64.wrap (x8+(1:Int)))
 some (.inl (e24,o0_0_0_23,())))
 | .inr r=>some r
 else
 some (.inr (o0_0_0,())))) ((0:Int),y16.1,())))) ((0:Int),y9.1,()))
 | .inr r=>some r)
 | .inr r=>some r
noncomputable def aL.F:=stk aL.B
theorem aL.eq:aL.F=aL.B:=aN _
noncomputable def aL.ins:Nat→List (Option dU)→cp→Option (Code×List ResultVar×H):=fun g xs hp=>bif Nat.beq g 96&&nu xs hp 2 102 then some (Tryz.f96.body.getD .skip,Tryz.f96.results.toList,(.s none .n (.b (.l ⟨[(0,.v false [.ptr 0 0]),(8,.v false [.int .i64])],[(0,true,.box 127 [.ref 1]),(1,false,.arr 9 .str)],[2,7],2,[]⟩ (.s none .n (.s none .n (.s (some ⟨[(0,.v false [.ptr 0 0])],[(0,true,.box 127 [.ref 1]),(1,false,.arr 9 .str)],[2,7,8],2,[]⟩) .n .n))))))) else bif Nat.beq g 96&&nu xs hp 2 103 then some (Tryz.f96.body.getD .skip,Tryz.f96.results.toList,(.s none .n (.b (.l ⟨[(0,.v false [.ptr 0 0]),(8,.v false [.int .i64])],[(0,true,.box 127 [.ref 1]),(1,false,.arr 9 .str)],[2,7],2,[]⟩ (.s none .n (.s none .n (.s (some ⟨[(0,.v false [.ptr 0 0])],[(0,true,.box 127 [.ref 1]),(1,false,.arr 9 .str)],[2,7,8],2,[]⟩) .n .n))))))) else bif Nat.beq g 102 then some (Tryz.f102.body.getD .skip,Tryz.f102.results.toList,.n) else bif Nat.beq g 103 then some (Tryz.f103.body.getD .skip,Tryz.f103.results.toList,.n) else none
theorem aL.ins_ok:∀n xs hp code res h,aL.ins n xs hp=some (code,res,h)→∃nt,oc PP n code res nt:=by
 intro n xs hp code res h e
 unfold aL.ins at e
 cases e0:(Nat.beq n 96&&nu xs hp 2 102) with
 |true=>rw [e0] at e;cases e;rw [Nat.eq_of_beq_eq_true (Bool.and_eq_true_iff.1 e0).1];exact ⟨_,eN (by kernel_rfl) (by kernel_rfl) (by kernel_rfl) (by kernel_rfl)⟩
 |false=>
 rw [e0] at e
 cases e1:(Nat.beq n 96&&nu xs hp 2 103) with
 |true=>rw [e1] at e;cases e;rw [Nat.eq_of_beq_eq_true (Bool.and_eq_true_iff.1 e1).1];exact ⟨_,eN (by kernel_rfl) (by kernel_rfl) (by kernel_rfl) (by kernel_rfl)⟩
 |false=>
 rw [e1] at e
 cases e2:(Nat.beq n 102) with
 |true=>rw [e2] at e;cases e;rw [Nat.eq_of_beq_eq_true e2];exact ⟨_,eN (by kernel_rfl) (by kernel_rfl) (by kernel_rfl) (by kernel_rfl)⟩
 |false=>
 rw [e2] at e
 cases e3:(Nat.beq n 103) with
 |true=>rw [e3] at e;cases e;rw [Nat.eq_of_beq_eq_true e3];exact ⟨_,eN (by kernel_rfl) (by kernel_rfl) (by kernel_rfl) (by kernel_rfl)⟩
 |false=>
 rw [e3] at e
 cases e
theorem aL.ev (x:TS aL.si):evF fC (jZ fC aL.ins (jZ fC aL.ins (jZ fC aL.ins lz))) (Tryz.f79.body.getD .skip) Tryz.f79.results.toList aL.h aL.si aL.so x=aL.B x:=by kernel_rfl
theorem aL.fn:FnO 79 Tryz.f79:=fnO (by kernel_rfl) (by kernel_rfl)
theorem aL.ok:aB PP 79 ⟨2,aL.si,aL.so,aL.F⟩:=tB ek (eJ ek (eJ ek (eJ ek (fi _ _) (eo ek mixed) aL.ins_ok) (eo ek mixed) aL.ins_ok) (eo ek mixed) aL.ins_ok) mixed aL.fn aL.h (by kernel_rfl) aL.ev
noncomputable def kS:SpL:=(79,[],⟨2,aL.si,aL.so,aL.F⟩)::ko
noncomputable abbrev lW:=cq kS sq0
theorem kT:bM PP lW:=ek.consS [] aL.fn.enters aL.ok
def aI.si:Sh:=⟨[(0,.v false [.ptr 0 0]),(1,.v false [.int .i64])],[(0,true,.box 181 [.str,.int .i64])],[],1,[]⟩
def aI.so:Sh:=⟨[(0,.v false [.int .u8])],[(0,true,.box 181 [.str,.int .i64])],[],1001,[(0,0)]⟩
def aI.h:H:=.n
noncomputable def aI.B:Int×ByteArray×Int×Unit→Option (Int×ByteArray×Int×Unit):=fun (p1,o0_0,o0_1,_)=>
 let e1:Int:=(IntKind.i64.wrap (o0_1+p1))
 (bif (decide (e1≥(o0_0.size:Int))) then
 some ((0:Int),o0_0,o0_1,())
 else
 let e2:Int:=(IntKind.i64.wrap (o0_1+p1))
 bif (decide (0≤e2)&&decide (e2<(o0_0.size:Int))) then
 let e3:Int:=(eK o0_0 (Int.toNat e2))
 some (e3,o0_0,o0_1,())
 else none)
noncomputable def aI.F:=stk aI.B
theorem aI.eq:aI.F=aI.B:=aN _
theorem aI.ev (x:TS aI.si):evI lW Tryz.f156 aI.h aI.si aI.so x=aI.B x:=by kernel_rfl
theorem aI.fn:FnO 156 Tryz.f156:=fnO (by kernel_rfl) (by kernel_rfl)
theorem aI.ok:aB PP 156 ⟨2,aI.si,aI.so,aI.F⟩:=okI kT aI.fn aI.h (by kernel_rfl) aI.ev
noncomputable def kU:SpL:=(156,[],⟨2,aI.si,aI.so,aI.F⟩)::kS
noncomputable abbrev lX:=cq kU sq0
theorem kV:bM PP lX:=kT.consS [] aI.fn.enters aI.ok
def bo.si:Sh:=⟨[(0,.v false [.ptr 0 0])],[(0,true,.box 181 [.str,.int .i64])],[],1,[]⟩
def bo.so:Sh:=⟨[(0,.tup [(true,[.int .i64,.str,.int .i64,.int .i64,.str]),(false,[.bool])])],[(0,true,.box 181 [.str,.int .i64])],[],1001,[(0,0)]⟩
def bo.h:H:=.n
noncomputable def bo.B:ByteArray×Int×Unit→Option (Int×ByteArray×Int×Int×ByteArray×Bool×ByteArray×Int×Unit):=fun (o0_0,o0_1,_)=>
 Option.bind (be.F ([(1:Int),(2:Int),(3:Int)],o0_0,o0_1,())) fun y1=>
 some ((0:Int),y1.1,(0:Int),(0:Int),(⟨#[]⟩:ByteArray),(decide ((y1.1.size:Int)≤(30:Int))),y1.2.1,y1.2.2.1,())
noncomputable def bo.F:=stk bo.B
theorem bo.eq:bo.F=bo.B:=aN _
theorem bo.ev (x:TS bo.si):evI lX Tryz.f157 bo.h bo.si bo.so x=bo.B x:=by kernel_rfl
theorem bo.fn:FnO 157 Tryz.f157:=fnO (by kernel_rfl) (by kernel_rfl)
theorem bo.ok:aB PP 157 ⟨1,bo.si,bo.so,bo.F⟩:=okI kV bo.fn bo.h (by kernel_rfl) bo.ev
noncomputable def kW:SpL:=(157,[],⟨1,bo.si,bo.so,bo.F⟩)::kU
noncomputable abbrev se:=cq kW sq0
theorem ri:bM PP se:=kV.consS [] bo.fn.enters bo.ok
def bV.si:Sh:=⟨[(0,.v false [.str])],[],[],0,[]⟩
def bV.so:Sh:=⟨[(0,.tup [(false,[.int .i64]),(false,[.ifc])])],[],[],1000,[]⟩
noncomputable def bV.B:TS bV.si→Option (TS bV.so):=zM
noncomputable def bV.F:=stk bV.B
theorem bV.eq:bV.F=bV.B:=aN _
theorem bV.ok:aB PP 171 ⟨1,bV.si,bV.so,bV.F⟩:=by
 rw [bV.eq]
 exact Jd
theorem bV.en:Lv.nY PP 171:=⟨_,Tryz.func171,by kernel_rfl,by decide⟩
noncomputable def pq:SpL:=(171,[],⟨1,bV.si,bV.so,bV.F⟩)::kW
noncomputable abbrev qN:=cq pq sq0
theorem pr:bM PP qN:=ri.consS [] bV.en bV.ok
def aQ.si:Sh:=⟨[(0,.v false [.ptr 0 0])],[(0,true,.box 181 [.str,.int .i64])],[],1,[]⟩
def aQ.so:Sh:=⟨[(0,.tup [(true,[.int .i64,.str,.int .i64,.int .i64,.str]),(false,[.bool])])],[(0,true,.box 181 [.str,.int .i64])],[],1001,[(0,0)]⟩
def aQ.h:H:=(.s none .n (.s none .n (.s (some ⟨[(0,.v false [.ptr 0 0]),(4,.v false [.str])],[(0,true,.box 181 [.str,.int .i64])],[2],1,[]⟩) .n .n)))
noncomputable def aQ.B:ByteArray×Int×Unit→Option (Int×ByteArray×Int×Int×ByteArray×Bool×ByteArray×Int×Unit):=fun (o0_0,o0_1,_)=>
 Option.bind (
 Option.bind (aI.F ((0:Int),o0_0,o0_1,())) fun y1=>
 (bif (y1.1==(45:Int)) then
 let e2:Int:=(IntKind.i64.wrap (y1.2.2.1+(1:Int)))
 some (.inl ((⟨#[45]⟩:ByteArray),y1.2.1,e2,()))
 else
 some (.inl ((⟨#[]⟩:ByteArray),y1.2.1,y1.2.2.1,()))):Option ((ByteArray×ByteArray×Int×Unit)⊕_)) fun r3=>match r3 with
 | .inl (x4_3,o0_0_0_3,o0_0_1_3,_)=>
 (Option.bind (be.F ([(2:Int)],o0_0_0_3,o0_0_1_3,())) fun y4=>
 bif (!decide (((x4_3.size+y4.1.size:Nat):Int)>IntKind.i64.max)) then
 let e5:ByteArray:=(x4_3++y4.1)
 Option.bind (bV.F (e5,())) fun y6=>
 (bif y6.2.1 then
 Option.bind (strconv_Itoa.F (y6.1,())) fun y7=>
 some ((1:Int),(⟨#[]⟩:ByteArray),(2:Int),y6.1,(⟨#[]⟩:ByteArray),(y7.1.toList==e5.toList),y4.2.1,y4.2.2.1,())
 else
 some ((1:Int),(⟨#[]⟩:ByteArray),(2:Int),y6.1,(⟨#[]⟩:ByteArray),false,y4.2.1,y4.2.2.1,()))
 else none)
 | .inr r=>some r
noncomputable def aQ.F:=stk aQ.B
theorem aQ.eq:aQ.F=aQ.B:=aN _
theorem aQ.ev (x:TS aQ.si):evI qN Tryz.f158 aQ.h aQ.si aQ.so x=aQ.B x:=by kernel_rfl
theorem aQ.fn:FnO 158 Tryz.f158:=fnO (by kernel_rfl) (by kernel_rfl)
theorem aQ.ok:aB PP 158 ⟨1,aQ.si,aQ.so,aQ.F⟩:=okI pr aQ.fn aQ.h (by kernel_rfl) aQ.ev
noncomputable def jO:SpL:=(158,[],⟨1,aQ.si,aQ.so,aQ.F⟩)::pq
noncomputable abbrev qA:=cq jO sq0
theorem pt:bM PP qA:=pr.consS [] aQ.fn.enters aQ.ok
def aV.si:Sh:=⟨[(0,.v false [.ptr 0 0])],[(0,true,.box 153 [.np 0,.ref 1]),(1,true,.arr 5 (.int .u8))],[],2,[]⟩
def aV.so:Sh:=⟨[(0,.v false [.str])],[],[],1000,[]⟩
noncomputable def aV.B:TS aV.si→Option (TS aV.so):=fun (bs,_)=>if (∀x∈bs,0≤x∧x<256) then some (bytesOf bs,()) else none
noncomputable def aV.F:=stk aV.B
theorem aV.eq:aV.F=aV.B:=aN _
theorem aV.ok:aB PP 106 ⟨1,aV.si,aV.so,aV.F⟩:=by
 rw [aV.eq]
 exact FD
theorem aV.en:Lv.nY PP 106:=⟨_,Tryz.func106,by kernel_rfl,by decide⟩
noncomputable def iJ:SpL:=(106,[],⟨1,aV.si,aV.so,aV.F⟩)::jO
noncomputable abbrev m5:=cq iJ sq0
theorem mF:bM PP m5:=pt.consS [] aV.en aV.ok
def aH.si:Sh:=⟨[(0,.v false [.ptr 0 0])],[(0,true,.box 153 [.np 0,.ref 1]),(1,true,.arr 5 (.int .u8))],[],2,[]⟩
def aH.so:Sh:=⟨[(0,.tup [])],[(0,true,.box 153 [.np 0,.ref 1000]),(1000,true,.arr 5 (.int .u8))],[],1001,[]⟩
noncomputable def aH.B:TS aH.si→Option (TS aH.so):=fun (bs,_)=>some (bs,())
noncomputable def aH.F:=stk aH.B
theorem aH.eq:aH.F=aH.B:=aN _
theorem aH.ok:aB PP 130 ⟨1,aH.si,aH.so,aH.F⟩:=by
 rw [aH.eq]
 exact Hs
theorem aH.en:Lv.nY PP 130:=⟨_,Tryz.func130,by kernel_rfl,by decide⟩
noncomputable def g9:SpL:=(130,[],⟨1,aH.si,aH.so,aH.F⟩)::iJ
noncomputable abbrev ik:=cq g9 sq0
theorem hY:bM PP ik:=mF.consS [] aH.en aH.ok
def au.si:Sh:=⟨[(0,.v false [.ptr 0 0]),(1,.v false [.int .u8])],[(0,true,.box 153 [.np 0,.ref 1]),(1,true,.arr 5 (.int .u8))],[],2,[]⟩
def au.so:Sh:=⟨[(0,.v false [.ifc])],[(0,true,.box 153 [.np 0,.ref 1001]),(1001,false,.arr 5 (.int .u8))],[],1002,[(0,0)]⟩
def au.h:H:=.n
noncomputable def au.B:Int×(List Int)×Unit→Option (Bool×(List Int)×Unit):=fun (p1,o0_1,_)=>
 Option.bind (aH.F (o0_1,())) fun y1=>
 bif (Nat.ble (y1.1.length+ [p1].length) 140737488355328) then
 some (true,(y1.1++ [p1]),())
 else none
noncomputable def au.F:=stk au.B
theorem au.eq:au.F=au.B:=aN _
theorem au.ev (x:TS au.si):evI ik Tryz.f172 au.h au.si au.so x=au.B x:=by kernel_rfl
theorem au.fn:FnO 172 Tryz.f172:=fnO (by kernel_rfl) (by kernel_rfl)
theorem au.ok:aB PP 172 ⟨2,au.si,au.so,au.F⟩:=okI hY au.fn au.h (by kernel_rfl) au.ev
noncomputable def hZ:SpL:=(172,[],⟨2,au.si,au.so,au.F⟩)::g9
noncomputable abbrev il:=cq hZ sq0
theorem ia:bM PP il:=hY.consS [] au.fn.enters au.ok
def aZ.si:Sh:=⟨[(0,.v false [.ptr 0 0])],[(0,true,.box 181 [.str,.int .i64])],[],1,[]⟩
def aZ.so:Sh:=⟨[(0,.tup [(true,[.int .i64,.str,.int .i64,.int .i64,.str]),(false,[.bool])])],[(0,true,.box 181 [.str,.int .i64])],[],1001,[(0,0)]⟩
def aZ.h:H:=(.s none .n (.s none .n (.s (some ⟨[],[(0,true,.box 181 [.str,.int .i64]),(1,true,.box 153 [.np 1,.ref 2]),(2,false,.arr 5 (.int .u8))],[2],3,[(0,0),(1,1001)]⟩) (.s none .n (.b (.l ⟨[(0,.v false [.ptr 0 0]),(4,.v false [.ptr 1 0])],[(0,true,.box 181 [.str,.int .i64]),(1,true,.box 153 [.np 1,.ref 2]),(2,false,.arr 5 (.int .u8))],[2],3,[]⟩ (.s none .n (.s (some ⟨[(0,.v false [.ptr 0 0]),(4,.v false [.ptr 1 0])],[(0,true,.box 181 [.str,.int .i64]),(1,true,.box 153 [.np 1,.ref 2]),(2,false,.arr 5 (.int .u8))],[2],3,[]⟩) .n .n))))) .n)))
noncomputable def aZ.B:ByteArray×Int×Unit→Option (Int×ByteArray×Int×Int×ByteArray×Bool×ByteArray×Int×Unit):=fun (o0_0,o0_1,_)=>
 Option.bind (
 let e1:Int:=(IntKind.i64.wrap (o0_1+(1:Int)))
 bE (S:=ByteArray×Int×(List Int)×Unit) (fun (o0_0_0,o0_0_1,o4_0_1,_)=>
 (bif (decide (o0_0_1<(o0_0_0.size:Int))) then
 Option.bind (
 Option.bind (aI.F ((0:Int),o0_0_0,o0_0_1,())) fun y2=>
 (bif (y2.1==(39:Int)) then
 let e3:Int:=(IntKind.i64.wrap (y2.2.2.1+(1:Int)))
 Option.bind (aI.F ((0:Int),y2.2.1,e3,())) fun y4=>
 (bif (y4.1 !=(39:Int)) then
 Option.bind (aV.F (o4_0_1,())) fun y5=>
 Option.bind (cy.F ((3:Int),(0:Int),y5.1,())) fun y6=>
 some (.inr (.inr (.inr ((1:Int),(⟨#[]⟩:ByteArray),(3:Int),(0:Int),y5.1,y6.1,y4.2.1,y4.2.2.1,()))))
 else
 (bif (decide (y4.2.2.1≥(y4.2.1.size:Int))) then
 Option.bind (aV.F (o4_0_1,())) fun y7=>
 Option.bind (cy.F ((3:Int),(0:Int),y7.1,())) fun y8=>
 some (.inr (.inr (.inr ((1:Int),(⟨#[]⟩:ByteArray),(3:Int),(0:Int),y7.1,y8.1,y4.2.1,y4.2.2.1,()))))
 else
 Option.bind (au.F (y2.1,o4_0_1,())) fun y9=>
 some (.inl (y4.2.1,y4.2.2.1,y9.2.1,()))))
 else
 Option.bind (au.F (y2.1,o4_0_1,())) fun y10=>
 some (.inl (y2.2.1,y2.2.2.1,y10.2.1,()))):Option ((ByteArray×Int×(List Int)×Unit)⊕_)) fun r11=>match r11 with
 | .inl (o0_0_0_11,o0_0_1_11,o4_0_1_11,_)=>
 (let e12:Int:=(IntKind.i64.wrap (o0_0_1_11+(1:Int)))
 some (.inl (o0_0_0_11,e12,o4_0_1_11,())))
 | .inr r=>some r
 else
 some (.inr (.inl (o0_0_0,o0_0_1,o4_0_1,()))))) (o0_0,e1,[],()):Option ((ByteArray×Int×(List Int)×Unit)⊕_)) fun r13=>match r13 with
 | .inl (oin_0_0_13,oin_0_1_13,oin_1001_1_13,_)=>
 (some ((0:Int),(⟨#[]⟩:ByteArray),(0:Int),(0:Int),(⟨#[]⟩:ByteArray),false,oin_0_0_13,oin_0_1_13,()))
 | .inr r=>some r
noncomputable def aZ.F:=stk aZ.B
theorem aZ.eq:aZ.F=aZ.B:=aN _
theorem aZ.ev (x:TS aZ.si):evI il Tryz.f159 aZ.h aZ.si aZ.so x=aZ.B x:=by kernel_rfl
theorem aZ.fn:FnO 159 Tryz.f159:=fnO (by kernel_rfl) (by kernel_rfl)
theorem aZ.ok:aB PP 159 ⟨1,aZ.si,aZ.so,aZ.F⟩:=okI ia aZ.fn aZ.h (by kernel_rfl) aZ.ev
noncomputable def kX:SpL:=(159,[],⟨1,aZ.si,aZ.so,aZ.F⟩)::hZ
noncomputable abbrev lY:=cq kX sq0
theorem kY:bM PP lY:=ia.consS [] aZ.fn.enters aZ.ok
def bc.si:Sh:=⟨[(0,.v false [.ptr 0 0])],[(0,true,.box 181 [.str,.int .i64])],[],1,[]⟩
def bc.so:Sh:=⟨[(0,.tup [(true,[.int .i64,.str,.int .i64,.int .i64,.str]),(false,[.bool])])],[(0,true,.box 181 [.str,.int .i64])],[],1001,[(0,0)]⟩
def bc.h:H:=(.s none .n (.s none .n (.s none (.s none .n (.b (.s none .n (.c .n (.s (some ⟨[(0,.v false [.ptr 0 0]),(18,.v false [.bool])],[(0,true,.box 181 [.str,.int .i64])],[2,5],1,[]⟩) .n .n))))) .n)))
noncomputable def bc.B:ByteArray×Int×Unit→Option (Int×ByteArray×Int×Int×ByteArray×Bool×ByteArray×Int×Unit):=fun (o0_0,o0_1,_)=>
 Option.bind (aI.F ((0:Int),o0_0,o0_1,())) fun y1=>
 Option.bind (ep.F (y1.1,())) fun y2=>
 (bif (y2.1==(1:Int)) then
 Option.bind (bo.F (y1.2.1,y1.2.2.1,())) fun y3=>
 some (y3.1,y3.2.1,y3.2.2.1,y3.2.2.2.1,y3.2.2.2.2.1,y3.2.2.2.2.2.1,y3.2.2.2.2.2.2.1,y3.2.2.2.2.2.2.2.1,())
 else
 Option.bind (
 (bif (y2.1==(2:Int)) then
 some (.inl ((y2.1==(2:Int)),y1.2.1,y1.2.2.1,()))
 else
 (bif (y1.1==(45:Int)) then
 Option.bind (aI.F ((1:Int),y1.2.1,y1.2.2.1,())) fun y4=>
 Option.bind (ep.F (y4.1,())) fun y5=>
 some (.inl ((y5.1==(2:Int)),y4.2.1,y4.2.2.1,()))
 else
 some (.inl (false,y1.2.1,y1.2.2.1,())))):Option ((Bool×ByteArray×Int×Unit)⊕_)) fun r6=>match r6 with
 | .inl (x18_6,o0_0_0_6,o0_0_1_6,_)=>
 ((bif x18_6 then
 Option.bind (aQ.F (o0_0_0_6,o0_0_1_6,())) fun y7=>
 some (y7.1,y7.2.1,y7.2.2.1,y7.2.2.2.1,y7.2.2.2.2.1,y7.2.2.2.2.2.1,y7.2.2.2.2.2.2.1,y7.2.2.2.2.2.2.2.1,())
 else
 (bif (y2.1==(4:Int)) then
 Option.bind (aZ.F (o0_0_0_6,o0_0_1_6,())) fun y8=>
 some (y8.1,y8.2.1,y8.2.2.1,y8.2.2.2.1,y8.2.2.2.2.1,y8.2.2.2.2.2.1,y8.2.2.2.2.2.2.1,y8.2.2.2.2.2.2.2.1,())
 else
 let e9:Int:=(IntKind.i64.wrap (o0_0_1_6+(1:Int)))
 let e10:Int:=(IntKind.i64.wrap (e9-(1:Int)))
 bif (decide (0≤e10)&&(decide (e10≤e9)&&decide (e9≤(o0_0_0_6.size:Int)))) then
 let e11:ByteArray:=(o0_0_0_6.extract (Int.toNat e10) (Int.toNat e9))
 Option.bind (strings_Contains.F ((⟨#[40,41,91,93,44,61,60,43,45,42,63]⟩:ByteArray),e11,())) fun y12=>
 some ((2:Int),e11,(0:Int),(0:Int),(⟨#[]⟩:ByteArray),y12.1,o0_0_0_6,e9,())
 else none)))
 | .inr r=>some r)
noncomputable def bc.F:=stk bc.B
theorem bc.eq:bc.F=bc.B:=aN _
theorem bc.ev (x:TS bc.si):evI lY Tryz.f133 bc.h bc.si bc.so x=bc.B x:=by kernel_rfl
theorem bc.fn:FnO 133 Tryz.f133:=fnO (by kernel_rfl) (by kernel_rfl)
theorem bc.ok:aB PP 133 ⟨1,bc.si,bc.so,bc.F⟩:=okI kY bc.fn bc.h (by kernel_rfl) bc.ev
noncomputable def kq:SpL:=(133,[],⟨1,bc.si,bc.so,bc.F⟩)::kX
noncomputable abbrev kZ:=cq kq sq0
theorem kr:bM PP kZ:=kY.consS [] bc.fn.enters bc.ok
def ea.si:Sh:=⟨[(0,.v false [.str])],[],[],0,[]⟩
def ea.so:Sh:=⟨[(0,.tup [(false,[.ref 1000]),(false,[.int .i64])])],[(1000,false,.arr 111 dA)],[],1001,[]⟩
def ea.h:H:=(.s none .n (.s none .n (.s none .n (.s none .n (.s none (.s none .n (.b (.l ⟨[(4,.v false [.ptr 1 0]),(5,.v false [.ref 0])],[(0,false,.arr 111 dA),(1,true,.box 181 [.str,.int .i64])],[0],2,[]⟩ .n))) .n)))))
noncomputable def ea.B:ByteArray×Unit→Option (Int×(List bH)×Unit):=fun (p0,_)=>
 (bif (decide ((p0.size:Int)>(20000:Int))) then
 some ((60:Int),[],())
 else
 Option.bind (be.F ([(5:Int)],p0,(0:Int),())) fun y1=>
 bE (S:=(List bH)×ByteArray×Int×Unit) (fun (o5_0,o4_0_0,o4_0_1,_)=>
 (bif (decide (o4_0_1<(p0.size:Int))) then
 Option.bind (bc.F (o4_0_0,o4_0_1,())) fun y2=>
 (bif (!y2.2.2.2.2.2.1) then
 some (.inr ((60:Int),[],()))
 else
 bif (Nat.ble (o5_0.length+ [(y2.1,(y2.2.1,(y2.2.2.1,(y2.2.2.2.1,y2.2.2.2.2.1))))].length) 2513169434916) then
 Option.bind (be.F ([(5:Int)],y2.2.2.2.2.2.2.1,y2.2.2.2.2.2.2.2.1,())) fun y3=>
 some (.inl ((o5_0++ [(y2.1,(y2.2.1,(y2.2.2.1,(y2.2.2.2.1,y2.2.2.2.2.1))))]),y3.2.1,y3.2.2.1,()))
 else none)
 else
 some (.inr ((0:Int),o5_0,())))) ([],y1.2.1,y1.2.2.1,()))
noncomputable def ea.F:=stk ea.B
theorem ea.eq:ea.F=ea.B:=aN _
theorem ea.ev (x:TS ea.si):evI kZ Tryz.f107 ea.h ea.si ea.so x=ea.B x:=by kernel_rfl
theorem ea.fn:FnO 107 Tryz.f107:=fnO (by kernel_rfl) (by kernel_rfl)
theorem ea.ok:aB PP 107 ⟨1,ea.si,ea.so,ea.F⟩:=okI kr ea.fn ea.h (by kernel_rfl) ea.ev
noncomputable def yV:SpL:=(107,[],⟨1,ea.si,ea.so,ea.F⟩)::kq
noncomputable abbrev Bp:=cq yV sq0
theorem yW:bM PP Bp:=kr.consS [] ea.fn.enters ea.ok
def bG.si:Sh:=⟨[(0,.v false [.ptr 0 0]),(1,.v false [.sl 9 .str])],[(0,true,.box 162 [.sl 111 dA])],[],1,[]⟩
def bG.so:Sh:=⟨[(0,.v false [.bool])],[(0,true,.box 162 [.sl 111 dA])],[],1001,[(0,0)]⟩
def bG.h:H:=(.s none .n (.s none (.s none .n (.b (.l ⟨[(9,.v false [.int .i64])],[],[0,7,8],0,[]⟩ .n))) .n))
noncomputable def bG.B:(List ByteArray)×(List bH)×Unit→Option (Bool×(List bH)×Unit):=fun (p1,o0,_)=>
 bE (S:=Int×Unit) (fun (x9,_)=>
 (bif (decide (x9<(p1.length:Int))) then
 bif (decide (0≤x9)&&decide (x9<(p1.length:Int))) then
 let e1:ByteArray:=(List.getD p1 (Int.toNat x9) (⟨#[]⟩:ByteArray))
 (bif (decide (x9≥(o0.length:Int))) then
 some (.inr (false,o0,()))
 else
 bif (decide (0≤x9)&&decide (x9<(o0.length:Int))) then
 let e2:bH:=(List.getD o0 (Int.toNat x9) dA.z)
 (bif (e2.1==(1:Int)) then
 some (.inr (false,o0,()))
 else
 bif (decide (0≤x9)&&decide (x9<(o0.length:Int))) then
 let e3:bH:=(List.getD o0 (Int.toNat x9) dA.z)
 (bif (!(e3.2.1.toList==e1.toList)) then
 some (.inr (false,o0,()))
 else
 let e4:Int:=(IntKind.i64.wrap (x9+(1:Int)))
 some (.inl (e4,())))
 else none)
 else none)
 else none
 else
 some (.inr (true,o0,())))) ((0:Int),())
noncomputable def bG.F:=stk bG.B
theorem bG.eq:bG.F=bG.B:=aN _
theorem bG.ev (x:TS bG.si):evI Bp Tryz.f141 bG.h bG.si bG.so x=bG.B x:=by kernel_rfl
theorem bG.fn:FnO 141 Tryz.f141:=fnO (by kernel_rfl) (by kernel_rfl)
theorem bG.ok:aB PP 141 ⟨2,bG.si,bG.so,bG.F⟩:=okI yW bG.fn bG.h (by kernel_rfl) bG.ev
noncomputable def oE:SpL:=(141,[],⟨2,bG.si,bG.so,bG.F⟩)::yV
noncomputable abbrev pu:=cq oE sq0
theorem oG:bM PP pu:=yW.consS [] bG.fn.enters bG.ok
def aA.si:Sh:=⟨[(0,.v false [.ptr 0 0]),(1,.v false [.sl 9 .str])],[(0,true,.box 162 [.sl 111 dA])],[],1,[]⟩
def aA.so:Sh:=⟨[(0,.v false [.bool])],[(0,true,.box 162 [.sl 111 dA])],[],1001,[(0,0)]⟩
def aA.h:H:=.n
noncomputable def aA.B:(List ByteArray)×(List bH)×Unit→Option (Bool×(List bH)×Unit):=fun (p1,o0,_)=>
 Option.bind (bG.F (p1,o0,())) fun y1=>
 (bif (!y1.1) then
 some (false,y1.2.1,())
 else
 bif (decide (0≤(p1.length:Int))&&(decide ((p1.length:Int)≤(y1.2.1.length:Int))&&decide ((y1.2.1.length:Int)≤(y1.2.1.length:Int)))) then
 let e2:List bH:=(List.drop (Int.toNat (p1.length:Int)) (List.take (Int.toNat (y1.2.1.length:Int)) y1.2.1))
 some (true,e2,())
 else none)
noncomputable def aA.F:=stk aA.B
theorem aA.eq:aA.F=aA.B:=aN _
theorem aA.ev (x:TS aA.si):evI pu Tryz.f134 aA.h aA.si aA.so x=aA.B x:=by kernel_rfl
theorem aA.fn:FnO 134 Tryz.f134:=fnO (by kernel_rfl) (by kernel_rfl)
theorem aA.ok:aB PP 134 ⟨2,aA.si,aA.so,aA.F⟩:=okI oG aA.fn aA.h (by kernel_rfl) aA.ev
noncomputable def fT:SpL:=(134,[],⟨2,aA.si,aA.so,aA.F⟩)::oE
noncomputable abbrev m6:=cq fT sq0
theorem lZ:bM PP m6:=oG.consS [] aA.fn.enters aA.ok
def cg.si:Sh:=⟨[(0,.v false [.bool])],[],[],0,[]⟩
def cg.so:Sh:=⟨[(0,.tup [])],[],[],1000,[]⟩
def cg.h:H:=.n
noncomputable def cg.B:Bool×Unit→Option ((Unit)⊕Int):=fun (p0,_)=>
 (bif (!p0) then
 some (.inr (70:Int))
 else
 some (.inl (())))
noncomputable def cg.F:=stk cg.B
theorem cg.eq:cg.F=cg.B:=aN _
theorem cg.ev (x:TS cg.si):qC m6 lz (Tryz.f112.body.getD .skip) Tryz.f112.results.toList cg.h cg.si cg.so x=cg.B x:=by kernel_rfl
theorem cg.fn:FnO 112 Tryz.f112:=fnO (by kernel_rfl) (by kernel_rfl)
theorem cg.ok:ie PP 112 159 ⟨1,cg.si,cg.so,cg.F⟩:=jH lZ (fi _ _) mixed cg.fn cg.h (by kernel_rfl) cg.ev
noncomputable def vX:SqL:=(112,[],⟨1,cg.si,cg.so,cg.F⟩)::sq0
noncomputable abbrev yX:=cq fT vX
theorem vY:bM PP yX:=lZ.consP [] cg.fn.enters cg.ok
def bu.si:Sh:=⟨[(0,.v false [.ptr 0 0]),(1,.v false [.sl 9 .str])],[(0,true,.box 162 [.sl 111 dA])],[],1,[]⟩
def bu.so:Sh:=⟨[(0,.v false [.int .i64])],[(0,true,.box 162 [.sl 111 dA])],[],1001,[(0,0)]⟩
def bu.h:H:=(.s none .n (.s (some ⟨[],[(0,true,.box 162 [.sl 111 dA])],[],1,[(0,0)]⟩) (.s none .n (.b (.l ⟨[(0,.v false [.ptr 0 0]),(9,.v false [.int .i64])],[(0,true,.box 162 [.sl 111 dA])],[7,8],1,[]⟩ .n))) .n))
noncomputable def bu.B:(List ByteArray)×(List bH)×Unit→Option ((Int×(List bH)×Unit)⊕Int):=fun (p1,o0,_)=>
 Option.bind (
 bE (S:=Int×(List bH)×Unit) (fun (x9,o0_0,_)=>
 (bif (decide (x9<(p1.length:Int))) then
 bif (decide (0≤x9)&&decide (x9<(p1.length:Int))) then
 let e1:ByteArray:=(List.getD p1 (Int.toNat x9) (⟨#[]⟩:ByteArray))
 Option.bind (aA.F ([e1],o0_0,())) fun y2=>
 (bif y2.1 then
 some (.inr (.inr (.inl (x9,y2.2.1,()))))
 else
 let e3:Int:=(IntKind.i64.wrap (x9+(1:Int)))
 some (.inl (e3,y2.2.1,())))
 else none
 else
 some (.inr (.inl (o0_0,()))))) ((0:Int),o0,()):Option (((List bH)×Unit)⊕_)) fun r4=>match r4 with
 | .inl (oin_0_4,_)=>
 (Option.bind (cg.F (false,())) fun zy5=>match zy5 with
 | .inl y5=>
 (some (.inl ((0:Int),oin_0_4,())))
 | .inr n6=>some (.inr n6))
 | .inr r=>some r
noncomputable def bu.F:=stk bu.B
theorem bu.eq:bu.F=bu.B:=aN _
theorem bu.ev (x:TS bu.si):qC yX lz (Tryz.f109.body.getD .skip) Tryz.f109.results.toList bu.h bu.si bu.so x=bu.B x:=by kernel_rfl
theorem bu.fn:FnO 109 Tryz.f109:=fnO (by kernel_rfl) (by kernel_rfl)
theorem bu.ok:ie PP 109 159 ⟨2,bu.si,bu.so,bu.F⟩:=jH vY (fi _ _) mixed bu.fn bu.h (by kernel_rfl) bu.ev
noncomputable def m7:SqL:=(109,[],⟨2,bu.si,bu.so,bu.F⟩)::vX
noncomputable abbrev oH:=cq fT m7
theorem m8:bM PP oH:=vY.consP [] bu.fn.enters bu.ok
def bh.si:Sh:=⟨[(0,.v false [.ptr 0 0])],[(0,true,.box 162 [.sl 111 dA])],[],1,[]⟩
def bh.so:Sh:=⟨[(0,.v true [.int .i64,.str,.int .i64,.int .i64,.str])],[(0,true,.box 162 [.sl 111 dA])],[],1001,[(0,0)]⟩
def bh.h:H:=.n
noncomputable def bh.B:(List bH)×Unit→Option ((Int×ByteArray×Int×Int×ByteArray×(List bH)×Unit)⊕Int):=fun (o0,_)=>
 Option.bind (cg.F ((decide ((o0.length:Int)>(0:Int))),())) fun zy1=>match zy1 with
 | .inl y1=>
 (bif (decide (0≤(0:Int))&&decide ((0:Int)<(o0.length:Int))) then
 let e2:bH:=(List.getD o0 0 dA.z)
 bif (decide (0≤(1:Int))&&(decide ((1:Int)≤(o0.length:Int))&&decide ((o0.length:Int)≤(o0.length:Int)))) then
 let e3:List bH:=(List.drop (Int.toNat (1:Int)) (List.take (Int.toNat (o0.length:Int)) o0))
 some (.inl (e2.1,e2.2.1,e2.2.2.1,e2.2.2.2.1,e2.2.2.2.2,e3,()))
 else none
 else none)
 | .inr n4=>some (.inr n4)
noncomputable def bh.F:=stk bh.B
theorem bh.eq:bh.F=bh.B:=aN _
theorem bh.ev (x:TS bh.si):qC oH lz (Tryz.f161.body.getD .skip) Tryz.f161.results.toList bh.h bh.si bh.so x=bh.B x:=by kernel_rfl
theorem bh.fn:FnO 161 Tryz.f161:=fnO (by kernel_rfl) (by kernel_rfl)
theorem bh.ok:ie PP 161 159 ⟨1,bh.si,bh.so,bh.F⟩:=jH m8 (fi _ _) mixed bh.fn bh.h (by kernel_rfl) bh.ev
noncomputable def fe:SqL:=(161,[],⟨1,bh.si,bh.so,bh.F⟩)::m7
noncomputable abbrev m9:=cq fT fe
theorem l0:bM PP m9:=m8.consP [] bh.fn.enters bh.ok
def ci.si:Sh:=⟨[],[],[],0,[]⟩
def ci.so:Sh:=⟨[(0,.v false [.ref 1000])],[(1000,false,.arr 9 .str)],[],1001,[]⟩
def ci.h:H:=.n
noncomputable def ci.B:Unit→Option ((List ByteArray)×Unit):=fun (_)=>
 some ([(⟨#[116,97,98,108,101]⟩:ByteArray),(⟨#[99,104,101,99,107]⟩:ByteArray),(⟨#[118,105,101,119]⟩:ByteArray),(⟨#[102,114,111,109]⟩:ByteArray),(⟨#[106,111,105,110]⟩:ByteArray),(⟨#[111,110]⟩:ByteArray),(⟨#[119,104,101,114,101]⟩:ByteArray),(⟨#[112,105,99,107]⟩:ByteArray),(⟨#[103,114,111,117,112]⟩:ByteArray),(⟨#[98,111,111,108]⟩:ByteArray),(⟨#[105,110,116]⟩:ByteArray),(⟨#[116,101,120,116]⟩:ByteArray),(⟨#[110,117,108,108]⟩:ByteArray),(⟨#[117,110,105,113,117,101]⟩:ByteArray),(⟨#[114,101,102]⟩:ByteArray),(⟨#[114,101,115,116,114,105,99,116]⟩:ByteArray),(⟨#[99,97,115,99,97,100,101]⟩:ByteArray),(⟨#[115,101,116,110,117,108,108]⟩:ByteArray),(⟨#[99,111,117,110,116]⟩:ByteArray),(⟨#[115,117,109]⟩:ByteArray),(⟨#[109,105,110]⟩:ByteArray),(⟨#[109,97,120]⟩:ByteArray),(⟨#[116,114,117,101]⟩:ByteArray),(⟨#[102,97,108,115,101]⟩:ByteArray),(⟨#[97,110,100]⟩:ByteArray),(⟨#[111,114]⟩:ByteArray),(⟨#[110,111,116]⟩:ByteArray)],())
noncomputable def ci.F:=stk ci.B
theorem ci.eq:ci.F=ci.B:=aN _
theorem ci.ev (x:TS ci.si):evI m9 Tryz.f175 ci.h ci.si ci.so x=ci.B x:=by kernel_rfl
theorem ci.fn:FnO 175 Tryz.f175:=fnO (by kernel_rfl) (by kernel_rfl)
theorem ci.ok:aB PP 175 ⟨0,ci.si,ci.so,ci.F⟩:=okI l0 ci.fn ci.h (by kernel_rfl) ci.ev
noncomputable def pv:SpL:=(175,[],⟨0,ci.si,ci.so,ci.F⟩)::fT
noncomputable abbrev qO:=cq pv fe
theorem pw:bM PP qO:=l0.consS [] ci.fn.enters ci.ok
def aq.si:Sh:=⟨[(0,.v false [.sl 9 .str]),(1,.v false [.str])],[],[],0,[]⟩
def aq.so:Sh:=⟨[(0,.v false [.int .i64])],[],[],1000,[]⟩
def aq.h:H:=(.s none .n (.s none (.s none .n (.b (.l ⟨[(8,.v false [.int .i64])],[],[0,1,7],0,[]⟩ .n))) .n))
noncomputable def aq.B:(List ByteArray)×ByteArray×Unit→Option (Int×Unit):=fun (p0,p1,_)=>
 bE (S:=Int×Unit) (fun (x8,_)=>
 (bif (decide (x8<(p0.length:Int))) then
 bif (decide (0≤x8)&&decide (x8<(p0.length:Int))) then
 let e1:ByteArray:=(List.getD p0 (Int.toNat x8) (⟨#[]⟩:ByteArray))
 (bif (p1.toList==e1.toList) then
 some (.inr (x8,()))
 else
 let e2:Int:=(IntKind.i64.wrap (x8+(1:Int)))
 some (.inl (e2,())))
 else none
 else
 some (.inr ((-1:Int),())))) ((0:Int),())
noncomputable def aq.F:=stk aq.B
theorem aq.eq:aq.F=aq.B:=aN _
theorem aq.ev (x:TS aq.si):evI qO Tryz.f188 aq.h aq.si aq.so x=aq.B x:=by kernel_rfl
theorem aq.fn:FnO 188 Tryz.f188:=fnO (by kernel_rfl) (by kernel_rfl)
theorem aq.ok:aB PP 188 ⟨2,aq.si,aq.so,aq.F⟩:=okI pw aq.fn aq.h (by kernel_rfl) aq.ev
noncomputable def gu:SpL:=(188,[],⟨2,aq.si,aq.so,aq.F⟩)::pv
noncomputable abbrev gD:=cq gu fe
theorem gv:bM PP gD:=pw.consS [] aq.fn.enters aq.ok
end Go.Proofs.Ytleadolkcmagfaa
