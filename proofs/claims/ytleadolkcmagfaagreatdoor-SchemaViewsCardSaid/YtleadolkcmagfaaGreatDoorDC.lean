import Derived.Test.YtleadolkcmagfaaGreatDoorDB
set_option linter.all false
set_option linter.unusedVariables false
set_option linter.unusedSimpArgs false
set_option linter.unusedSectionVars false
set_option maxRecDepth 100000
namespace Go.Proofs.Ytleadolkcmagfaa
open Go Lv Go.Proofs Go.RowKit Go.Shelf
def dH.si:Sh:=⟨[(0,.v true [.int .i64,.str,.sl 41 bR,.sl 32 (.sl 78 bD),.str,.str,.str,.int .i64,.int .i64,.sl 78 bD,.sl 3 (.int .i64),.bool,.sl 66 ei])],[],[],0,[]⟩
def dH.so:Sh:=⟨[(0,.v false [.str])],[],[],1000,[]⟩
def dH.h:H:=.n
noncomputable def dH.B:Int×ByteArray×(List ba)×(List (List ae))×ByteArray×ByteArray×ByteArray×Int×Int×(List ae)×(List Int)×Bool×(List ct)×Unit→Option (ByteArray×Unit):=fun (p0_0,p0_1,p0_2,p0_3,p0_4,p0_5,p0_6,p0_7,p0_8,p0_9,p0_10,p0_11,p0_12,_)=>
 (bif (p0_0==(0:Int)) then
 some (p0_1,())
 else
 some (p0_4,()))
noncomputable def dH.F:Int×ByteArray×(List ba)×(List (List ae))×ByteArray×ByteArray×ByteArray×Int×Int×(List ae)×(List Int)×Bool×(List ct)×Unit→Option (ByteArray×Unit):=stk dH.B
theorem dH.eq:dH.F=dH.B:=aN _
theorem dH.ev (x:TS dH.si):evI Bq Tryz.f13 dH.h dH.si dH.so x=dH.B x:=by kernel_rfl
theorem dH.fn:FnO 13 Tryz.f13:=fnO (by kernel_rfl) (by kernel_rfl)
theorem dH.ok:aB PP 13 ⟨1,dH.si,dH.so,dH.F⟩:=okI zb dH.fn dH.h (by kernel_rfl) dH.ev
noncomputable def we:SpL:=(13,[],⟨1,dH.si,dH.so,dH.F⟩)::za
noncomputable abbrev zc:=cq we av
theorem wg:bM PP zc:=zb.consS [] dH.fn.enters dH.ok
def em.si:Sh:=⟨[(0,.v false [.sl 38 fB]),(1,.v false [.sl 38 fB])],[],[],0,[]⟩
def em.so:Sh:=⟨[(0,.v false [.bool])],[],[],1000,[]⟩
def em.h:H:=(.s none .n (.s none .n (.s none (.s none .n (.b (.l ⟨[(5,.v false [.int .i64])],[],[0,1],0,[]⟩ .n))) .n)))
noncomputable def em.B:(List dX)×(List dX)×Unit→Option (Bool×Unit):=fun (p0,p1,_)=>
 (bif ((p0.length:Int) !=(p1.length:Int)) then
 some (false,())
 else
 bE (S:=Int×Unit) (fun (x5,_)=>
 (bif (decide (x5<(p0.length:Int))) then
 bif (decide (0≤x5)&&decide (x5<(p0.length:Int))) then
 let e1:dX:=(List.getD p0 (Int.toNat x5) fB.z)
 bif (decide (0≤x5)&&decide (x5<(p1.length:Int))) then
 let e2:dX:=(List.getD p1 (Int.toNat x5) fB.z)
 Option.bind (dy.F (e1.1,e1.2.1.1,e1.2.1.2.1,e1.2.1.2.2,e1.2.2.1,e1.2.2.2.1,e1.2.2.2.2.1,e1.2.2.2.2.2.1.1,e1.2.2.2.2.2.1.2,e1.2.2.2.2.2.2.1,e1.2.2.2.2.2.2.2.1,e1.2.2.2.2.2.2.2.2.1,e1.2.2.2.2.2.2.2.2.2,e2.1,e2.2.1.1,e2.2.1.2.1,e2.2.1.2.2,e2.2.2.1,e2.2.2.2.1,e2.2.2.2.2.1,e2.2.2.2.2.2.1.1,e2.2.2.2.2.2.1.2,e2.2.2.2.2.2.2.1,e2.2.2.2.2.2.2.2.1,e2.2.2.2.2.2.2.2.2.1,e2.2.2.2.2.2.2.2.2.2,())) fun y3=>
 (bif (!y3.1) then
 some (.inr (false,()))
 else
 let e4:Int:=(IntKind.i64.wrap (x5+(1:Int)))
 some (.inl (e4,())))
 else none
 else none
 else
 some (.inr (true,())))) ((0:Int),()))
noncomputable def em.F:(List dX)×(List dX)×Unit→Option (Bool×Unit):=stk em.B
theorem em.ev (x:TS em.si):evI zc Tryz.f16 em.h em.si em.so x=em.B x:=by kernel_rfl
theorem em.fn:FnO 16 Tryz.f16:=fnO (by kernel_rfl) (by kernel_rfl)
theorem em.ok:aB PP 16 ⟨2,em.si,em.so,em.F⟩:=okI wg em.fn em.h (by kernel_rfl) em.ev
noncomputable def wj:SpL:=(16,[],⟨2,em.si,em.so,em.F⟩)::we
noncomputable abbrev zd:=cq wj av
theorem wk:bM PP zd:=wg.consS [] em.fn.enters em.ok
def da.si:Sh:=⟨[(0,.v false [.sl 4 .bool]),(1,.v false [.sl 4 .bool])],[],[],0,[]⟩
def da.so:Sh:=⟨[(0,.v false [.bool])],[],[],1000,[]⟩
def da.h:H:=(.s none .n (.s none .n (.s none (.s none .n (.b (.l ⟨[(5,.v false [.int .i64])],[],[0,1],0,[]⟩ .n))) .n)))
noncomputable def da.B:(List Bool)×(List Bool)×Unit→Option (Bool×Unit):=fun (p0,p1,_)=>
 (bif ((p0.length:Int) !=(p1.length:Int)) then
 some (false,())
 else
 bE (S:=Int×Unit) (fun (x5,_)=>
 (bif (decide (x5<(p0.length:Int))) then
 bif (decide (0≤x5)&&decide (x5<(p0.length:Int))) then
 let e1:Bool:=(List.getD p0 (Int.toNat x5) false)
 bif (decide (0≤x5)&&decide (x5<(p1.length:Int))) then
 let e2:Bool:=(List.getD p1 (Int.toNat x5) false)
 (bif (!(e1==e2)) then
 some (.inr (false,()))
 else
 let e3:Int:=(IntKind.i64.wrap (x5+(1:Int)))
 some (.inl (e3,())))
 else none
 else none
 else
 some (.inr (true,())))) ((0:Int),()))
noncomputable def da.F:(List Bool)×(List Bool)×Unit→Option (Bool×Unit):=stk da.B
theorem da.eq:da.F=da.B:=aN _
theorem da.ev (x:TS da.si):evI zd Tryz.f18 da.h da.si da.so x=da.B x:=by kernel_rfl
theorem da.fn:FnO 18 Tryz.f18:=fnO (by kernel_rfl) (by kernel_rfl)
theorem da.ok:aB PP 18 ⟨2,da.si,da.so,da.F⟩:=okI wk da.fn da.h (by kernel_rfl) da.ev
noncomputable def uu:SpL:=(18,[],⟨2,da.si,da.so,da.F⟩)::wj
noncomputable abbrev wl:=cq uu av
theorem uv:bM PP wl:=wk.consS [] da.fn.enters da.ok
def ee.si:Sh:=⟨[(0,.v false [.sl 38 fB])],[],[],0,[]⟩
def ee.so:Sh:=⟨[(0,.v false [.bool])],[],[],1000,[]⟩
def ee.h:H:=(.s none .n (.s none .n (.s (some ⟨[(3,.v false [.int .i64])],[],[0],0,[]⟩) (.s none .n (.b (.l ⟨[(3,.v false [.int .i64]),(4,.v false [.int .i64])],[],[0],0,[]⟩ (.s none .n (.s none (.b (.s (some ⟨[],[],[0,3,4],0,[]⟩) .n .n)) .n))))) (.s none .n (.s (some ⟨[(5,.v false [.int .i64])],[],[0,3],0,[]⟩) (.s none .n (.b (.l ⟨[(5,.v false [.int .i64]),(6,.v false [.int .i64])],[],[0,3],0,[]⟩ .n))) .n)))))
noncomputable def ee.B:(List dX)×Unit→Option (Bool×Unit):=fun (p0,_)=>
 Option.bind (
 bE (S:=Int×Int×Unit) (fun (x3,x4,_)=>
 (bif (decide (x4<(p0.length:Int))) then
 Option.bind (
 bif (decide (0≤x4)&&decide (x4<(p0.length:Int))) then
 let e1:dX:=(List.getD p0 (Int.toNat x4) fB.z)
 Option.bind (d9.F (e1.1,e1.2.1.1,e1.2.1.2.1,e1.2.1.2.2,e1.2.2.1,e1.2.2.2.1,e1.2.2.2.2.1,e1.2.2.2.2.2.1.1,e1.2.2.2.2.2.1.2,e1.2.2.2.2.2.2.1,e1.2.2.2.2.2.2.2.1,e1.2.2.2.2.2.2.2.2.1,e1.2.2.2.2.2.2.2.2.2,())) fun y2=>
 (bif y2.1 then
 some (.inr (.inr (.inr (true,()))))
 else
 bif (decide (0≤x4)&&decide (x4<(p0.length:Int))) then
 let e3:dX:=(List.getD p0 (Int.toNat x4) fB.z)
 Option.bind (cZ.F (e3.1,e3.2.1.1,e3.2.1.2.1,e3.2.1.2.2,e3.2.2.1,e3.2.2.2.1,e3.2.2.2.2.1,e3.2.2.2.2.2.1.1,e3.2.2.2.2.2.1.2,e3.2.2.2.2.2.2.1,e3.2.2.2.2.2.2.2.1,e3.2.2.2.2.2.2.2.2.1,e3.2.2.2.2.2.2.2.2.2,())) fun y4=>
 (bif (decide ((y4.1.size:Int)>(2000:Int))) then
 some (.inr (.inr (.inr (true,()))))
 else
 some (.inl (())))
 else none)
 else none:Option ((Unit)⊕_)) fun r5=>match r5 with
 | .inl (_)=>
 (bif (decide (0≤x4)&&decide (x4<(p0.length:Int))) then
 let e6:dX:=(List.getD p0 (Int.toNat x4) fB.z)
 bif (decide (0≤x4)&&decide (x4<(p0.length:Int))) then
 let e7:dX:=(List.getD p0 (Int.toNat x4) fB.z)
 let e8:Int:=(IntKind.i64.wrap ((e6.2.1.2.1.length:Int)+(e7.2.2.2.2.2.2.2.1.length:Int)))
 let e9:Int:=(IntKind.i64.wrap (x3+e8))
 let e10:Int:=(IntKind.i64.wrap (x4+(1:Int)))
 some (.inl (e9,e10,()))
 else none
 else none)
 | .inr r=>some r
 else
 some (.inr (.inl (x3,()))))) ((0:Int),(0:Int),()):Option ((Int×Unit)⊕_)) fun r11=>match r11 with
 | .inl (x3_11,_)=>
 (Option.bind (
 bE (S:=Int×Int×Unit) (fun (x5,x6,_)=>
 (bif (decide (x6<(p0.length:Int))) then
 bif (decide (0≤x6)&&decide (x6<(p0.length:Int))) then
 let e12:dX:=(List.getD p0 (Int.toNat x6) fB.z)
 (bif (!(e12.2.2.2.2.1.toList==(⟨#[]⟩:ByteArray).toList)) then
 let e13:Int:=(IntKind.i64.wrap (x5+(1:Int)))
 let e14:Int:=(IntKind.i64.wrap (x6+(1:Int)))
 some (.inl (e13,e14,()))
 else
 let e15:Int:=(IntKind.i64.wrap (x6+(1:Int)))
 some (.inl (x5,e15,())))
 else none
 else
 some (.inr (.inl (x5,()))))) ((0:Int),(0:Int),()):Option ((Int×Unit)⊕_)) fun r16=>match r16 with
 | .inl (x5_16,_)=>
 ((bif (decide ((p0.length:Int)>(22:Int))) then
 some (true,())
 else
 (bif (decide (x3_11>(200:Int))) then
 some (true,())
 else
 some ((decide (x5_16>(6:Int))),()))))
 | .inr r=>some r)
 | .inr r=>some r
noncomputable def ee.F:(List dX)×Unit→Option (Bool×Unit):=stk ee.B
theorem ee.eq:ee.F=ee.B:=aN _
theorem ee.ev (x:TS ee.si):evI wl Tryz.f9 ee.h ee.si ee.so x=ee.B x:=by kernel_rfl
theorem ee.fn:FnO 9 Tryz.f9:=fnO (by kernel_rfl) (by kernel_rfl)
theorem ee.ok:aB PP 9 ⟨1,ee.si,ee.so,ee.F⟩:=okI uv ee.fn ee.h (by kernel_rfl) ee.ev
noncomputable def ze:SpL:=(9,[],⟨1,ee.si,ee.so,ee.F⟩)::uu
noncomputable abbrev Br:=cq ze av
theorem zf:bM PP Br:=uv.consS [] ee.fn.enters ee.ok
def cS.si:Sh:=⟨[(0,.v false [.str]),(1,.v false [.str])],[],[],0,[]⟩
def cS.so:Sh:=⟨[(0,.v true [.int .i64,.str,.ref 1000,.sl 32 (.sl 78 bD),.str,.str,.str,.int .i64,.int .i64,.sl 78 bD,.sl 3 (.int .i64),.bool,.sl 66 ei])],[(1000,false,.arr 41 bR)],[],1001,[]⟩
def cS.h:H:=.n
noncomputable def cS.B:ByteArray×ByteArray×Unit→Option (Int×ByteArray×(List (List ae))×ByteArray×ByteArray×ByteArray×Int×Int×(List ae)×(List Int)×Bool×(List ct)×(List ba)×Unit):=fun (p0,p1,_)=>
 some ((0:Int),p0,([]:List (List ae)),(⟨#[]⟩:ByteArray),(⟨#[]⟩:ByteArray),(⟨#[]⟩:ByteArray),(0:Int),(0:Int),([]:List ae),([]:List Int),false,([]:List ct),[((⟨#[107]⟩:ByteArray),((2:Int),(false,(false,((⟨#[]⟩:ByteArray),(0:Int)))))),((⟨#[97]⟩:ByteArray),((2:Int),(true,(false,(p1,(0:Int))))))],())
noncomputable def cS.F:ByteArray×ByteArray×Unit→Option (Int×ByteArray×(List (List ae))×ByteArray×ByteArray×ByteArray×Int×Int×(List ae)×(List Int)×Bool×(List ct)×(List ba)×Unit):=stk cS.B
theorem cS.eq:cS.F=cS.B:=aN _
theorem cS.ev (x:TS cS.si):evI Br Tryz.f19 cS.h cS.si cS.so x=cS.B x:=by kernel_rfl
theorem cS.fn:FnO 19 Tryz.f19:=fnO (by kernel_rfl) (by kernel_rfl)
theorem cS.ok:aB PP 19 ⟨2,cS.si,cS.so,cS.F⟩:=okI zf cS.fn cS.h (by kernel_rfl) cS.ev
noncomputable def uw:SpL:=(19,[],⟨2,cS.si,cS.so,cS.F⟩)::ze
noncomputable abbrev wm:=cq uw av
theorem ux:bM PP wm:=zf.consS [] cS.fn.enters cS.ok
def cm.si:Sh:=⟨[(0,.v true [.int .i64,.str,.sl 41 bR,.sl 32 (.sl 78 bD),.str,.str,.str,.int .i64,.int .i64,.sl 78 bD,.sl 3 (.int .i64),.bool,.sl 66 ei])],[],[],0,[]⟩
def cm.so:Sh:=⟨[(0,.v false [.str])],[],[],1000,[]⟩
def cm.h:H:=.n
noncomputable def cm.B:Int×ByteArray×(List ba)×(List (List ae))×ByteArray×ByteArray×ByteArray×Int×Int×(List ae)×(List Int)×Bool×(List ct)×Unit→Option (ByteArray×Unit):=fun (p0_0,p0_1,p0_2,p0_3,p0_4,p0_5,p0_6,p0_7,p0_8,p0_9,p0_10,p0_11,p0_12,_)=>
 (bif (p0_0==(0:Int)) then
 some (p0_1,())
 else
 some (p0_4,()))
noncomputable def cm.F:Int×ByteArray×(List ba)×(List (List ae))×ByteArray×ByteArray×ByteArray×Int×Int×(List ae)×(List Int)×Bool×(List ct)×Unit→Option (ByteArray×Unit):=stk cm.B
theorem cm.eq:cm.F=cm.B:=aN _
theorem cm.ev (x:TS cm.si):evI wm Tryz.f25 cm.h cm.si cm.so x=cm.B x:=by kernel_rfl
theorem cm.fn:FnO 25 Tryz.f25:=fnO (by kernel_rfl) (by kernel_rfl)
theorem cm.ok:aB PP 25 ⟨1,cm.si,cm.so,cm.F⟩:=okI ux cm.fn cm.h (by kernel_rfl) cm.ev
noncomputable def qP:SpL:=(25,[],⟨1,cm.si,cm.so,cm.F⟩)::uw
noncomputable abbrev jc:=cq qP av
theorem fq:bM PP jc:=ux.consS [] cm.fn.enters cm.ok
def bm.si:Sh:=⟨[(0,.v false [.sl 38 fB]),(1,.v false [.str])],[],[],0,[]⟩
def bm.so:Sh:=⟨[(0,.v false [.int .i64])],[],[],1000,[]⟩
def bm.h:H:=.n
noncomputable def bm.B:(List dX)×ByteArray×Unit→Option (Int×Unit):=fun (p0,p1,_)=>
 bE (S:=Int×Unit) (fun (x8,_)=>
 (bif (decide (x8<(p0.length:Int))) then
 Option.bind (
 bif (decide (0≤x8)&&decide (x8<(p0.length:Int))) then
 let e1:dX:=(List.getD p0 (Int.toNat x8) fB.z)
 Option.bind (cm.F (e1.1,e1.2.1.1,e1.2.1.2.1,e1.2.1.2.2,e1.2.2.1,e1.2.2.2.1,e1.2.2.2.2.1,e1.2.2.2.2.2.1.1,e1.2.2.2.2.2.1.2,e1.2.2.2.2.2.2.1,e1.2.2.2.2.2.2.2.1,e1.2.2.2.2.2.2.2.2.1,e1.2.2.2.2.2.2.2.2.2,())) fun y2=>
 some (.inl ((y2.1.toList==p1.toList),()))
 else none:Option ((Bool×Unit)⊕_)) fun r3=>match r3 with
 | .inl (x16_3,_)=>
 ((bif x16_3 then
 some (.inr (x8,()))
 else
 let e4:Int:=(IntKind.i64.wrap (x8+(1:Int)))
 some (.inl (e4,()))))
 | .inr r=>some r
 else
 some (.inr ((-1:Int),())))) ((0:Int),())
noncomputable def bm.F:(List dX)×ByteArray×Unit→Option (Int×Unit):=stk bm.B
theorem bm.eq:bm.F=bm.B:=aN _
noncomputable def bm.ins:Nat→List (Option dU)→cp→Option (Code×List ResultVar×H):=fun g xs hp=>bif Nat.beq g 23&&nu xs hp 1 24 then some (Tryz.f23.body.getD .skip,Tryz.f23.results.toList,(.s none .n (.s none (.s none .n (.b (.l ⟨[(8,.v false [.int .i64])],[],[0,1,7],0,[]⟩ (.s none .n (.s none .n (.s none (.b (.s none .n (.s (some ⟨[(16,.v false [.bool])],[],[0,1,5,7,8],0,[]⟩) .n .n))) .n)))))) .n))) else bif Nat.beq g 24 then some (Tryz.f24.body.getD .skip,Tryz.f24.results.toList,.n) else none
theorem bm.ins_ok:∀n xs hp code res h,bm.ins n xs hp=some (code,res,h)→∃nt,oc PP n code res nt:=by
 intro n xs hp code res h e
 unfold bm.ins at e
 cases e0:(Nat.beq n 23&&nu xs hp 1 24) with
 |true=>rw [e0] at e;cases e;rw [Nat.eq_of_beq_eq_true (Bool.and_eq_true_iff.1 e0).1];exact ⟨_,eN (by kernel_rfl) (by kernel_rfl) (by kernel_rfl) (by kernel_rfl)⟩
 |false=>
 rw [e0] at e
 cases e1:(Nat.beq n 24) with
 |true=>rw [e1] at e;cases e;rw [Nat.eq_of_beq_eq_true e1];exact ⟨_,eN (by kernel_rfl) (by kernel_rfl) (by kernel_rfl) (by kernel_rfl)⟩
 |false=>
 rw [e1] at e
 cases e
theorem bm.ev (x:TS bm.si):evF jc (jZ jc bm.ins (jZ jc bm.ins (jZ jc bm.ins lz))) (Tryz.f11.body.getD .skip) Tryz.f11.results.toList bm.h bm.si bm.so x=bm.B x:=by kernel_rfl
theorem bm.fn:FnO 11 Tryz.f11:=fnO (by kernel_rfl) (by kernel_rfl)
theorem bm.ok:aB PP 11 ⟨2,bm.si,bm.so,bm.F⟩:=tB fq (eJ fq (eJ fq (eJ fq (fi _ _) (eo fq mixed) bm.ins_ok) (eo fq mixed) bm.ins_ok) (eo fq mixed) bm.ins_ok) mixed bm.fn bm.h (by kernel_rfl) bm.ev
noncomputable def qQ:SpL:=(11,[],⟨2,bm.si,bm.so,bm.F⟩)::qP
noncomputable abbrev sk:=cq qQ av
theorem qR:bM PP sk:=fq.consS [] bm.fn.enters bm.ok
def bW.si:Sh:=⟨[(0,.v false [.int .u32]),(1,.v false [.int .u32])],[],[],0,[]⟩
def bW.so:Sh:=⟨[(0,.tup [(false,[.int .u32]),(false,[.int .u32])])],[],[],1000,[]⟩
def bW.h:H:=.n
noncomputable def bW.B:Int×Int×Unit→Option (Int×Int×Unit):=fun (p0,p1,_)=>
 let e1:Int:=(IntKind.u64.wrap ((IntKind.u64.wrap (p0))*(IntKind.u64.wrap (p1))))
 bif (!decide ((32:Int)<0)) then
 some ((IntKind.u32.wrap ((Int.fdiv e1 (2^min (Int.toNat (32:Int)) IntKind.u64.bits)))),(IntKind.u32.wrap (e1)),())
 else none
noncomputable def bW.F:Int×Int×Unit→Option (Int×Int×Unit):=stk bW.B
theorem bW.ev (x:TS bW.si):evI sk Tryz.f85 bW.h bW.si bW.so x=bW.B x:=by kernel_rfl
theorem bW.fn:FnO 85 Tryz.f85:=fnO (by kernel_rfl) (by kernel_rfl)
theorem bW.ok:aB PP 85 ⟨2,bW.si,bW.so,bW.F⟩:=okI qR bW.fn bW.h (by kernel_rfl) bW.ev
noncomputable def mg:SpL:=(85,[],⟨2,bW.si,bW.so,bW.F⟩)::qQ
noncomputable abbrev nf:=cq mg av
theorem mh:bM PP nf:=qR.consS [] bW.fn.enters bW.ok
def bB.si:Sh:=⟨[(0,.v false [.int .u64]),(1,.v false [.int .u64])],[],[],0,[]⟩
def bB.so:Sh:=⟨[(0,.tup [(false,[.int .u64]),(false,[.int .u64])])],[],[],1000,[]⟩
def bB.h:H:=.n
noncomputable def bB.B:Int×Int×Unit→Option (Int×Int×Unit):=fun (p0,p1,_)=>
 let e1:Int:=(IntKind.u64.wrap (((BitVec.ofInt IntKind.u64.bits p0&&&BitVec.ofInt IntKind.u64.bits (4294967295:Int)).toNat:Nat)))
 bif (!decide ((32:Int)<0)) then
 let e2:Int:=(IntKind.u64.wrap (((BitVec.ofInt IntKind.u64.bits p1&&&BitVec.ofInt IntKind.u64.bits (4294967295:Int)).toNat:Nat)))
 bif (!decide ((32:Int)<0)) then
 let e3:Int:=(IntKind.u64.wrap (e1*e2))
 let e4:Int:=(IntKind.u64.wrap ((Int.fdiv p0 (2^min (Int.toNat (32:Int)) IntKind.u64.bits))*e2))
 bif (!decide ((32:Int)<0)) then
 let e5:Int:=(IntKind.u64.wrap (e4+(Int.fdiv e3 (2^min (Int.toNat (32:Int)) IntKind.u64.bits))))
 let e6:Int:=(IntKind.u64.wrap (((BitVec.ofInt IntKind.u64.bits e5&&&BitVec.ofInt IntKind.u64.bits (4294967295:Int)).toNat:Nat)))
 bif (!decide ((32:Int)<0)) then
 let e7:Int:=(IntKind.u64.wrap (e1*(Int.fdiv p1 (2^min (Int.toNat (32:Int)) IntKind.u64.bits))))
 let e8:Int:=(IntKind.u64.wrap (e6+e7))
 let e9:Int:=(IntKind.u64.wrap ((Int.fdiv p0 (2^min (Int.toNat (32:Int)) IntKind.u64.bits))*(Int.fdiv p1 (2^min (Int.toNat (32:Int)) IntKind.u64.bits))))
 let e10:Int:=(IntKind.u64.wrap (e9+(Int.fdiv e5 (2^min (Int.toNat (32:Int)) IntKind.u64.bits))))
 bif (!decide ((32:Int)<0)) then
 let e11:Int:=(IntKind.u64.wrap (e10+(Int.fdiv e8 (2^min (Int.toNat (32:Int)) IntKind.u64.bits))))
 let e12:Int:=(IntKind.u64.wrap (p0*p1))
 some (e11,e12,())
 else none
 else none
 else none
 else none
 else none
noncomputable def bB.F:Int×Int×Unit→Option (Int×Int×Unit):=stk bB.B
theorem bB.eq:bB.F=bB.B:=aN _
theorem bB.ev (x:TS bB.si):evI nf Tryz.f86 bB.h bB.si bB.so x=bB.B x:=by kernel_rfl
theorem bB.fn:FnO 86 Tryz.f86:=fnO (by kernel_rfl) (by kernel_rfl)
theorem bB.ok:aB PP 86 ⟨2,bB.si,bB.so,bB.F⟩:=okI mh bB.fn bB.h (by kernel_rfl) bB.ev
noncomputable def mi:SpL:=(86,[],⟨2,bB.si,bB.so,bB.F⟩)::mg
noncomputable abbrev ng:=cq mi av
theorem mj:bM PP ng:=mh.consS [] bB.fn.enters bB.ok
def bP.si:Sh:=⟨[(0,.v false [.int .u64]),(1,.v false [.int .u64])],[],[],0,[]⟩
def bP.so:Sh:=⟨[(0,.tup [(false,[.int .u64]),(false,[.int .u64])])],[],[],1000,[]⟩
def bP.h:H:=.n
noncomputable def bP.B:Int×Int×Unit→Option (Int×Int×Unit):=fun (p0,p1,_)=>
 Option.bind (bB.F (p0,p1,())) fun y1=>
 some (y1.1,y1.2.1,())
noncomputable def bP.F:Int×Int×Unit→Option (Int×Int×Unit):=stk bP.B
theorem bP.eq:bP.F=bP.B:=aN _
theorem bP.ev (x:TS bP.si):evI ng Tryz.f58 bP.h bP.si bP.so x=bP.B x:=by kernel_rfl
theorem bP.fn:FnO 58 Tryz.f58:=fnO (by kernel_rfl) (by kernel_rfl)
theorem bP.ok:aB PP 58 ⟨2,bP.si,bP.so,bP.F⟩:=okI mj bP.fn bP.h (by kernel_rfl) bP.ev
noncomputable def oI:SpL:=(58,[],⟨2,bP.si,bP.so,bP.F⟩)::mi
noncomputable abbrev px:=cq oI av
theorem oJ:bM PP px:=mj.consS [] bP.fn.enters bP.ok
def ar.si:Sh:=⟨[(0,.v false [.sl 4 .bool]),(1,.v false [.int .i64])],[],[],0,[]⟩
def ar.so:Sh:=⟨[(0,.v false [.ref 1000])],[(1000,false,.arr 4 .bool)],[],1001,[]⟩
def ar.h:H:=(.s none .n (.s (some ⟨[],[],[0,1],0,[]⟩) .n (.s none .n (.s (some ⟨[],[],[0,6],0,[]⟩) .n (.s none .n (.s none .n (.s none (.b (.l ⟨[(7,.v false [.ref 0]),(8,.v false [.int .i64])],[(0,true,.arr 4 .bool)],[],1,[]⟩ .n)) .n)))))))
noncomputable def ar.B:(List Bool)×Int×Unit→Option ((List Bool)×Unit):=fun (p0,p1,_)=>
 Option.bind (
 (bif (decide (p1<(0:Int))) then
 none
 else
 some (.inl (()))):Option ((Unit)⊕_)) fun r1=>match r1 with
 | .inl (_)=>
 (Option.bind (bP.F ((IntKind.u64.wrap ((p0.length:Int))),(IntKind.u64.wrap (p1)),())) fun y2=>
 Option.bind (
 (bif (decide (y2.1>(0:Int))) then
 none
 else
 (bif (decide (y2.2.1>(9223372036854775807:Int))) then
 none
 else
 some (.inl (())))):Option ((Unit)⊕_)) fun r3=>match r3 with
 | .inl (_)=>
 (bif (decide (0≤(IntKind.i64.wrap (y2.2.1)))&&(decide ((IntKind.i64.wrap (y2.2.1))=(IntKind.i64.wrap (y2.2.1)))&&Nat.ble (Int.toNat (IntKind.i64.wrap (y2.2.1))) 140737488355328)) then
 bE (S:=Int×(List Bool)×Unit) (fun (x8,o7_0,_)=>
 (bif (decide (x8<(o7_0.length:Int))) then
 bif (decide (0≤x8)&&(decide (x8≤(o7_0.length:Int))&&decide ((o7_0.length:Int)≤(o7_0.length:Int)))) then
 bif (decide (0≤(0:Int))&&(decide ((0:Int)≤x8)&&decide (x8≤(o7_0.length:Int)))) then
 let e4:Int:=(IntKind.i64.wrap (x8+((Nat.min (List.length (List.take (Int.toNat x8-Int.toNat (0:Int):Nat) (List.drop (Int.toNat (0:Int)) o7_0))) (Int.toNat (o7_0.length:Int)-Int.toNat x8:Nat)):Int)))
 some (.inl (e4,(List.take (Int.toNat x8) o7_0++List.take (Nat.min (List.length (List.take (Int.toNat x8-Int.toNat (0:Int):Nat) (List.drop (Int.toNat (0:Int)) o7_0))) (Int.toNat (o7_0.length:Int)-Int.toNat x8:Nat)) (List.take (Int.toNat x8-Int.toNat (0:Int):Nat) (List.drop (Int.toNat (0:Int)) o7_0))++List.drop ((Int.toNat x8)+(Nat.min (List.length (List.take (Int.toNat x8-Int.toNat (0:Int):Nat) (List.drop (Int.toNat (0:Int)) o7_0))) (Int.toNat (o7_0.length:Int)-Int.toNat x8:Nat))) o7_0),()))
 else none
 else none
 else
 some (.inr (o7_0,())))) (((Nat.min (List.length p0) (List.replicate (Int.toNat (IntKind.i64.wrap (y2.2.1))) false).length):Int),(List.take 0 (List.replicate (Int.toNat (IntKind.i64.wrap (y2.2.1))) false)++List.take (Nat.min (List.length p0) (List.replicate (Int.toNat (IntKind.i64.wrap (y2.2.1))) false).length) p0++List.drop (0+(Nat.min (List.length p0) (List.replicate (Int.toNat (IntKind.i64.wrap (y2.2.1))) false).length)) (List.replicate (Int.toNat (IntKind.i64.wrap (y2.2.1))) false)),())
 else none)
 | .inr r=>some r)
 | .inr r=>some r
noncomputable def ar.F:(List Bool)×Int×Unit→Option ((List Bool)×Unit):=stk ar.B
theorem ar.eq:ar.F=ar.B:=aN _
theorem ar.ev (x:TS ar.si):evI px Tryz.f37 ar.h ar.si ar.so x=ar.B x:=by kernel_rfl
theorem ar.fn:FnO 37 Tryz.f37:=fnO (by kernel_rfl) (by kernel_rfl)
theorem ar.ok:aB PP 37 ⟨2,ar.si,ar.so,ar.F⟩:=okI oJ ar.fn ar.h (by kernel_rfl) ar.ev
noncomputable def eF:SpL:=(37,[],⟨2,ar.si,ar.so,ar.F⟩)::oI
noncomputable abbrev kC:=cq eF av
theorem fk:bM PP kC:=oJ.consS [] ar.fn.enters ar.ok
def aD.si:Sh:=⟨[(0,.v false [.sl 38 fB]),(1,.v true [.str,.str,.str,.int .i64,.int .i64,.sl 78 bD,.sl 3 (.int .i64),.bool,.sl 66 ei])],[],[],0,[]⟩
def aD.so:Sh:=⟨[(0,.v false [.ref 1000])],[(1000,false,.arr 3 (.int .i64))],[],1001,[]⟩
def aD.h:H:=.n
def aC.si:Sh:=⟨[(0,.v false [.sl 38 fB]),(1,.v true [.int .i64,.str,.sl 41 bR,.sl 32 (.sl 78 bD),.str,.str,.str,.int .i64,.int .i64,.sl 78 bD,.sl 3 (.int .i64),.bool,.sl 66 ei])],[],[],0,[]⟩
def aC.so:Sh:=⟨[(0,.tup [(false,[.ref 1000]),(false,[.ref 1001])])],[(1000,false,.arr 3 (.int .i64)),(1001,false,.arr 4 .bool)],[],1002,[]⟩
def aC.h:H:=(.s none .n (.s none .n (.s none .n (.s (some ⟨[(6,.v false [.ref 0])],[(0,false,.arr 3 (.int .i64))],[0,3],1,[]⟩) (.s none .n (.c (.s none (.s none .n (.b (.l ⟨[(6,.v false [.ref 0]),(7,.v false [.ref 1]),(23,.v false [.int .i64])],[(0,false,.arr 3 (.int .i64)),(1,false,.arr 4 .bool)],[21,22],2,[]⟩ .n))) .n) .n)) (.s none .n (.s (some ⟨[(6,.v false [.ref 0])],[(0,false,.arr 3 (.int .i64))],[3,10],1,[]⟩) (.s none .n (.b (.l ⟨[(6,.v false [.ref 0]),(48,.v false [.int .i64])],[(0,false,.arr 3 (.int .i64))],[3,10,46,47],1,[]⟩ .n))) (.s (some ⟨[(6,.v false [.ref 0])],[(0,false,.arr 3 (.int .i64))],[],1,[]⟩) (.s none .n (.b (.l ⟨[(6,.v false [.ref 0]),(64,.v false [.int .i64])],[(0,false,.arr 3 (.int .i64))],[10,62,63],1,[]⟩ .n))) .n)))))))
noncomputable def aC.b (f:TS aD.si→Option (TS aD.so)):(List dX)×Int×ByteArray×(List ba)×(List (List ae))×ByteArray×ByteArray×ByteArray×Int×Int×(List ae)×(List Int)×Bool×(List ct)×Unit→Option ((List Int)×(List Bool)×Unit):=fun (p0,p1_0,p1_1,p1_2,p1_3,p1_4,p1_5,p1_6,p1_7,p1_8,p1_9,p1_10,p1_11,p1_12,_)=>
 Option.bind (
 (bif (p1_0==(0:Int)) then
 bE (S:=Int×(List Int)×(List Bool)×Unit) (fun (x23,o6_0,o7_0,_)=>
 (bif (decide (x23<(p1_2.length:Int))) then
 bif (decide (0≤x23)&&decide (x23<(p1_2.length:Int))) then
 let e1:ba:=(List.getD p1_2 (Int.toNat x23) bR.z)
 bif (Nat.ble (o6_0.length+ [e1.2.1].length) 17592186044416) then
 bif (Nat.ble (o7_0.length+ [e1.2.2.1].length) 140737488355328) then
 let e2:Int:=(IntKind.i64.wrap (x23+(1:Int)))
 some (.inl (e2,(o6_0++ [e1.2.1]),(o7_0++ [e1.2.2.1]),()))
 else none
 else none
 else none
 else
 some (.inr (.inr (o6_0,o7_0,()))))) ((0:Int),[],[],())
 else
 some (.inl ([],()))):Option (((List Int)×Unit)⊕_)) fun r3=>match r3 with
 | .inl (o6_0_3,_)=>
 (Option.bind (f (p0,p1_4,p1_5,p1_6,p1_7,p1_8,p1_9,p1_10,p1_11,p1_12,())) fun y4=>
 Option.bind (
 bE (S:=Int×(List Int)×Unit) (fun (x48,o6_0,_)=>
 (bif (decide (x48<(p1_10.length:Int))) then
 bif (decide (0≤x48)&&decide (x48<(p1_10.length:Int))) then
 let e5:Int:=(List.getD p1_10 (Int.toNat x48) (0:Int))
 bif (decide (0≤e5)&&decide (e5<(y4.1.length:Int))) then
 let e6:Int:=(List.getD y4.1 (Int.toNat e5) (0:Int))
 bif (Nat.ble (o6_0.length+ [e6].length) 17592186044416) then
 let e7:Int:=(IntKind.i64.wrap (x48+(1:Int)))
 some (.inl (e7,(o6_0++ [e6]),()))
 else none
 else none
 else none
 else
 some (.inr (.inl (o6_0,()))))) ((0:Int),o6_0_3,()):Option (((List Int)×Unit)⊕_)) fun r8=>match r8 with
 | .inl (o6_0_8,_)=>
 (Option.bind (
 bE (S:=Int×(List Int)×Unit) (fun (x64,o6_0,_)=>
 (bif (decide (x64<(p1_12.length:Int))) then
 bif (decide (0≤x64)&&decide (x64<(p1_12.length:Int))) then
 let e9:ct:=(List.getD p1_12 (Int.toNat x64) ei.z)
 (bif (e9.1==(2:Int)) then
 bif (decide (0≤e9.2)&&decide (e9.2<(y4.1.length:Int))) then
 let e10:Int:=(List.getD y4.1 (Int.toNat e9.2) (0:Int))
 bif (Nat.ble (o6_0.length+ [e10].length) 17592186044416) then
 let e11:Int:=(IntKind.i64.wrap (x64+(1:Int)))
 some (.inl (e11,(o6_0++ [e10]),()))
 else none
 else none
 else
 (bif (e9.1==(3:Int)) then
 bif (decide (0≤e9.2)&&decide (e9.2<(y4.1.length:Int))) then
 let e12:Int:=(List.getD y4.1 (Int.toNat e9.2) (0:Int))
 bif (Nat.ble (o6_0.length+ [e12].length) 17592186044416) then
 let e13:Int:=(IntKind.i64.wrap (x64+(1:Int)))
 some (.inl (e13,(o6_0++ [e12]),()))
 else none
 else none
 else
 bif (Nat.ble (o6_0.length+ [(2:Int)].length) 17592186044416) then
 let e14:Int:=(IntKind.i64.wrap (x64+(1:Int)))
 some (.inl (e14,(o6_0++ [(2:Int)]),()))
 else none))
 else none
 else
 some (.inr (.inl (o6_0,()))))) ((0:Int),o6_0_8,()):Option (((List Int)×Unit)⊕_)) fun r15=>match r15 with
 | .inl (o6_0_15,_)=>
 (Option.bind (ar.F ([true],(o6_0_15.length:Int),())) fun y16=>
 some (o6_0_15,y16.1,()))
 | .inr r=>some r)
 | .inr r=>some r)
 | .inr r=>some r
theorem aC.fn:FnO 26 Tryz.f26:=fnO (by kernel_rfl) (by kernel_rfl)
noncomputable def aD.b (f:TS aC.si→Option (TS aC.so)):(List dX)×ByteArray×ByteArray×ByteArray×Int×Int×(List ae)×(List Int)×Bool×(List ct)×Unit→Option ((List Int)×Unit):=fun (p0,p1_0,p1_1,p1_2,p1_3,p1_4,p1_5,p1_6,p1_7,p1_8,_)=>
 Option.bind (bm.F (p0,p1_1,())) fun y1=>
 bif (decide (0≤y1.1)&&decide (y1.1<(p0.length:Int))) then
 let e2:dX:=(List.getD p0 (Int.toNat y1.1) fB.z)
 Option.bind (f (p0,e2.1,e2.2.1.1,e2.2.1.2.1,e2.2.1.2.2,e2.2.2.1,e2.2.2.2.1,e2.2.2.2.2.1,e2.2.2.2.2.2.1.1,e2.2.2.2.2.2.1.2,e2.2.2.2.2.2.2.1,e2.2.2.2.2.2.2.2.1,e2.2.2.2.2.2.2.2.2.1,e2.2.2.2.2.2.2.2.2.2,())) fun y3=>
 (bif (!(p1_2.toList==(⟨#[]⟩:ByteArray).toList)) then
 Option.bind (bm.F (p0,p1_2,())) fun y4=>
 bif (decide (0≤y4.1)&&decide (y4.1<(p0.length:Int))) then
 let e5:dX:=(List.getD p0 (Int.toNat y4.1) fB.z)
 Option.bind (f (p0,e5.1,e5.2.1.1,e5.2.1.2.1,e5.2.1.2.2,e5.2.2.1,e5.2.2.2.1,e5.2.2.2.2.1,e5.2.2.2.2.2.1.1,e5.2.2.2.2.2.1.2,e5.2.2.2.2.2.2.1,e5.2.2.2.2.2.2.2.1,e5.2.2.2.2.2.2.2.2.1,e5.2.2.2.2.2.2.2.2.2,())) fun y6=>
 bif (Nat.ble (y3.1.length+y6.1.length) 17592186044416) then
 some ((y3.1++y6.1),())
 else none
 else none
 else
 some (y3.1,()))
 else none
theorem aD.fn:FnO 36 Tryz.f36:=fnO (by kernel_rfl) (by kernel_rfl)
noncomputable abbrev aC.c (f:TS aD.si→Option (TS aD.so)):Cx:=⟨uE tab0,AC Gx,jj ((36,[],⟨2,aD.si,aD.so,f⟩)::eF),159,ig av⟩
theorem aC.ev (f:TS aD.si→Option (TS aD.so)) (x:TS aC.si):evF (aC.c f) lz (Tryz.f26.body.getD .skip) Tryz.f26.results.toList aC.h aC.si aC.so x=aC.b f x:=by kernel_rfl
theorem aC.step (f:TS aD.si→Option (TS aD.so)) (hf:aB PP 36 ⟨2,aD.si,aD.so,f⟩):aB PP 26 ⟨2,aC.si,aC.so,aC.b f⟩:=Hj (fk.consS [] aD.fn.enters hf) (fi _ _) mixed aC.fn aC.h (by kernel_rfl) (aC.ev f)
noncomputable abbrev aD.c (f:TS aC.si→Option (TS aC.so)):Cx:=⟨uE tab0,AC Gx,jj ((26,[],⟨2,aC.si,aC.so,f⟩)::eF),159,ig av⟩
theorem aD.ev (f:TS aC.si→Option (TS aC.so)) (x:TS aD.si):evF (aD.c f) lz (Tryz.f36.body.getD .skip) Tryz.f36.results.toList aD.h aD.si aD.so x=aD.b f x:=by kernel_rfl
theorem aD.step (f:TS aC.si→Option (TS aC.so)) (hf:aB PP 26 ⟨2,aC.si,aC.so,f⟩):aB PP 36 ⟨2,aD.si,aD.so,aD.b f⟩:=Hj (fk.consS [] aC.fn.enters hf) (fi _ _) mixed aD.fn aD.h (by kernel_rfl) (aD.ev f)
noncomputable def aC.r:Nat→TS aC.si→Option (TS aC.so)
 |0=>fun _=>none
 |n+1=>aC.b (aD.b (aC.r n))
theorem aC.r_ok:∀n,aB PP 26 ⟨2,aC.si,aC.so,aC.r n⟩
 |0=>fun _ _ h=>by cases h
 |n+1=>aC.step _ (aD.step _ (aC.r_ok n))
noncomputable def aC.F:TS aC.si→Option (TS aC.so):=stk (aC.r 64)
theorem aC.eq:aC.F=aC.r 64:=aN _
theorem aC.ok:aB PP 26 ⟨2,aC.si,aC.so,aC.F⟩:=by
 rw [aC.eq]
 exact aC.r_ok 64
noncomputable def qS:SpL:=(26,[],⟨2,aC.si,aC.so,aC.F⟩)::eF
noncomputable abbrev Ai:=cq qS av
theorem ya:bM PP Ai:=fk.consS [] aC.fn.enters aC.ok
noncomputable def aD.F:TS aD.si→Option (TS aD.so):=stk (aD.b (aC.r 64))
theorem aD.eq:aD.F=aD.b (aC.r 64):=aN _
theorem aD.ok:aB PP 36 ⟨2,aD.si,aD.so,aD.F⟩:=by
 rw [aD.eq]
 exact aD.step _ (aC.r_ok 64)
noncomputable def oK:SpL:=(36,[],⟨2,aD.si,aD.so,aD.F⟩)::qS
noncomputable abbrev py:=cq oK av
theorem oL:bM PP py:=ya.consS [] aD.fn.enters aD.ok
def cI.si:Sh:=⟨[(0,.v false [.int .i64])],[],[],0,[]⟩
def cI.so:Sh:=⟨[(0,.v false [.int .i64])],[],[],1000,[]⟩
def cI.h:H:=(.s none .n (.s none (.s none .n (.b (.s (some ⟨[(4,.v false [.bool])],[],[3],0,[]⟩) .n (.c .n (.s (some ⟨[(7,.v false [.bool])],[],[3],0,[]⟩) .n .n))))) .n))
noncomputable def cI.B:Int×Unit→Option (Int×Unit):=fun (p0,_)=>
 Option.bind (
 (bif (p0==(0:Int)) then
 some (.inl ((p0==(0:Int)),()))
 else
 some (.inl ((p0==(1:Int)),()))):Option ((Bool×Unit)⊕_)) fun r1=>match r1 with
 | .inl (x4_1,_)=>
 ((bif x4_1 then
 some ((0:Int),())
 else
 Option.bind (
 (bif (p0==(9:Int)) then
 some (.inl ((p0==(9:Int)),()))
 else
 some (.inl ((p0==(10:Int)),()))):Option ((Bool×Unit)⊕_)) fun r2=>match r2 with
 | .inl (x7_2,_)=>
 ((bif x7_2 then
 some ((1:Int),())
 else
 (bif (p0==(2:Int)) then
 (bif (p0==(2:Int)) then
 some ((2:Int),())
 else
 some ((-1:Int),()))
 else
 (bif (p0==(3:Int)) then
 (bif (p0==(3:Int)) then
 some ((2:Int),())
 else
 some ((-1:Int),()))
 else
 (bif (p0==(4:Int)) then
 (bif (p0==(4:Int)) then
 some ((2:Int),())
 else
 some ((-1:Int),()))
 else
 (bif (p0==(5:Int)) then
 (bif (p0==(5:Int)) then
 some ((2:Int),())
 else
 some ((-1:Int),()))
 else
 (bif (p0==(6:Int)) then
 (bif (p0==(6:Int)) then
 some ((2:Int),())
 else
 some ((-1:Int),()))
 else
 (bif (p0==(7:Int)) then
 (bif (p0==(7:Int)) then
 some ((2:Int),())
 else
 some ((-1:Int),()))
 else
 (bif (p0==(8:Int)) then
 some ((2:Int),())
 else
 some ((-1:Int),()))))))))))
 | .inr r=>some r))
 | .inr r=>some r
noncomputable def cI.F:Int×Unit→Option (Int×Unit):=stk cI.B
theorem cI.eq:cI.F=cI.B:=aN _
theorem cI.ev (x:TS cI.si):evI py Tryz.f144 cI.h cI.si cI.so x=cI.B x:=by kernel_rfl
theorem cI.fn:FnO 144 Tryz.f144:=fnO (by kernel_rfl) (by kernel_rfl)
theorem cI.ok:aB PP 144 ⟨1,cI.si,cI.so,cI.F⟩:=okI oL cI.fn cI.h (by kernel_rfl) cI.ev
noncomputable def sm:SpL:=(144,[],⟨1,cI.si,cI.so,cI.F⟩)::oK
noncomputable abbrev uy:=cq sm av
theorem sn:bM PP uy:=oL.consS [] cI.fn.enters cI.ok
def aW.si:Sh:=⟨[(0,.v false [.ptr 0 0])],[(0,true,.box 172 [.ref 1,.bool,.sl 3 (.int .i64)]),(1,true,.arr 3 (.int .i64))],[],2,[]⟩
def aW.so:Sh:=⟨[(0,.v false [.int .i64])],[(0,true,.box 172 [.ref 1001,.bool,.sl 3 (.int .i64)]),(1001,false,.arr 3 (.int .i64))],[],1002,[(0,0)]⟩
def aW.h:H:=.n
noncomputable def aW.B:Bool×(List Int)×(List Int)×Unit→Option (Int×Bool×(List Int)×(List Int)×Unit):=fun (o0_1,o0_2,o0_0,_)=>
 (bif ((o0_0.length:Int)==(0:Int)) then
 some ((0:Int),false,o0_2,o0_0,())
 else
 let e1:Int:=(IntKind.i64.wrap ((o0_0.length:Int)-(1:Int)))
 bif (decide (0≤e1)&&decide (e1<(o0_0.length:Int))) then
 let e2:Int:=(List.getD o0_0 (Int.toNat e1) (0:Int))
 let e3:Int:=(IntKind.i64.wrap ((o0_0.length:Int)-(1:Int)))
 bif (decide (0≤(0:Int))&&(decide ((0:Int)≤e3)&&decide (e3≤(o0_0.length:Int)))) then
 some (e2,o0_1,o0_2,(List.take (Int.toNat e3) o0_0),())
 else none
 else none)
noncomputable def aW.F:Bool×(List Int)×(List Int)×Unit→Option (Int×Bool×(List Int)×(List Int)×Unit):=stk aW.B
theorem aW.eq:aW.F=aW.B:=aN _
theorem aW.ev (x:TS aW.si):evI uy Tryz.f145 aW.h aW.si aW.so x=aW.B x:=by kernel_rfl
theorem aW.fn:FnO 145 Tryz.f145:=fnO (by kernel_rfl) (by kernel_rfl)
theorem aW.ok:aB PP 145 ⟨1,aW.si,aW.so,aW.F⟩:=okI sn aW.fn aW.h (by kernel_rfl) aW.ev
noncomputable def jR:SpL:=(145,[],⟨1,aW.si,aW.so,aW.F⟩)::sm
noncomputable abbrev kw:=cq jR av
theorem jS:bM PP kw:=sn.consS [] aW.fn.enters aW.ok
def aO.si:Sh:=⟨[(0,.v false [.ptr 0 0]),(1,.v false [.int .i64])],[(0,true,.box 172 [.ref 1,.bool,.sl 3 (.int .i64)]),(1,true,.arr 3 (.int .i64))],[],2,[]⟩
def aO.so:Sh:=⟨[(0,.tup [])],[(0,true,.box 172 [.ref 1001,.bool,.sl 3 (.int .i64)]),(1001,false,.arr 3 (.int .i64))],[],1002,[(0,0)]⟩
def aO.h:H:=.n
noncomputable def aO.B:Int×Bool×(List Int)×(List Int)×Unit→Option (Bool×(List Int)×(List Int)×Unit):=fun (p1,o0_1,o0_2,o0_0,_)=>
 bif (Nat.ble (o0_0.length+ [p1].length) 17592186044416) then
 some (o0_1,o0_2,(o0_0++ [p1]),())
 else none
noncomputable def aO.F:Int×Bool×(List Int)×(List Int)×Unit→Option (Bool×(List Int)×(List Int)×Unit):=stk aO.B
theorem aO.eq:aO.F=aO.B:=aN _
theorem aO.ev (x:TS aO.si):evI kw Tryz.f146 aO.h aO.si aO.so x=aO.B x:=by kernel_rfl
theorem aO.fn:FnO 146 Tryz.f146:=fnO (by kernel_rfl) (by kernel_rfl)
theorem aO.ok:aB PP 146 ⟨2,aO.si,aO.so,aO.F⟩:=okI jS aO.fn aO.h (by kernel_rfl) aO.ev
noncomputable def jv:SpL:=(146,[],⟨2,aO.si,aO.so,aO.F⟩)::jR
noncomputable abbrev jT:=cq jv av
theorem jw:bM PP jT:=jS.consS [] aO.fn.enters aO.ok
def dk.si:Sh:=⟨[(0,.v false [.int .i64]),(1,.v false [.sl 3 (.int .i64)])],[],[],0,[]⟩
def dk.so:Sh:=⟨[(0,.v false [.bool])],[],[],1000,[]⟩
def dk.h:H:=(.s none .n (.s none (.s none .n (.b (.l ⟨[(9,.v false [.int .i64])],[],[0,7,8],0,[]⟩ .n))) .n))
noncomputable def dk.B:Int×(List Int)×Unit→Option (Bool×Unit):=fun (p0,p1,_)=>
 bE (S:=Int×Unit) (fun (x9,_)=>
 (bif (decide (x9<(p1.length:Int))) then
 bif (decide (0≤x9)&&decide (x9<(p1.length:Int))) then
 let e1:Int:=(List.getD p1 (Int.toNat x9) (0:Int))
 (bif (e1 !=p0) then
 (bif (e1 !=(0:Int)) then
 some (.inr (false,()))
 else
 let e2:Int:=(IntKind.i64.wrap (x9+(1:Int)))
 some (.inl (e2,())))
 else
 let e3:Int:=(IntKind.i64.wrap (x9+(1:Int)))
 some (.inl (e3,())))
 else none
 else
 some (.inr (true,())))) ((0:Int),())
noncomputable def dk.F:Int×(List Int)×Unit→Option (Bool×Unit):=stk dk.B
theorem dk.eq:dk.F=dk.B:=aN _
theorem dk.ev (x:TS dk.si):evI jT Tryz.f164 dk.h dk.si dk.so x=dk.B x:=by kernel_rfl
theorem dk.fn:FnO 164 Tryz.f164:=fnO (by kernel_rfl) (by kernel_rfl)
theorem dk.ok:aB PP 164 ⟨2,dk.si,dk.so,dk.F⟩:=okI jw dk.fn dk.h (by kernel_rfl) dk.ev
noncomputable def wn:SpL:=(164,[],⟨2,dk.si,dk.so,dk.F⟩)::jv
noncomputable abbrev zg:=cq wn av
theorem wo:bM PP zg:=jw.consS [] dk.fn.enters dk.ok
def cu.si:Sh:=⟨[(0,.v false [.int .i64]),(1,.v false [.sl 3 (.int .i64)])],[],[],0,[]⟩
def cu.so:Sh:=⟨[(0,.tup [(false,[.int .i64]),(false,[.bool])])],[],[],1000,[]⟩
def cu.h:H:=(.s none .n (.s none (.s none .n (.b (.s (some ⟨[(7,.v false [.bool])],[],[1,6],0,[]⟩) .n (.c .n (.s (some ⟨[(13,.v false [.bool])],[],[1,6],0,[]⟩) .n .n))))) .n))
noncomputable def cu.B:Int×(List Int)×Unit→Option (Int×Bool×Unit):=fun (p0,p1,_)=>
 Option.bind (
 (bif (p0==(2:Int)) then
 some (.inl ((p0==(2:Int)),()))
 else
 (bif (p0==(3:Int)) then
 some (.inl ((p0==(3:Int)),()))
 else
 some (.inl ((p0==(4:Int)),())))):Option ((Bool×Unit)⊕_)) fun r1=>match r1 with
 | .inl (x7_1,_)=>
 ((bif x7_1 then
 Option.bind (dk.F ((2:Int),p1,())) fun y2=>
 some ((2:Int),y2.1,())
 else
 Option.bind (
 (bif (p0==(5:Int)) then
 some (.inl ((p0==(5:Int)),()))
 else
 some (.inl ((p0==(6:Int)),()))):Option ((Bool×Unit)⊕_)) fun r3=>match r3 with
 | .inl (x13_3,_)=>
 ((bif x13_3 then
 bif (decide (0≤(0:Int))&&decide ((0:Int)<(p1.length:Int))) then
 let e4:Int:=(List.getD p1 0 (0:Int))
 bif (decide (0≤(1:Int))&&decide ((1:Int)<(p1.length:Int))) then
 let e5:Int:=(List.getD p1 1 (0:Int))
 (bif (e4==e5) then
 some ((1:Int),true,())
 else
 bif (decide (0≤(0:Int))&&decide ((0:Int)<(p1.length:Int))) then
 let e6:Int:=(List.getD p1 0 (0:Int))
 (bif (e6==(0:Int)) then
 some ((1:Int),true,())
 else
 bif (decide (0≤(1:Int))&&decide ((1:Int)<(p1.length:Int))) then
 let e7:Int:=(List.getD p1 1 (0:Int))
 some ((1:Int),(e7==(0:Int)),())
 else none)
 else none)
 else none
 else none
 else
 (bif (p0==(7:Int)) then
 (bif (p0==(7:Int)) then
 Option.bind (dk.F ((1:Int),p1,())) fun y8=>
 some ((1:Int),y8.1,())
 else
 some ((1:Int),true,()))
 else
 (bif (p0==(8:Int)) then
 (bif (p0==(8:Int)) then
 Option.bind (dk.F ((1:Int),p1,())) fun y9=>
 some ((1:Int),y9.1,())
 else
 some ((1:Int),true,()))
 else
 (bif (p0==(9:Int)) then
 Option.bind (dk.F ((1:Int),p1,())) fun y10=>
 some ((1:Int),y10.1,())
 else
 some ((1:Int),true,()))))))
 | .inr r=>some r))
 | .inr r=>some r
noncomputable def cu.F:Int×(List Int)×Unit→Option (Int×Bool×Unit):=stk cu.B
theorem cu.eq:cu.F=cu.B:=aN _
theorem cu.ev (x:TS cu.si):evI zg Tryz.f148 cu.h cu.si cu.so x=cu.B x:=by kernel_rfl
theorem cu.fn:FnO 148 Tryz.f148:=fnO (by kernel_rfl) (by kernel_rfl)
theorem cu.ok:aB PP 148 ⟨2,cu.si,cu.so,cu.F⟩:=okI wo cu.fn cu.h (by kernel_rfl) cu.ev
noncomputable def qT:SpL:=(148,[],⟨2,cu.si,cu.so,cu.F⟩)::wn
noncomputable abbrev sq:=cq qT av
theorem qU:bM PP sq:=wo.consS [] cu.fn.enters cu.ok
def bv.si:Sh:=⟨[(0,.v false [.ptr 0 0]),(1,.v true [.int .i64,.int .i64,.int .i64,.int .i64,.str])],[(0,true,.box 172 [.ref 1,.bool,.sl 3 (.int .i64)]),(1,true,.arr 3 (.int .i64))],[],2,[]⟩
def bv.so:Sh:=⟨[(0,.v false [.bool])],[(0,true,.box 172 [.ref 1001,.bool,.sl 3 (.int .i64)]),(1001,false,.arr 3 (.int .i64))],[],1002,[(0,0)]⟩
def bv.h:H:=(.s none .n (.s none .n (.s (some ⟨[(0,.v false [.ptr 1 0]),(5,.v false [.ref 0])],[(0,false,.arr 3 (.int .i64)),(1,true,.box 172 [.ref 2,.bool,.sl 3 (.int .i64)]),(2,false,.arr 3 (.int .i64))],[3],3,[]⟩) (.s none .n (.b (.l ⟨[(0,.v false [.ptr 1 0]),(5,.v false [.ref 0]),(11,.v false [.int .i64])],[(0,false,.arr 3 (.int .i64)),(1,true,.box 172 [.ref 2,.bool,.sl 3 (.int .i64)]),(2,false,.arr 3 (.int .i64))],[3,10],3,[]⟩ .n))) (.s none (.b (.s (some ⟨[(21,.v false [.bool])],[],[0,3,5],0,[]⟩) .n (.c .n (.s none .n (.c (.s none (.s (some ⟨[(72,.v false [.bool])],[],[0,3],0,[]⟩) .n .n) .n) .n))))) .n))))
noncomputable def bv.B:Int×Int×Int×Int×ByteArray×Bool×(List Int)×(List Int)×Unit→Option (Bool×Bool×(List Int)×(List Int)×Unit):=fun (p1_0,p1_1,p1_2,p1_3,p1_4,o0_1,o0_2,o0_0,_)=>
 Option.bind (
 Option.bind (cI.F (p1_0,())) fun y1=>
 bE (S:=Int×(List Int)×Bool×(List Int)×(List Int)×Unit) (fun (x11,o5_0,o0_0_1,o0_0_2,o0_0_0,_)=>
 (bif (decide (x11<y1.1)) then
 Option.bind (aW.F (o0_0_1,o0_0_2,o0_0_0,())) fun y2=>
 bif (Nat.ble (o5_0.length+ [y2.1].length) 17592186044416) then
 let e3:Int:=(IntKind.i64.wrap (x11+(1:Int)))
 some (.inl (e3,(o5_0++ [y2.1]),y2.2.1,y2.2.2.1,y2.2.2.2.1,()))
 else none
 else
 some (.inr (.inl (o5_0,o0_0_1,o0_0_2,o0_0_0,()))))) ((0:Int),[],o0_1,o0_2,o0_0,()):Option (((List Int)×Bool×(List Int)×(List Int)×Unit)⊕_)) fun r4=>match r4 with
 | .inl (o5_0_4,o0_0_1_4,o0_0_2_4,o0_0_0_4,_)=>
 (Option.bind (
 (bif (!o0_0_1_4) then
 some (.inl (true,()))
 else
 Option.bind (cI.F (p1_0,())) fun y5=>
 some (.inl ((decide (y5.1<(0:Int))),()))):Option ((Bool×Unit)⊕_)) fun r6=>match r6 with
 | .inl (x21_6,_)=>
 ((bif x21_6 then
 some (false,o0_0_1_4,o0_0_2_4,o0_0_0_4,())
 else
 (bif (p1_0==(0:Int)) then
 Option.bind (
 (bif (decide (p1_1<(0:Int))) then
 some (.inl (true,()))
 else
 (bif (decide (p1_1≥(o0_0_2_4.length:Int))) then
 some (.inl (true,()))
 else
 bif (decide (0≤p1_1)&&decide (p1_1<(o0_0_2_4.length:Int))) then
 let e7:Int:=(List.getD o0_0_2_4 (Int.toNat p1_1) (0:Int))
 (bif (decide (e7<(1:Int))) then
 some (.inl (true,()))
 else
 bif (decide (0≤p1_1)&&decide (p1_1<(o0_0_2_4.length:Int))) then
 let e8:Int:=(List.getD o0_0_2_4 (Int.toNat p1_1) (0:Int))
 some (.inl ((decide (e8>(3:Int))),()))
 else none)
 else none)):Option ((Bool×Unit)⊕_)) fun r9=>match r9 with
 | .inl (x72_9,_)=>
 ((bif x72_9 then
 some (false,o0_0_1_4,o0_0_2_4,o0_0_0_4,())
 else
 bif (decide (0≤p1_1)&&decide (p1_1<(o0_0_2_4.length:Int))) then
 let e10:Int:=(List.getD o0_0_2_4 (Int.toNat p1_1) (0:Int))
 Option.bind (aO.F (e10,o0_0_1_4,o0_0_2_4,o0_0_0_4,())) fun y11=>
 some (true,y11.1,y11.2.1,y11.2.2.1,())
 else none))
 | .inr r=>some r
 else
 (bif (p1_0==(1:Int)) then
 Option.bind (aO.F (p1_2,o0_0_1_4,o0_0_2_4,o0_0_0_4,())) fun y12=>
 Option.bind (cy.F (p1_2,p1_3,p1_4,())) fun y13=>
 some (y13.1,y12.1,y12.2.1,y12.2.2.1,())
 else
 Option.bind (cu.F (p1_0,o5_0_4,())) fun y14=>
 Option.bind (aO.F (y14.1,o0_0_1_4,o0_0_2_4,o0_0_0_4,())) fun y15=>
 some (y14.2.1,y15.1,y15.2.1,y15.2.2.1,())))))
 | .inr r=>some r)
 | .inr r=>some r
noncomputable def bv.F:Int×Int×Int×Int×ByteArray×Bool×(List Int)×(List Int)×Unit→Option (Bool×Bool×(List Int)×(List Int)×Unit):=stk bv.B
theorem bv.eq:bv.F=bv.B:=aN _
theorem bv.ev (x:TS bv.si):evI sq Tryz.f119 bv.h bv.si bv.so x=bv.B x:=by kernel_rfl
theorem bv.fn:FnO 119 Tryz.f119:=fnO (by kernel_rfl) (by kernel_rfl)
theorem bv.ok:aB PP 119 ⟨2,bv.si,bv.so,bv.F⟩:=okI qU bv.fn bv.h (by kernel_rfl) bv.ev
noncomputable def ml:SpL:=(119,[],⟨2,bv.si,bv.so,bv.F⟩)::qT
noncomputable abbrev nh:=cq ml av
theorem mm:bM PP nh:=qU.consS [] bv.fn.enters bv.ok
def aY.si:Sh:=⟨[(0,.v false [.ptr 0 0])],[(0,true,.box 172 [.ref 1,.bool,.sl 3 (.int .i64)]),(1,true,.arr 3 (.int .i64))],[],2,[]⟩
def aY.so:Sh:=⟨[(0,.tup [(false,[.int .i64]),(false,[.bool])])],[(0,true,.box 172 [.ref 1001,.bool,.sl 3 (.int .i64)]),(1001,false,.arr 3 (.int .i64))],[],1002,[(0,0)]⟩
def aY.h:H:=.n
noncomputable def aY.B:Bool×(List Int)×(List Int)×Unit→Option (Int×Bool×Bool×(List Int)×(List Int)×Unit):=fun (o0_1,o0_2,o0_0,_)=>
 (bif (!o0_1) then
 some ((0:Int),false,o0_1,o0_2,o0_0,())
 else
 (bif ((o0_0.length:Int) !=(1:Int)) then
 some ((0:Int),false,o0_1,o0_2,o0_0,())
 else
 bif (decide (0≤(0:Int))&&decide ((0:Int)<(o0_0.length:Int))) then
 let e1:Int:=(List.getD o0_0 0 (0:Int))
 some (e1,true,o0_1,o0_2,o0_0,())
 else none))
noncomputable def aY.F:Bool×(List Int)×(List Int)×Unit→Option (Int×Bool×Bool×(List Int)×(List Int)×Unit):=stk aY.B
theorem aY.eq:aY.F=aY.B:=aN _
theorem aY.ev (x:TS aY.si):evI nh Tryz.f120 aY.h aY.si aY.so x=aY.B x:=by kernel_rfl
theorem aY.fn:FnO 120 Tryz.f120:=fnO (by kernel_rfl) (by kernel_rfl)
theorem aY.ok:aB PP 120 ⟨1,aY.si,aY.so,aY.F⟩:=okI mm aY.fn aY.h (by kernel_rfl) aY.ev
noncomputable def jU:SpL:=(120,[],⟨1,aY.si,aY.so,aY.F⟩)::ml
noncomputable abbrev kx:=cq jU av
theorem jV:bM PP kx:=mm.consS [] aY.fn.enters aY.ok
def db.si:Sh:=⟨[(0,.v false [.sl 78 bD]),(1,.v false [.sl 3 (.int .i64)])],[],[],0,[]⟩
def db.so:Sh:=⟨[(0,.tup [(false,[.int .i64]),(false,[.int .i64])])],[],[],1000,[]⟩
def db.h:H:=(.s none .n (.s none .n (.s none .n (.s none .n (.s (some ⟨[(6,.v false [.ptr 0 0])],[(0,true,.box 172 [.ref 1,.bool,.sl 3 (.int .i64)]),(1,false,.arr 3 (.int .i64))],[],2,[]⟩) (.s none .n (.b (.l ⟨[(6,.v false [.ptr 0 0]),(23,.v false [.int .i64])],[(0,true,.box 172 [.ref 1,.bool,.sl 3 (.int .i64)]),(1,false,.arr 3 (.int .i64))],[21,22],2,[]⟩ .n))) .n)))))
noncomputable def db.B:(List ae)×(List Int)×Unit→Option (Int×Int×Unit):=fun (p0,p1,_)=>
 (bif (decide ((p0.length:Int)>(100:Int))) then
 some ((0:Int),(1:Int),())
 else
 Option.bind (
 bE (S:=Int×Bool×(List Int)×(List Int)×Unit) (fun (x23,o6_0_1,o6_0_2,o6_0_0,_)=>
 (bif (decide (x23<(p0.length:Int))) then
 bif (decide (0≤x23)&&decide (x23<(p0.length:Int))) then
 let e1:ae:=(List.getD p0 (Int.toNat x23) bD.z)
 Option.bind (bv.F (e1.1,e1.2.1,e1.2.2.1,e1.2.2.2.1,e1.2.2.2.2,o6_0_1,o6_0_2,o6_0_0,())) fun y2=>
 (bif (!y2.1) then
 some (.inr (.inr ((0:Int),(30:Int),())))
 else
 let e3:Int:=(IntKind.i64.wrap (x23+(1:Int)))
 some (.inl (e3,y2.2.1,y2.2.2.1,y2.2.2.2.1,())))
 else none
 else
 some (.inr (.inl (o6_0_1,o6_0_2,o6_0_0,()))))) ((0:Int),true,p1,[],()):Option ((Bool×(List Int)×(List Int)×Unit)⊕_)) fun r4=>match r4 with
 | .inl (o6_0_1_4,o6_0_2_4,o6_0_0_4,_)=>
 (Option.bind (aY.F (o6_0_1_4,o6_0_2_4,o6_0_0_4,())) fun y5=>
 (bif y5.2.1 then
 some (y5.1,(0:Int),())
 else
 some ((0:Int),(30:Int),())))
 | .inr r=>some r)
noncomputable def db.F:(List ae)×(List Int)×Unit→Option (Int×Int×Unit):=stk db.B
theorem db.eq:db.F=db.B:=aN _
theorem db.ev (x:TS db.si):evI kx Tryz.f84 db.h db.si db.so x=db.B x:=by kernel_rfl
theorem db.fn:FnO 84 Tryz.f84:=fnO (by kernel_rfl) (by kernel_rfl)
theorem db.ok:aB PP 84 ⟨2,db.si,db.so,db.F⟩:=okI jV db.fn db.h (by kernel_rfl) db.ev
noncomputable def uz:SpL:=(84,[],⟨2,db.si,db.so,db.F⟩)::jU
noncomputable abbrev wq:=cq uz av
theorem uA:bM PP wq:=jV.consS [] db.fn.enters db.ok
def bQ.si:Sh:=⟨[(0,.v false [.sl 78 bD]),(1,.v false [.sl 3 (.int .i64)])],[],[],0,[]⟩
def bQ.so:Sh:=⟨[(0,.v false [.bool])],[],[],1000,[]⟩
def bQ.h:H:=.n
noncomputable def bQ.B:(List ae)×(List Int)×Unit→Option (Bool×Unit):=fun (p0,p1,_)=>
 Option.bind (db.F (p0,p1,())) fun y1=>
 (bif (y1.2.1==(0:Int)) then
 (bif (y1.1==(1:Int)) then
 some (true,())
 else
 some ((y1.1==(0:Int)),()))
 else
 some (false,()))
noncomputable def bQ.F:(List ae)×(List Int)×Unit→Option (Bool×Unit):=stk bQ.B
theorem bQ.eq:bQ.F=bQ.B:=aN _
theorem bQ.ev (x:TS bQ.si):evI wq Tryz.f57 bQ.h bQ.si bQ.so x=bQ.B x:=by kernel_rfl
theorem bQ.fn:FnO 57 Tryz.f57:=fnO (by kernel_rfl) (by kernel_rfl)
theorem bQ.ok:aB PP 57 ⟨2,bQ.si,bQ.so,bQ.F⟩:=okI uA bQ.fn bQ.h (by kernel_rfl) bQ.ev
noncomputable def pz:SpL:=(57,[],⟨2,bQ.si,bQ.so,bQ.F⟩)::uz
noncomputable abbrev iL:=cq pz av
theorem eY:bM PP iL:=uA.consS [] bQ.fn.enters bQ.ok
def bw.si:Sh:=⟨[(0,.v false [.sl 38 fB]),(1,.v true [.str,.sl 41 bR,.sl 32 (.sl 78 bD)])],[],[],0,[]⟩
def bw.so:Sh:=⟨[(0,.v false [.int .i64])],[],[],1000,[]⟩
def bw.h:H:=(.s none .n (.s none .n (.s (some ⟨[],[],[0,3,5],0,[]⟩) (.s none .n (.b (.l ⟨[(24,.v false [.int .i64])],[],[0,3,5,22,23],0,[]⟩ (.s none .n (.s none .n (.s none (.b (.s none .n (.s none .n (.s (some ⟨[(53,.v false [.bool])],[],[0,3,5,22,23,24],0,[]⟩) .n .n)))) .n)))))) (.s (some ⟨[],[],[3,5],0,[]⟩) (.s none .n (.b (.l ⟨[(58,.v false [.int .i64])],[],[0,3,5,56,57],0,[]⟩ (.s none .n (.s none .n (.s none (.b (.s none .n (.s none .n (.s none .n (.s (some ⟨[(12,.v false [.ptr 0 0])],[(0,true,.box 29 [.str,.sl 41 bR,.sl 32 (.sl 78 bD)])],[0,3,5,11,56,57,58],1,[]⟩) .n .n))))) .n)))))) .n))))
noncomputable def bw.B:(List dX)×ByteArray×(List ba)×(List (List ae))×Unit→Option (Int×Unit):=fun (p0,p1_0,p1_1,p1_2,_)=>
 Option.bind (aC.F (p0,(0:Int),p1_0,p1_1,p1_2,(⟨#[]⟩:ByteArray),(⟨#[]⟩:ByteArray),(⟨#[]⟩:ByteArray),(0:Int),(0:Int),([]:List ae),([]:List Int),false,([]:List ct),())) fun y1=>
 Option.bind (
 bE (S:=Int×Unit) (fun (x24,_)=>
 (bif (decide (x24<(p1_1.length:Int))) then
 bif (decide (0≤x24)&&decide (x24<(p1_1.length:Int))) then
 let e2:ba:=(List.getD p1_1 (Int.toNat x24) bR.z)
 Option.bind (
 bE (S:=Int×Unit) (fun (x8',_)=>
 (bif (decide (x8'<(p1_1.length:Int))) then
 Option.bind (
 bif (decide (0≤x8')&&decide (x8'<(p1_1.length:Int))) then
 let e3:ba:=(List.getD p1_1 (Int.toNat x8') bR.z)
 some (.inl ((e3.1.toList==e2.1.toList),()))
 else none:Option ((Bool×Unit)⊕_)) fun r4=>match r4 with
 | .inl (x16_4,_)=>
 ((bif x16_4 then
 Option.map Sum.inr ((bif (x8' !=x24) then
 some (.inl (true,()))
 else
 (bif (x24==(0:Int)) then
 (bif e2.2.2.1 then
 some (.inl (true,()))
 else
 (bif (e2.2.1==(1:Int)) then
 some (.inl (true,()))
 else
 some (.inl ((!(e2.2.2.2.2.1.toList==(⟨#[]⟩:ByteArray).toList)),()))))
 else
 some (.inl (false,())))))
 else
 let e5:Int:=(IntKind.i64.wrap (x8'+(1:Int)))
 some (.inl (e5,()))))
 | .inr r=>some r
 else
 Option.map Sum.inr ((bif ((-1:Int) !=x24) then
 some (.inl (true,()))
 else
 (bif (x24==(0:Int)) then
 (bif e2.2.2.1 then
 some (.inl (true,()))
 else
 (bif (e2.2.1==(1:Int)) then
 some (.inl (true,()))
 else
 some (.inl ((!(e2.2.2.2.2.1.toList==(⟨#[]⟩:ByteArray).toList)),()))))
 else
 some (.inl (false,()))))))) ((0:Int),()):Option ((Bool×Unit)⊕_)) fun r6=>match r6 with
 | .inl (x53_6,_)=>
 ((bif x53_6 then
 some (.inr (.inr ((91:Int),())))
 else
 let e7:Int:=(IntKind.i64.wrap (x24+(1:Int)))
 some (.inl (e7,()))))
 | .inr r=>some r
 else none
 else
 some (.inr (.inl (()))))) ((0:Int),()):Option ((Unit)⊕_)) fun r8=>match r8 with
 | .inl (_)=>
 (Option.bind (
 bE (S:=Int×Unit) (fun (x58,_)=>
 (bif (decide (x58<(p1_1.length:Int))) then
 bif (decide (0≤x58)&&decide (x58<(p1_1.length:Int))) then
 let e9:ba:=(List.getD p1_1 (Int.toNat x58) bR.z)
 (bif (e9.2.2.2.2.1.toList==(⟨#[]⟩:ByteArray).toList) then
 let e10:Int:=(IntKind.i64.wrap (x58+(1:Int)))
 some (.inl (e10,()))
 else
 Option.bind (
 (bif (!(e9.2.2.2.2.1.toList==p1_0.toList)) then
 Option.bind (bm.F (p0,e9.2.2.2.2.1,())) fun y11=>
 (bif (decide (y11.1<(0:Int))) then
 some (.inr (.inr (.inr ((92:Int),()))))
 else
 bif (decide (0≤y11.1)&&decide (y11.1<(p0.length:Int))) then
 let e12:dX:=(List.getD p0 (Int.toNat y11.1) fB.z)
 (bif (e12.1 !=(0:Int)) then
 some (.inr (.inr (.inr ((92:Int),()))))
 else
 bif (decide (0≤y11.1)&&decide (y11.1<(p0.length:Int))) then
 let e13:dX:=(List.getD p0 (Int.toNat y11.1) fB.z)
 some (.inl (e13.2.1.1,e13.2.1.2.1,e13.2.1.2.2,()))
 else none)
 else none)
 else
 some (.inl (p1_0,p1_1,p1_2,()))):Option ((ByteArray×(List ba)×(List (List ae))×Unit)⊕_)) fun r14=>match r14 with
 | .inl (o12_0_0_14,o12_0_1_14,o12_0_2_14,_)=>
 (bif (decide (0≤(0:Int))&&decide ((0:Int)<(o12_0_1_14.length:Int))) then
 let e15:ba:=(List.getD o12_0_1_14 0 bR.z)
 (bif (e15.2.1 !=e9.2.1) then
 some (.inr (.inr ((92:Int),())))
 else
 (bif (e9.2.2.2.2.2==(2:Int)) then
 (bif (!e9.2.2.1) then
 some (.inr (.inr ((92:Int),())))
 else
 let e16:Int:=(IntKind.i64.wrap (x58+(1:Int)))
 some (.inl (e16,())))
 else
 let e17:Int:=(IntKind.i64.wrap (x58+(1:Int)))
 some (.inl (e17,()))))
 else none)
 | .inr r=>some r)
 else none
 else
 some (.inr (.inl (()))))) ((0:Int),()):Option ((Unit)⊕_)) fun r18=>match r18 with
 | .inl (_)=>
 (bE (S:=Int×(List Int)×Unit) (fun (x8,ok_1_0,_)=>
 (bif (decide (x8<(p1_2.length:Int))) then
 Option.bind (
 bif (decide (0≤x8)&&decide (x8<(p1_2.length:Int))) then
 let e19:(List ae):=(List.getD p1_2 (Int.toNat x8) [])
 Option.bind (bQ.F (e19,ok_1_0,())) fun y20=>
 some (.inl ((!y20.1),ok_1_0,()))
 else none:Option ((Bool×(List Int)×Unit)⊕_)) fun r21=>match r21 with
 | .inl (x16_21,ok_1_0_21,_)=>
 ((bif x16_21 then
 Option.map Sum.inr ((bif (decide (x8≥(0:Int))) then
 some ((93:Int),())
 else
 some ((0:Int),())))
 else
 let e22:Int:=(IntKind.i64.wrap (x8+(1:Int)))
 some (.inl (e22,ok_1_0_21,()))))
 | .inr r=>some r
 else
 Option.map Sum.inr ((bif (decide ((-1:Int)≥(0:Int))) then
 some ((93:Int),())
 else
 some ((0:Int),()))))) ((0:Int),y1.1,()))
 | .inr r=>some r)
 | .inr r=>some r
noncomputable def bw.F:(List dX)×ByteArray×(List ba)×(List (List ae))×Unit→Option (Int×Unit):=stk bw.B
theorem bw.eq:bw.F=bw.B:=aN _
noncomputable def bw.ins:Nat→List (Option dU)→cp→Option (Code×List ResultVar×H):=fun g xs hp=>bif Nat.beq g 53 then some (Tryz.f53.body.getD .skip,Tryz.f53.results.toList,.n) else bif Nat.beq g 54&&nu xs hp 1 53 then some (Tryz.f54.body.getD .skip,Tryz.f54.results.toList,(.s none .n (.s none (.s none .n (.b (.l ⟨[(8,.v false [.int .i64])],[],[0,1,7],0,[]⟩ (.s none .n (.s none .n (.s none (.b (.s none .n (.s (some ⟨[(16,.v false [.bool])],[],[0,1,5,7,8],0,[]⟩) .n .n))) .n)))))) .n))) else bif Nat.beq g 55&&nu xs hp 1 56 then some (Tryz.f55.body.getD .skip,Tryz.f55.results.toList,.n) else bif Nat.beq g 56 then some (Tryz.f56.body.getD .skip,Tryz.f56.results.toList,.n) else bif Nat.beq g 83&&nu xs hp 1 56 then some (Tryz.f83.body.getD .skip,Tryz.f83.results.toList,(.s none .n (.s none (.s none .n (.b (.l ⟨[(8,.v false [.int .i64])],[(0,true,.box 33 [.sl 3 (.int .i64)])],[0,1,7],1,[(0,1003)]⟩ (.s none .n (.s none .n (.s none (.b (.s none .n (.s (some ⟨[(16,.v false [.bool])],[(0,true,.box 33 [.sl 3 (.int .i64)])],[0,1,5,7,8],1,[(0,1003)]⟩) .n .n))) .n)))))) .n))) else none
theorem bw.ins_ok:∀n xs hp code res h,bw.ins n xs hp=some (code,res,h)→∃nt,oc PP n code res nt:=by
 intro n xs hp code res h e
 unfold bw.ins at e
 cases e0:(Nat.beq n 53) with
 |true=>rw [e0] at e;cases e;rw [Nat.eq_of_beq_eq_true e0];exact ⟨_,eN (by kernel_rfl) (by kernel_rfl) (by kernel_rfl) (by kernel_rfl)⟩
 |false=>
 rw [e0] at e
 cases e1:(Nat.beq n 54&&nu xs hp 1 53) with
 |true=>rw [e1] at e;cases e;rw [Nat.eq_of_beq_eq_true (Bool.and_eq_true_iff.1 e1).1];exact ⟨_,eN (by kernel_rfl) (by kernel_rfl) (by kernel_rfl) (by kernel_rfl)⟩
 |false=>
 rw [e1] at e
 cases e2:(Nat.beq n 55&&nu xs hp 1 56) with
 |true=>rw [e2] at e;cases e;rw [Nat.eq_of_beq_eq_true (Bool.and_eq_true_iff.1 e2).1];exact ⟨_,eN (by kernel_rfl) (by kernel_rfl) (by kernel_rfl) (by kernel_rfl)⟩
 |false=>
 rw [e2] at e
 cases e3:(Nat.beq n 56) with
 |true=>rw [e3] at e;cases e;rw [Nat.eq_of_beq_eq_true e3];exact ⟨_,eN (by kernel_rfl) (by kernel_rfl) (by kernel_rfl) (by kernel_rfl)⟩
 |false=>
 rw [e3] at e
 cases e4:(Nat.beq n 83&&nu xs hp 1 56) with
 |true=>rw [e4] at e;cases e;rw [Nat.eq_of_beq_eq_true (Bool.and_eq_true_iff.1 e4).1];exact ⟨_,eN (by kernel_rfl) (by kernel_rfl) (by kernel_rfl) (by kernel_rfl)⟩
 |false=>
 rw [e4] at e
 cases e
theorem bw.ev (x:TS bw.si):evF iL (jZ iL bw.ins (jZ iL bw.ins (jZ iL bw.ins lz))) (Tryz.f34.body.getD .skip) Tryz.f34.results.toList bw.h bw.si bw.so x=bw.B x:=by kernel_rfl
theorem bw.fn:FnO 34 Tryz.f34:=fnO (by kernel_rfl) (by kernel_rfl)
theorem bw.ok:aB PP 34 ⟨2,bw.si,bw.so,bw.F⟩:=tB eY (eJ eY (eJ eY (eJ eY (fi _ _) (eo eY mixed) bw.ins_ok) (eo eY mixed) bw.ins_ok) (eo eY mixed) bw.ins_ok) mixed bw.fn bw.h (by kernel_rfl) bw.ev
noncomputable def pA:SpL:=(34,[],⟨2,bw.si,bw.so,bw.F⟩)::pz
noncomputable abbrev qV:=cq pA av
theorem pB:bM PP qV:=eY.consS [] bw.fn.enters bw.ok
def cv.si:Sh:=⟨[(0,.v false [.sl 38 fB]),(1,.v true [.str,.str,.str,.int .i64,.int .i64,.sl 78 bD,.sl 3 (.int .i64),.bool,.sl 66 ei])],[],[],0,[]⟩
def cv.so:Sh:=⟨[(0,.v false [.bool])],[],[],1000,[]⟩
def cv.h:H:=(.s none .n (.s (some ⟨[],[],[0,3],0,[]⟩) .n (.s none .n (.s none .n (.s none .n (.s none (.s (some ⟨[(83,.v false [.bool])],[],[3,7],0,[]⟩) .n .n) (.s (some ⟨[(7,.v false [.sl 3 (.int .i64)])],[],[3],0,[]⟩) .n (.s (some ⟨[],[],[3,7],0,[]⟩) (.s none .n (.b (.l ⟨[(98,.v false [.int .i64])],[],[3,7,96,97],0,[]⟩ .n))) (.s (some ⟨[],[],[3],0,[]⟩) (.s none .n (.b (.l ⟨[(110,.v false [.int .i64])],[],[3,7,108,109],0,[]⟩ (.s none .n (.s none .n (.s none (.b (.s none .n (.s (some ⟨[(136,.v false [.bool])],[],[3,7,108,109,110],0,[]⟩) .n .n))) .n)))))) .n)))))))))
noncomputable def cv.B:(List dX)×ByteArray×ByteArray×ByteArray×Int×Int×(List ae)×(List Int)×Bool×(List ct)×Unit→Option (Bool×Unit):=fun (p0,p1_0,p1_1,p1_2,p1_3,p1_4,p1_5,p1_6,p1_7,p1_8,_)=>
 Option.bind (
 Option.bind (bm.F (p0,p1_1,())) fun y1=>
 (bif (decide (y1.1<(0:Int))) then
 some (.inr (false,()))
 else
 (bif (!(p1_2.toList==(⟨#[]⟩:ByteArray).toList)) then
 Option.bind (bm.F (p0,p1_2,())) fun y2=>
 (bif (decide (y2.1<(0:Int))) then
 some (.inr (false,()))
 else
 some (.inl (())))
 else
 some (.inl (())))):Option ((Unit)⊕_)) fun r3=>match r3 with
 | .inl (_)=>
 (Option.bind (bm.F (p0,p1_1,())) fun y4=>
 bif (decide (0≤y4.1)&&decide (y4.1<(p0.length:Int))) then
 let e5:dX:=(List.getD p0 (Int.toNat y4.1) fB.z)
 Option.bind (aC.F (p0,e5.1,e5.2.1.1,e5.2.1.2.1,e5.2.1.2.2,e5.2.2.1,e5.2.2.2.1,e5.2.2.2.2.1,e5.2.2.2.2.2.1.1,e5.2.2.2.2.2.1.2,e5.2.2.2.2.2.2.1,e5.2.2.2.2.2.2.2.1,e5.2.2.2.2.2.2.2.2.1,e5.2.2.2.2.2.2.2.2.2,())) fun y6=>
 Option.bind (aD.F (p0,p1_0,p1_1,p1_2,p1_3,p1_4,p1_5,p1_6,p1_7,p1_8,())) fun y7=>
 bif (decide (0≤(y6.1.length:Int))&&(decide ((y6.1.length:Int)≤(y7.1.length:Int))&&decide ((y7.1.length:Int)≤(y7.1.length:Int)))) then
 Option.bind (
 (bif (!(p1_2.toList==(⟨#[]⟩:ByteArray).toList)) then
 bif (decide (0≤(0:Int))&&decide ((0:Int)<(2:Int))) then
 (bif (decide (p1_3≥(y6.1.length:Int))) then
 some (.inl (true,()))
 else
 bif (decide (0≤(1:Int))&&decide ((1:Int)<(2:Int))) then
 (bif (decide (p1_4≥((Int.toNat (y7.1.length:Int)-Int.toNat (y6.1.length:Int):Nat):Int))) then
 some (.inl (true,()))
 else
 bif (decide (0≤(0:Int))&&decide ((0:Int)<(2:Int))) then
 bif (decide (0≤p1_3)&&decide (p1_3<(y6.1.length:Int))) then
 let e8:Int:=(List.getD y6.1 (Int.toNat p1_3) (0:Int))
 bif (decide (0≤(1:Int))&&decide ((1:Int)<(2:Int))) then
 bif (decide (0≤p1_4)&&decide (p1_4<((Int.toNat (y7.1.length:Int)-Int.toNat (y6.1.length:Int):Nat):Int))) then
 let e9:Int:=(List.getD y7.1 ((Int.toNat (y6.1.length:Int))+(Int.toNat p1_4):Nat) (0:Int))
 some (.inl ((e8 !=e9),()))
 else none
 else none
 else none
 else none)
 else none)
 else none
 else
 some (.inl (false,()))):Option ((Bool×Unit)⊕_)) fun r10=>match r10 with
 | .inl (x83_10,_)=>
 ((bif x83_10 then
 some (false,())
 else
 Option.bind (
 (bif (decide ((p1_5.length:Int)>(0:Int))) then
 Option.bind (bQ.F (p1_5,y7.1,())) fun y11=>
 (bif (!y11.1) then
 some (.inr (false,()))
 else
 some (.inl (y7.1,())))
 else
 some (.inl (y7.1,()))):Option (((List Int)×Unit)⊕_)) fun r12=>match r12 with
 | .inl (x7_12,_)=>
 (Option.bind (
 bE (S:=Int×Unit) (fun (x98,_)=>
 (bif (decide (x98<(p1_6.length:Int))) then
 bif (decide (0≤x98)&&decide (x98<(p1_6.length:Int))) then
 let e13:Int:=(List.getD p1_6 (Int.toNat x98) (0:Int))
 (bif (decide (e13≥(x7_12.length:Int))) then
 some (.inr (.inr (false,())))
 else
 let e14:Int:=(IntKind.i64.wrap (x98+(1:Int)))
 some (.inl (e14,())))
 else none
 else
 some (.inr (.inl (()))))) ((0:Int),()):Option ((Unit)⊕_)) fun r15=>match r15 with
 | .inl (_)=>
 (Option.bind (
 bE (S:=Int×Unit) (fun (x110,_)=>
 (bif (decide (x110<(p1_8.length:Int))) then
 bif (decide (0≤x110)&&decide (x110<(p1_8.length:Int))) then
 let e16:ct:=(List.getD p1_8 (Int.toNat x110) ei.z)
 Option.bind (
 (bif (e16.1 !=(0:Int)) then
 (bif (decide (e16.2≥(x7_12.length:Int))) then
 some (.inl (true,()))
 else
 (bif (e16.1==(1:Int)) then
 bif (decide (0≤e16.2)&&decide (e16.2<(x7_12.length:Int))) then
 let e17:Int:=(List.getD x7_12 (Int.toNat e16.2) (0:Int))
 some (.inl ((e17 !=(2:Int)),()))
 else none
 else
 some (.inl (false,()))))
 else
 (bif (e16.1==(1:Int)) then
 bif (decide (0≤e16.2)&&decide (e16.2<(x7_12.length:Int))) then
 let e18:Int:=(List.getD x7_12 (Int.toNat e16.2) (0:Int))
 some (.inl ((e18 !=(2:Int)),()))
 else none
 else
 some (.inl (false,())))):Option ((Bool×Unit)⊕_)) fun r19=>match r19 with
 | .inl (x136_19,_)=>
 ((bif x136_19 then
 some (.inr (.inr (false,())))
 else
 let e20:Int:=(IntKind.i64.wrap (x110+(1:Int)))
 some (.inl (e20,()))))
 | .inr r=>some r
 else none
 else
 some (.inr (.inl (()))))) ((0:Int),()):Option ((Unit)⊕_)) fun r21=>match r21 with
 | .inl (_)=>
 (let e22:Int:=(IntKind.i64.wrap ((p1_6.length:Int)+(p1_8.length:Int)))
 (bif p1_7 then
 (bif (decide (e22≥(1:Int))) then
 some ((decide (e22≤(40:Int))),())
 else
 some (false,()))
 else
 (bif ((p1_8.length:Int)==(0:Int)) then
 (bif (decide (e22≥(1:Int))) then
 some ((decide (e22≤(40:Int))),())
 else
 some (false,()))
 else
 some (false,()))))
 | .inr r=>some r)
 | .inr r=>some r)
 | .inr r=>some r))
 | .inr r=>some r
 else none
 else none)
 | .inr r=>some r
noncomputable def cv.F:(List dX)×ByteArray×ByteArray×ByteArray×Int×Int×(List ae)×(List Int)×Bool×(List ct)×Unit→Option (Bool×Unit):=stk cv.B
theorem cv.eq:cv.F=cv.B:=aN _
theorem cv.ev (x:TS cv.si):evI qV Tryz.f35 cv.h cv.si cv.so x=cv.B x:=by kernel_rfl
theorem cv.fn:FnO 35 Tryz.f35:=fnO (by kernel_rfl) (by kernel_rfl)
theorem cv.ok:aB PP 35 ⟨2,cv.si,cv.so,cv.F⟩:=okI pB cv.fn cv.h (by kernel_rfl) cv.ev
noncomputable def qW:SpL:=(35,[],⟨2,cv.si,cv.so,cv.F⟩)::pA
noncomputable abbrev sr:=cq qW av
theorem qX:bM PP sr:=pB.consS [] cv.fn.enters cv.ok
def cJ.si:Sh:=⟨[(0,.v false [.sl 38 fB]),(1,.v true [.int .i64,.str,.sl 41 bR,.sl 32 (.sl 78 bD),.str,.str,.str,.int .i64,.int .i64,.sl 78 bD,.sl 3 (.int .i64),.bool,.sl 66 ei])],[],[],0,[]⟩
def cJ.so:Sh:=⟨[(0,.v false [.int .i64])],[],[],1000,[]⟩
def cJ.h:H:=.n
noncomputable def cJ.B:(List dX)×Int×ByteArray×(List ba)×(List (List ae))×ByteArray×ByteArray×ByteArray×Int×Int×(List ae)×(List Int)×Bool×(List ct)×Unit→Option (Int×Unit):=fun (p0,p1_0,p1_1,p1_2,p1_3,p1_4,p1_5,p1_6,p1_7,p1_8,p1_9,p1_10,p1_11,p1_12,_)=>
 Option.bind (eb.F (p1_0,p1_1,p1_2,p1_3,p1_4,p1_5,p1_6,p1_7,p1_8,p1_9,p1_10,p1_11,p1_12,())) fun y1=>
 (bif (!y1.1) then
 some ((1:Int),())
 else
 (bif (decide ((p0.length:Int)≥(20:Int))) then
 some ((95:Int),())
 else
 Option.bind (cm.F (p1_0,p1_1,p1_2,p1_3,p1_4,p1_5,p1_6,p1_7,p1_8,p1_9,p1_10,p1_11,p1_12,())) fun y2=>
 Option.bind (bm.F (p0,y2.1,())) fun y3=>
 (bif (decide (y3.1≥(0:Int))) then
 some ((90:Int),())
 else
 (bif (p1_0==(0:Int)) then
 Option.bind (bw.F (p0,p1_1,p1_2,p1_3,())) fun y4=>
 some (y4.1,())
 else
 Option.bind (cv.F (p0,p1_4,p1_5,p1_6,p1_7,p1_8,p1_9,p1_10,p1_11,p1_12,())) fun y5=>
 (bif (!y5.1) then
 some ((94:Int),())
 else
 some ((0:Int),()))))))
noncomputable def cJ.F:(List dX)×Int×ByteArray×(List ba)×(List (List ae))×ByteArray×ByteArray×ByteArray×Int×Int×(List ae)×(List Int)×Bool×(List ct)×Unit→Option (Int×Unit):=stk cJ.B
theorem cJ.eq:cJ.F=cJ.B:=aN _
theorem cJ.ev (x:TS cJ.si):evI sr Tryz.f22 cJ.h cJ.si cJ.so x=cJ.B x:=by kernel_rfl
theorem cJ.fn:FnO 22 Tryz.f22:=fnO (by kernel_rfl) (by kernel_rfl)
theorem cJ.ok:aB PP 22 ⟨2,cJ.si,cJ.so,cJ.F⟩:=okI qX cJ.fn cJ.h (by kernel_rfl) cJ.ev
noncomputable def su:SpL:=(22,[],⟨2,cJ.si,cJ.so,cJ.F⟩)::qW
noncomputable abbrev uB:=cq su av
theorem sv:bM PP uB:=qX.consS [] cJ.fn.enters cJ.ok
def cn.si:Sh:=⟨[(0,.v false [.sl 38 fB])],[],[],0,[]⟩
def cn.so:Sh:=⟨[(0,.v false [.bool])],[],[],1000,[]⟩
def cn.h:H:=(.s none .n (.s none (.s none .n (.b (.l ⟨[(7,.v false [.int .i64])],[],[0,5,6],0,[]⟩ .n))) .n))
noncomputable def cn.B:(List dX)×Unit→Option (Bool×Unit):=fun (p0,_)=>
 bE (S:=Int×Unit) (fun (x7,_)=>
 (bif (decide (x7<(p0.length:Int))) then
 bif (decide (0≤x7)&&decide (x7<(p0.length:Int))) then
 let e1:dX:=(List.getD p0 (Int.toNat x7) fB.z)
 bif (decide (0≤(0:Int))&&(decide ((0:Int)≤x7)&&decide (x7≤(p0.length:Int)))) then
 let e2:List dX:=(List.drop (Int.toNat (0:Int)) (List.take (Int.toNat x7) p0))
 Option.bind (cJ.F (e2,e1.1,e1.2.1.1,e1.2.1.2.1,e1.2.1.2.2,e1.2.2.1,e1.2.2.2.1,e1.2.2.2.2.1,e1.2.2.2.2.2.1.1,e1.2.2.2.2.2.1.2,e1.2.2.2.2.2.2.1,e1.2.2.2.2.2.2.2.1,e1.2.2.2.2.2.2.2.2.1,e1.2.2.2.2.2.2.2.2.2,())) fun y3=>
 (bif (y3.1 !=(0:Int)) then
 some (.inr (false,()))
 else
 let e4:Int:=(IntKind.i64.wrap (x7+(1:Int)))
 some (.inl (e4,())))
 else none
 else none
 else
 some (.inr (true,())))) ((0:Int),())
noncomputable def cn.F:(List dX)×Unit→Option (Bool×Unit):=stk cn.B
theorem cn.eq:cn.F=cn.B:=aN _
theorem cn.ev (x:TS cn.si):evI uB Tryz.f10 cn.h cn.si cn.so x=cn.B x:=by kernel_rfl
theorem cn.fn:FnO 10 Tryz.f10:=fnO (by kernel_rfl) (by kernel_rfl)
theorem cn.ok:aB PP 10 ⟨1,cn.si,cn.so,cn.F⟩:=okI sv cn.fn cn.h (by kernel_rfl) cn.ev
noncomputable def sw:SpL:=(10,[],⟨1,cn.si,cn.so,cn.F⟩)::su
noncomputable abbrev uC:=cq sw av
theorem sx:bM PP uC:=sv.consS [] cn.fn.enters cn.ok
def ac.si:Sh:=⟨[(0,.v false [.sl 41 bR])],[],[],0,[]⟩
def ac.so:Sh:=⟨[(0,.v false [.ref 1000])],[(1000,false,.arr 41 bR)],[],1001,[]⟩
def ac.h:H:=.n
noncomputable def ac.B:(List ba)×Unit→Option ((List ba)×Unit):=fun (p0,_)=>
 (bif p0.isEmpty then
 tf (fun b1=>(bif b1 then
 some ([],())
 else
 bif (Nat.ble (([]:List ba).length+p0.length) 2513169434916) then
 some ((([]:List ba)++p0),())
 else none))
 else
 bif (Nat.ble (([]:List ba).length+p0.length) 2513169434916) then
 some ((([]:List ba)++p0),())
 else none)
noncomputable def ac.F:(List ba)×Unit→Option ((List ba)×Unit):=stk ac.B
theorem ac.eq:ac.F=ac.B:=aN _
theorem ac.ev (x:TS ac.si):evI uC Tryz.f38 ac.h ac.si ac.so x=ac.B x:=by kernel_rfl
theorem ac.fn:FnO 38 Tryz.f38:=fnO (by kernel_rfl) (by kernel_rfl)
theorem ac.ok:aB PP 38 ⟨1,ac.si,ac.so,ac.F⟩:=okI sx ac.fn ac.h (by kernel_rfl) ac.ev
noncomputable def eV:SpL:=(38,[],⟨1,ac.si,ac.so,ac.F⟩)::sw
noncomputable abbrev eZ:=cq eV av
theorem eW:bM PP eZ:=sx.consS [] ac.fn.enters ac.ok
def ai.si:Sh:=⟨[(0,.v false [.sl 32 (.sl 78 bD)])],[],[],0,[]⟩
def ai.so:Sh:=⟨[(0,.v false [.ref 1000])],[(1000,false,.arr 32 (.sl 78 bD))],[],1001,[]⟩
def ai.h:H:=.n
noncomputable def ai.B:(List (List ae))×Unit→Option ((List (List ae))×Unit):=fun (p0,_)=>
 (bif p0.isEmpty then
 tf (fun b1=>(bif b1 then
 some ([],())
 else
 bif (Nat.ble (([]:List (List ae)).length+p0.length) 5864062014805) then
 some ((([]:List (List ae))++p0),())
 else none))
 else
 bif (Nat.ble (([]:List (List ae)).length+p0.length) 5864062014805) then
 some ((([]:List (List ae))++p0),())
 else none)
noncomputable def ai.F:(List (List ae))×Unit→Option ((List (List ae))×Unit):=stk ai.B
theorem ai.eq:ai.F=ai.B:=aN _
theorem ai.ev (x:TS ai.si):evI eZ Tryz.f39 ai.h ai.si ai.so x=ai.B x:=by kernel_rfl
theorem ai.fn:FnO 39 Tryz.f39:=fnO (by kernel_rfl) (by kernel_rfl)
theorem ai.ok:aB PP 39 ⟨1,ai.si,ai.so,ai.F⟩:=okI eW ai.fn ai.h (by kernel_rfl) ai.ev
noncomputable def ft:SpL:=(39,[],⟨1,ai.si,ai.so,ai.F⟩)::eV
noncomputable abbrev fF:=cq ft av
theorem fu:bM PP fF:=eW.consS [] ai.fn.enters ai.ok
def ak.si:Sh:=⟨[(0,.v false [.sl 78 bD])],[],[],0,[]⟩
def ak.so:Sh:=⟨[(0,.v false [.ref 1000])],[(1000,false,.arr 78 bD)],[],1001,[]⟩
def ak.h:H:=.n
noncomputable def ak.B:(List ae)×Unit→Option ((List ae)×Unit):=fun (p0,_)=>
 (bif p0.isEmpty then
 tf (fun b1=>(bif b1 then
 some ([],())
 else
 bif (Nat.ble (([]:List ae).length+p0.length) 2932031007402) then
 some ((([]:List ae)++p0),())
 else none))
 else
 bif (Nat.ble (([]:List ae).length+p0.length) 2932031007402) then
 some ((([]:List ae)++p0),())
 else none)
noncomputable def ak.F:(List ae)×Unit→Option ((List ae)×Unit):=stk ak.B
theorem ak.eq:ak.F=ak.B:=aN _
theorem ak.ev (x:TS ak.si):evI fF Tryz.f40 ak.h ak.si ak.so x=ak.B x:=by kernel_rfl
theorem ak.fn:FnO 40 Tryz.f40:=fnO (by kernel_rfl) (by kernel_rfl)
theorem ak.ok:aB PP 40 ⟨1,ak.si,ak.so,ak.F⟩:=okI fu ak.fn ak.h (by kernel_rfl) ak.ev
noncomputable def gc:SpL:=(40,[],⟨1,ak.si,ak.so,ak.F⟩)::ft
noncomputable abbrev gz:=cq gc av
theorem ge:bM PP gz:=fu.consS [] ak.fn.enters ak.ok
def aE.si:Sh:=⟨[(0,.v false [.sl 3 (.int .i64)])],[],[],0,[]⟩
def aE.so:Sh:=⟨[(0,.v false [.ref 1000])],[(1000,false,.arr 3 (.int .i64))],[],1001,[]⟩
def aE.h:H:=.n
noncomputable def aE.B:(List Int)×Unit→Option ((List Int)×Unit):=fun (p0,_)=>
 (bif p0.isEmpty then
 tf (fun b1=>(bif b1 then
 some ([],())
 else
 bif (Nat.ble (([]:List Int).length+p0.length) 17592186044416) then
 some ((([]:List Int)++p0),())
 else none))
 else
 bif (Nat.ble (([]:List Int).length+p0.length) 17592186044416) then
 some ((([]:List Int)++p0),())
 else none)
noncomputable def aE.F:(List Int)×Unit→Option ((List Int)×Unit):=stk aE.B
theorem aE.eq:aE.F=aE.B:=aN _
theorem aE.ev (x:TS aE.si):evI gz Tryz.f41 aE.h aE.si aE.so x=aE.B x:=by kernel_rfl
theorem aE.fn:FnO 41 Tryz.f41:=fnO (by kernel_rfl) (by kernel_rfl)
theorem aE.ok:aB PP 41 ⟨1,aE.si,aE.so,aE.F⟩:=okI ge aE.fn aE.h (by kernel_rfl) aE.ev
noncomputable def iC:SpL:=(41,[],⟨1,aE.si,aE.so,aE.F⟩)::gc
noncomputable abbrev iM:=cq iC av
theorem iD:bM PP iM:=ge.consS [] aE.fn.enters aE.ok
def al.si:Sh:=⟨[(0,.v false [.sl 66 ei])],[],[],0,[]⟩
def al.so:Sh:=⟨[(0,.v false [.ref 1000])],[(1000,false,.arr 66 ei)],[],1001,[]⟩
def al.h:H:=.n
noncomputable def al.B:(List ct)×Unit→Option ((List ct)×Unit):=fun (p0,_)=>
 (bif p0.isEmpty then
 tf (fun b1=>(bif b1 then
 some ([],())
 else
 bif (Nat.ble (([]:List ct).length+p0.length) 8796093022208) then
 some ((([]:List ct)++p0),())
 else none))
 else
 bif (Nat.ble (([]:List ct).length+p0.length) 8796093022208) then
 some ((([]:List ct)++p0),())
 else none)
noncomputable def al.F:(List ct)×Unit→Option ((List ct)×Unit):=stk al.B
theorem al.eq:al.F=al.B:=aN _
theorem al.ev (x:TS al.si):evI iM Tryz.f42 al.h al.si al.so x=al.B x:=by kernel_rfl
theorem al.fn:FnO 42 Tryz.f42:=fnO (by kernel_rfl) (by kernel_rfl)
theorem al.ok:aB PP 42 ⟨1,al.si,al.so,al.F⟩:=okI iD al.fn al.h (by kernel_rfl) al.ev
noncomputable def fJ:SpL:=(42,[],⟨1,al.si,al.so,al.F⟩)::iC
noncomputable abbrev gg:=cq fJ av
theorem fK:bM PP gg:=iD.consS [] al.fn.enters al.ok
def bJ.si:Sh:=⟨[(0,.v true [.int .i64,.str,.sl 41 bR,.sl 32 (.sl 78 bD),.str,.str,.str,.int .i64,.int .i64,.sl 78 bD,.sl 3 (.int .i64),.bool,.sl 66 ei])],[],[],0,[]⟩
def bJ.so:Sh:=⟨[(0,.v true [.int .i64,.str,.ref 1000,.ref 1001,.str,.str,.str,.int .i64,.int .i64,.ref 1002,.ref 1003,.bool,.ref 1004])],[(1000,false,.arr 41 bR),(1001,false,.arr 32 (.sl 78 bD)),(1002,false,.arr 78 bD),(1003,false,.arr 3 (.int .i64)),(1004,false,.arr 66 ei)],[],1005,[]⟩
def bJ.h:H:=(.s none .n (.s none .n (.s (some ⟨[(1,.v false [.ptr 0 0])],[(0,true,.box 38 [.int .i64,.str,.ref 1,.ref 2,.str,.str,.str,.int .i64,.int .i64,.sl 78 bD,.sl 3 (.int .i64),.bool,.sl 66 ei]),(1,false,.arr 41 bR),(2,false,.arr 32 (.sl 78 bD))],[2],3,[]⟩) (.s none .n (.b (.l ⟨[(1,.v false [.ptr 0 0]),(19,.v false [.ref 2]),(21,.v false [.int .i64])],[(0,true,.box 38 [.int .i64,.str,.ref 1,.ref 2,.str,.str,.str,.int .i64,.int .i64,.sl 78 bD,.sl 3 (.int .i64),.bool,.sl 66 ei]),(1,false,.arr 41 bR),(2,false,.arr 32 (.sl 78 bD))],[2,20],3,[]⟩ .n))) .n)))
noncomputable def bJ.B:Int×ByteArray×(List ba)×(List (List ae))×ByteArray×ByteArray×ByteArray×Int×Int×(List ae)×(List Int)×Bool×(List ct)×Unit→Option (Int×ByteArray×ByteArray×ByteArray×ByteArray×Int×Int×Bool×(List ba)×(List (List ae))×(List ae)×(List Int)×(List ct)×Unit):=fun (p0_0,p0_1,p0_2,p0_3,p0_4,p0_5,p0_6,p0_7,p0_8,p0_9,p0_10,p0_11,p0_12,_)=>
 Option.bind (ac.F (p0_2,())) fun y1=>
 Option.bind (ai.F (p0_3,())) fun y2=>
 Option.bind (
 bE (S:=Int×Int×ByteArray×ByteArray×ByteArray×ByteArray×Int×Int×(List ae)×(List Int)×Bool×(List ct)×(List ba)×(List (List ae))×Unit) (fun (x21,o1_0_0,o1_0_1,o1_0_4,o1_0_5,o1_0_6,o1_0_7,o1_0_8,o1_0_9,o1_0_10,o1_0_11,o1_0_12,o1_0_2,o1_0_3,_)=>
 (bif (decide (x21<(y2.1.length:Int))) then
 bif (decide (0≤x21)&&decide (x21<(o1_0_3.length:Int))) then
 let e3:(List ae):=(List.getD o1_0_3 (Int.toNat x21) [])
 Option.bind (ak.F (e3,())) fun y4=>
 bif (decide (0≤x21)&&decide (x21<(o1_0_3.length:Int))) then
 let e5:Int:=(IntKind.i64.wrap (x21+(1:Int)))
 some (.inl (e5,o1_0_0,o1_0_1,o1_0_4,o1_0_5,o1_0_6,o1_0_7,o1_0_8,o1_0_9,o1_0_10,o1_0_11,o1_0_12,o1_0_2,(List.set o1_0_3 (Int.toNat x21) y4.1),()))
 else none
 else none
 else
 some (.inr (.inl (o1_0_0,o1_0_1,o1_0_4,o1_0_5,o1_0_6,o1_0_7,o1_0_8,o1_0_9,o1_0_10,o1_0_11,o1_0_12,o1_0_2,o1_0_3,()))))) ((0:Int),p0_0,p0_1,p0_4,p0_5,p0_6,p0_7,p0_8,p0_9,p0_10,p0_11,p0_12,y1.1,y2.1,()):Option ((Int×ByteArray×ByteArray×ByteArray×ByteArray×Int×Int×(List ae)×(List Int)×Bool×(List ct)×(List ba)×(List (List ae))×Unit)⊕_)) fun r6=>match r6 with
 | .inl (o1_0_0_6,o1_0_1_6,o1_0_4_6,o1_0_5_6,o1_0_6_6,o1_0_7_6,o1_0_8_6,o1_0_9_6,o1_0_10_6,o1_0_11_6,o1_0_12_6,o1_0_2_6,o1_0_3_6,_)=>
 (Option.bind (ak.F (o1_0_9_6,())) fun y7=>
 Option.bind (aE.F (o1_0_10_6,())) fun y8=>
 Option.bind (al.F (o1_0_12_6,())) fun y9=>
 some (o1_0_0_6,o1_0_1_6,o1_0_4_6,o1_0_5_6,o1_0_6_6,o1_0_7_6,o1_0_8_6,o1_0_11_6,o1_0_2_6,o1_0_3_6,y7.1,y8.1,y9.1,()))
 | .inr r=>some r
noncomputable def bJ.F:Int×ByteArray×(List ba)×(List (List ae))×ByteArray×ByteArray×ByteArray×Int×Int×(List ae)×(List Int)×Bool×(List ct)×Unit→Option (Int×ByteArray×ByteArray×ByteArray×ByteArray×Int×Int×Bool×(List ba)×(List (List ae))×(List ae)×(List Int)×(List ct)×Unit):=stk bJ.B
theorem bJ.eq:bJ.F=bJ.B:=aN _
theorem bJ.ev (x:TS bJ.si):evI gg Tryz.f28 bJ.h bJ.si bJ.so x=bJ.B x:=by kernel_rfl
theorem bJ.fn:FnO 28 Tryz.f28:=fnO (by kernel_rfl) (by kernel_rfl)
theorem bJ.ok:aB PP 28 ⟨1,bJ.si,bJ.so,bJ.F⟩:=okI fK bJ.fn bJ.h (by kernel_rfl) bJ.ev
noncomputable def oM:SpL:=(28,[],⟨1,bJ.si,bJ.so,bJ.F⟩)::fJ
noncomputable abbrev pC:=cq oM av
theorem oN:bM PP pC:=fK.consS [] bJ.fn.enters bJ.ok
def ch.si:Sh:=⟨[(0,.v false [.sl 38 fB]),(1,.v true [.int .i64,.str,.sl 41 bR,.sl 32 (.sl 78 bD),.str,.str,.str,.int .i64,.int .i64,.sl 78 bD,.sl 3 (.int .i64),.bool,.sl 66 ei])],[],[],0,[]⟩
def ch.so:Sh:=⟨[(0,.tup [(false,[.ref 1000]),(false,[.int .i64])])],[(1000,false,.arr 38 fB)],[],1001,[]⟩
def ch.h:H:=(.s none .n (.s none .n (.s none .n (.s none .n (.s (some ⟨[(7,.v false [.ref 0])],[(0,false,.arr 38 fB)],[3],1,[]⟩) (.s none .n (.b (.l ⟨[(7,.v false [.ref 0]),(21,.v false [.int .i64])],[(0,false,.arr 38 fB)],[3,19,20],1,[]⟩ .n))) .n)))))
noncomputable def ch.B:(List dX)×Int×ByteArray×(List ba)×(List (List ae))×ByteArray×ByteArray×ByteArray×Int×Int×(List ae)×(List Int)×Bool×(List ct)×Unit→Option (Int×(List dX)×Unit):=fun (p0,p1_0,p1_1,p1_2,p1_3,p1_4,p1_5,p1_6,p1_7,p1_8,p1_9,p1_10,p1_11,p1_12,_)=>
 Option.bind (cn.F (p0,())) fun y1=>
 (bif (!y1.1) then
 some ((1:Int),[],())
 else
 Option.bind (cJ.F (p0,p1_0,p1_1,p1_2,p1_3,p1_4,p1_5,p1_6,p1_7,p1_8,p1_9,p1_10,p1_11,p1_12,())) fun y2=>
 (bif (y2.1 !=(0:Int)) then
 some (y2.1,[],())
 else
 Option.bind (
 bE (S:=Int×(List dX)×Unit) (fun (x21,o7_0,_)=>
 (bif (decide (x21<(p0.length:Int))) then
 bif (decide (0≤x21)&&decide (x21<(p0.length:Int))) then
 let e3:dX:=(List.getD p0 (Int.toNat x21) fB.z)
 Option.bind (bJ.F (e3.1,e3.2.1.1,e3.2.1.2.1,e3.2.1.2.2,e3.2.2.1,e3.2.2.2.1,e3.2.2.2.2.1,e3.2.2.2.2.2.1.1,e3.2.2.2.2.2.1.2,e3.2.2.2.2.2.2.1,e3.2.2.2.2.2.2.2.1,e3.2.2.2.2.2.2.2.2.1,e3.2.2.2.2.2.2.2.2.2,())) fun y4=>
 bif (Nat.ble (o7_0.length+ [(y4.1,((y4.2.1,(y4.2.2.2.2.2.2.2.2.1,y4.2.2.2.2.2.2.2.2.2.1)),(y4.2.2.1,(y4.2.2.2.1,(y4.2.2.2.2.1,((y4.2.2.2.2.2.1,y4.2.2.2.2.2.2.1),(y4.2.2.2.2.2.2.2.2.2.2.1,(y4.2.2.2.2.2.2.2.2.2.2.2.1,(y4.2.2.2.2.2.2.2.1,y4.2.2.2.2.2.2.2.2.2.2.2.2.1)))))))))].length) 651562446089) then
 let e5:Int:=(IntKind.i64.wrap (x21+(1:Int)))
 some (.inl (e5,(o7_0++ [(y4.1,((y4.2.1,(y4.2.2.2.2.2.2.2.2.1,y4.2.2.2.2.2.2.2.2.2.1)),(y4.2.2.1,(y4.2.2.2.1,(y4.2.2.2.2.1,((y4.2.2.2.2.2.1,y4.2.2.2.2.2.2.1),(y4.2.2.2.2.2.2.2.2.2.2.1,(y4.2.2.2.2.2.2.2.2.2.2.2.1,(y4.2.2.2.2.2.2.2.1,y4.2.2.2.2.2.2.2.2.2.2.2.2.1)))))))))]),()))
 else none
 else none
 else
 some (.inr (.inl (o7_0,()))))) ((0:Int),[],()):Option (((List dX)×Unit)⊕_)) fun r6=>match r6 with
 | .inl (o7_0_6,_)=>
 (Option.bind (bJ.F (p1_0,p1_1,p1_2,p1_3,p1_4,p1_5,p1_6,p1_7,p1_8,p1_9,p1_10,p1_11,p1_12,())) fun y7=>
 bif (Nat.ble (o7_0_6.length+ [(y7.1,((y7.2.1,(y7.2.2.2.2.2.2.2.2.1,y7.2.2.2.2.2.2.2.2.2.1)),(y7.2.2.1,(y7.2.2.2.1,(y7.2.2.2.2.1,((y7.2.2.2.2.2.1,y7.2.2.2.2.2.2.1),(y7.2.2.2.2.2.2.2.2.2.2.1,(y7.2.2.2.2.2.2.2.2.2.2.2.1,(y7.2.2.2.2.2.2.2.1,y7.2.2.2.2.2.2.2.2.2.2.2.2.1)))))))))].length) 651562446089) then
 some ((0:Int),(o7_0_6++ [(y7.1,((y7.2.1,(y7.2.2.2.2.2.2.2.2.1,y7.2.2.2.2.2.2.2.2.2.1)),(y7.2.2.1,(y7.2.2.2.1,(y7.2.2.2.2.1,((y7.2.2.2.2.2.1,y7.2.2.2.2.2.2.1),(y7.2.2.2.2.2.2.2.2.2.2.1,(y7.2.2.2.2.2.2.2.2.2.2.2.1,(y7.2.2.2.2.2.2.2.1,y7.2.2.2.2.2.2.2.2.2.2.2.2.1)))))))))]),())
 else none)
 | .inr r=>some r))
noncomputable def ch.F:(List dX)×Int×ByteArray×(List ba)×(List (List ae))×ByteArray×ByteArray×ByteArray×Int×Int×(List ae)×(List Int)×Bool×(List ct)×Unit→Option (Int×(List dX)×Unit):=stk ch.B
theorem ch.eq:ch.F=ch.B:=aN _
theorem ch.ev (x:TS ch.si):evI pC Tryz.f15 ch.h ch.si ch.so x=ch.B x:=by kernel_rfl
theorem ch.fn:FnO 15 Tryz.f15:=fnO (by kernel_rfl) (by kernel_rfl)
theorem ch.ok:aB PP 15 ⟨2,ch.si,ch.so,ch.F⟩:=okI oN ch.fn ch.h (by kernel_rfl) ch.ev
noncomputable def sy:SpL:=(15,[],⟨2,ch.si,ch.so,ch.F⟩)::oM
noncomputable abbrev uD:=cq sy av
theorem sz:bM PP uD:=oN.consS [] ch.fn.enters ch.ok
def dI.si:Sh:=⟨[(0,.v false [.str]),(1,.v false [.str])],[],[],0,[]⟩
def dI.so:Sh:=⟨[(0,.v true [.int .i64,.str,.sl 41 bR,.sl 32 (.sl 78 bD),.str,.str,.str,.int .i64,.int .i64,.sl 78 bD,.ref 1000,.bool,.ref 1001])],[(1000,false,.arr 3 (.int .i64)),(1001,false,.arr 66 ei)],[],1002,[]⟩
def dI.h:H:=.n
noncomputable def dI.B:ByteArray×ByteArray×Unit→Option (Int×ByteArray×(List ba)×(List (List ae))×ByteArray×ByteArray×ByteArray×Int×Int×(List ae)×Bool×(List Int)×(List ct)×Unit):=fun (p0,p1,_)=>
 some ((1:Int),(⟨#[]⟩:ByteArray),([]:List ba),([]:List (List ae)),p0,p1,(⟨#[]⟩:ByteArray),(0:Int),(0:Int),([]:List ae),true,[(1:Int)],[((1:Int),(0:Int))],())
noncomputable def dI.F:ByteArray×ByteArray×Unit→Option (Int×ByteArray×(List ba)×(List (List ae))×ByteArray×ByteArray×ByteArray×Int×Int×(List ae)×Bool×(List Int)×(List ct)×Unit):=stk dI.B
theorem dI.eq:dI.F=dI.B:=aN _
theorem dI.ev (x:TS dI.si):evI uD Tryz.f20 dI.h dI.si dI.so x=dI.B x:=by kernel_rfl
theorem dI.fn:FnO 20 Tryz.f20:=fnO (by kernel_rfl) (by kernel_rfl)
theorem dI.ok:aB PP 20 ⟨2,dI.si,dI.so,dI.F⟩:=okI sz dI.fn dI.h (by kernel_rfl) dI.ev
noncomputable def wt:SpL:=(20,[],⟨2,dI.si,dI.so,dI.F⟩)::sy
noncomputable abbrev zh:=cq wt av
theorem wu:bM PP zh:=sz.consS [] dI.fn.enters dI.ok
def bK.si:Sh:=⟨[(0,.v false [.sl 38 fB]),(1,.v false [.str])],[],[],0,[]⟩
def bK.so:Sh:=⟨[(0,.tup [(false,[.ref 1000]),(false,[.ref 1001]),(false,[.bool])])],[(1000,false,.arr 3 (.int .i64)),(1001,false,.arr 4 .bool)],[],1002,[]⟩
def bK.h:H:=.n
noncomputable def bK.B:(List dX)×ByteArray×Unit→Option (Bool×(List Int)×(List Bool)×Unit):=fun (p0,p1,_)=>
 Option.bind (bm.F (p0,p1,())) fun y1=>
 (bif (decide (y1.1<(0:Int))) then
 some (false,[],[],())
 else
 Option.bind (cn.F (p0,())) fun y2=>
 (bif (!y2.1) then
 some (false,[],[],())
 else
 bif (decide (0≤y1.1)&&decide (y1.1<(p0.length:Int))) then
 let e3:dX:=(List.getD p0 (Int.toNat y1.1) fB.z)
 Option.bind (aC.F (p0,e3.1,e3.2.1.1,e3.2.1.2.1,e3.2.1.2.2,e3.2.2.1,e3.2.2.2.1,e3.2.2.2.2.1,e3.2.2.2.2.2.1.1,e3.2.2.2.2.2.1.2,e3.2.2.2.2.2.2.1,e3.2.2.2.2.2.2.2.1,e3.2.2.2.2.2.2.2.2.1,e3.2.2.2.2.2.2.2.2.2,())) fun y4=>
 some (true,y4.1,y4.2.1,())
 else none))
noncomputable def bK.F:(List dX)×ByteArray×Unit→Option (Bool×(List Int)×(List Bool)×Unit):=stk bK.B
theorem bK.eq:bK.F=bK.B:=aN _
theorem bK.ev (x:TS bK.si):evI zh Tryz.f12 bK.h bK.si bK.so x=bK.B x:=by kernel_rfl
theorem bK.fn:FnO 12 Tryz.f12:=fnO (by kernel_rfl) (by kernel_rfl)
theorem bK.ok:aB PP 12 ⟨2,bK.si,bK.so,bK.F⟩:=okI wu bK.fn bK.h (by kernel_rfl) bK.ev
noncomputable def pD:SpL:=(12,[],⟨2,bK.si,bK.so,bK.F⟩)::wt
noncomputable abbrev qY:=cq pD av
theorem pE:bM PP qY:=wu.consS [] bK.fn.enters bK.ok
def cW.si:Sh:=⟨[],[],[],0,[]⟩
def cW.so:Sh:=⟨[(0,.v false [.bool])],[],[],1000,[]⟩
def cW.h:H:=.n
noncomputable def cW.B:Unit→Option (Bool×Unit):=fun (_)=>
 Option.bind (cS.F ((⟨#[116]⟩:ByteArray),(⟨#[]⟩:ByteArray),())) fun y1=>
 Option.bind (ch.F (([]:List dX),y1.1,y1.2.1,y1.2.2.2.2.2.2.2.2.2.2.2.2.1,y1.2.2.1,y1.2.2.2.1,y1.2.2.2.2.1,y1.2.2.2.2.2.1,y1.2.2.2.2.2.2.1,y1.2.2.2.2.2.2.2.1,y1.2.2.2.2.2.2.2.2.1,y1.2.2.2.2.2.2.2.2.2.1,y1.2.2.2.2.2.2.2.2.2.2.1,y1.2.2.2.2.2.2.2.2.2.2.2.1,())) fun y2=>
 Option.bind (dI.F ((⟨#[118]⟩:ByteArray),(⟨#[116]⟩:ByteArray),())) fun y3=>
 Option.bind (ch.F (y2.2.1,y3.1,y3.2.1,y3.2.2.1,y3.2.2.2.1,y3.2.2.2.2.1,y3.2.2.2.2.2.1,y3.2.2.2.2.2.2.1,y3.2.2.2.2.2.2.2.1,y3.2.2.2.2.2.2.2.2.1,y3.2.2.2.2.2.2.2.2.2.1,y3.2.2.2.2.2.2.2.2.2.2.2.1,y3.2.2.2.2.2.2.2.2.2.2.1,y3.2.2.2.2.2.2.2.2.2.2.2.2.1,())) fun y4=>
 Option.bind (bK.F (y4.2.1,(⟨#[118]⟩:ByteArray),())) fun y5=>
 Option.bind (cS.F ((⟨#[116]⟩:ByteArray),(⟨#[]⟩:ByteArray),())) fun y6=>
 Option.bind (ch.F (y2.2.1,y6.1,y6.2.1,y6.2.2.2.2.2.2.2.2.2.2.2.2.1,y6.2.2.1,y6.2.2.2.1,y6.2.2.2.2.1,y6.2.2.2.2.2.1,y6.2.2.2.2.2.2.1,y6.2.2.2.2.2.2.2.1,y6.2.2.2.2.2.2.2.2.1,y6.2.2.2.2.2.2.2.2.2.1,y6.2.2.2.2.2.2.2.2.2.2.1,y6.2.2.2.2.2.2.2.2.2.2.2.1,())) fun y7=>
 Option.bind (cS.F ((⟨#[117]⟩:ByteArray),(⟨#[120]⟩:ByteArray),())) fun y8=>
 Option.bind (ch.F (y2.2.1,y8.1,y8.2.1,y8.2.2.2.2.2.2.2.2.2.2.2.2.1,y8.2.2.1,y8.2.2.2.1,y8.2.2.2.2.1,y8.2.2.2.2.2.1,y8.2.2.2.2.2.2.1,y8.2.2.2.2.2.2.2.1,y8.2.2.2.2.2.2.2.2.1,y8.2.2.2.2.2.2.2.2.2.1,y8.2.2.2.2.2.2.2.2.2.2.1,y8.2.2.2.2.2.2.2.2.2.2.2.1,())) fun y9=>
 Option.bind (dI.F ((⟨#[118]⟩:ByteArray),(⟨#[120]⟩:ByteArray),())) fun y10=>
 Option.bind (ch.F (y2.2.1,y10.1,y10.2.1,y10.2.2.1,y10.2.2.2.1,y10.2.2.2.2.1,y10.2.2.2.2.2.1,y10.2.2.2.2.2.2.1,y10.2.2.2.2.2.2.2.1,y10.2.2.2.2.2.2.2.2.1,y10.2.2.2.2.2.2.2.2.2.1,y10.2.2.2.2.2.2.2.2.2.2.2.1,y10.2.2.2.2.2.2.2.2.2.2.1,y10.2.2.2.2.2.2.2.2.2.2.2.2.1,())) fun y11=>
 Option.bind (cS.F ((⟨#[117]⟩:ByteArray),(⟨#[117]⟩:ByteArray),())) fun y12=>
 Option.bind (ch.F (y2.2.1,y12.1,y12.2.1,y12.2.2.2.2.2.2.2.2.2.2.2.2.1,y12.2.2.1,y12.2.2.2.1,y12.2.2.2.2.1,y12.2.2.2.2.2.1,y12.2.2.2.2.2.2.1,y12.2.2.2.2.2.2.2.1,y12.2.2.2.2.2.2.2.2.1,y12.2.2.2.2.2.2.2.2.2.1,y12.2.2.2.2.2.2.2.2.2.2.1,y12.2.2.2.2.2.2.2.2.2.2.2.1,())) fun y13=>
 (bif (y2.1==(0:Int)) then
 (bif (y4.1==(0:Int)) then
 Option.bind (dx.F (y5.2.1,[(2:Int),(2:Int)],())) fun y14=>
 (bif y14.1 then
 Option.bind (da.F (y5.2.2.1,[true,true],())) fun y15=>
 (bif y15.1 then
 (bif y5.1 then
 (bif (y7.1==(90:Int)) then
 (bif (y9.1==(92:Int)) then
 (bif (y11.1==(94:Int)) then
 (bif (y13.1==(0:Int)) then
 Option.bind (bm.F (y4.2.1,(⟨#[118]⟩:ByteArray),())) fun y16=>
 (bif (y16.1==(1:Int)) then
 Option.bind (cn.F (y4.2.1,())) fun y17=>
 (bif y17.1 then
 bif (decide (0≤(1:Int))&&(decide ((1:Int)≤(y4.2.1.length:Int))&&decide ((y4.2.1.length:Int)≤(y4.2.1.length:Int)))) then
 let e18:List dX:=(List.drop (Int.toNat (1:Int)) (List.take (Int.toNat (y4.2.1.length:Int)) y4.2.1))
 Option.bind (cn.F (e18,())) fun y19=>
 some ((!y19.1),())
 else none
 else
 some (false,()))
 else
 some (false,()))
 else
 some (false,()))
 else
 some (false,()))
 else
 some (false,()))
 else
 some (false,()))
 else
 some (false,()))
 else
 some (false,()))
 else
 some (false,()))
 else
 some (false,()))
 else
 some (false,()))
noncomputable def cW.F:Unit→Option (Bool×Unit):=stk cW.B
theorem cW.eq:cW.F=cW.B:=aN _
theorem cW.ev (x:TS cW.si):evI qY Tryz.f8 cW.h cW.si cW.so x=cW.B x:=by kernel_rfl
theorem cW.fn:FnO 8 Tryz.f8:=fnO (by kernel_rfl) (by kernel_rfl)
theorem cW.ok:aB PP 8 ⟨0,cW.si,cW.so,cW.F⟩:=okI pE cW.fn cW.h (by kernel_rfl) cW.ev
noncomputable def Bs:SpL:=(8,[],⟨0,cW.si,cW.so,cW.F⟩)::pD
noncomputable abbrev wv:=cq Bs av
theorem Bt:bM PP wv:=pE.consS [] cW.fn.enters cW.ok
def bI.si:Sh:=⟨[(0,.v false [.sl 38 fB]),(1,.v false [.int .i64])],[],[],0,[]⟩
def bI.so:Sh:=⟨[(0,.v false [.bool])],[],[],1000,[]⟩
def bI.h:H:=(.s none .n (.s none (.s (some ⟨[(29,.v false [.bool])],[],[0,1],0,[]⟩) .n .n) (.s none .n (.s none .n (.s (some ⟨[],[],[5,6,7],0,[]⟩) .n .n)))))
noncomputable def bI.B:(List dX)×Int×Unit→Option (Bool×Unit):=fun (p0,p1,_)=>
 Option.bind (
 Option.bind (cW.F (())) fun y1=>
 (bif (!y1.1) then
 some (.inl (true,()))
 else
 Option.bind (ee.F (p0,())) fun y2=>
 (bif y2.1 then
 some (.inl (true,()))
 else
 Option.bind (cn.F (p0,())) fun y3=>
 (bif (!y3.1) then
 some (.inl (true,()))
 else
 (bif (decide (p1<(0:Int))) then
 some (.inl (true,()))
 else
 some (.inl ((decide (p1≥(p0.length:Int))),())))))):Option ((Bool×Unit)⊕_)) fun r4=>match r4 with
 | .inl (x29_4,_)=>
 ((bif x29_4 then
 Option.bind (cW.F (())) fun y5=>
 some (y5.1,())
 else
 bif (decide (0≤p1)&&decide (p1<(p0.length:Int))) then
 let e6:dX:=(List.getD p0 (Int.toNat p1) fB.z)
 Option.bind (dH.F (e6.1,e6.2.1.1,e6.2.1.2.1,e6.2.1.2.2,e6.2.2.1,e6.2.2.2.1,e6.2.2.2.2.1,e6.2.2.2.2.2.1.1,e6.2.2.2.2.2.1.2,e6.2.2.2.2.2.2.1,e6.2.2.2.2.2.2.2.1,e6.2.2.2.2.2.2.2.2.1,e6.2.2.2.2.2.2.2.2.2,())) fun y7=>
 Option.bind (bK.F (p0,y7.1,())) fun y8=>
 Option.bind (
 (bif (!y8.1) then
 some (.inr (false,()))
 else
 (bif ((y8.2.1.length:Int) !=(y8.2.2.1.length:Int)) then
 some (.inr (false,()))
 else
 some (.inl (())))):Option ((Unit)⊕_)) fun r9=>match r9 with
 | .inl (_)=>
 ((bif (e6.1==(0:Int)) then
 (bif ((y8.2.1.length:Int)==(e6.2.1.2.1.length:Int)) then
 bif (decide (0≤(0:Int))&&decide ((0:Int)<(y8.2.2.1.length:Int))) then
 let e10:Bool:=(List.getD y8.2.2.1 0 false)
 (bif (!e10) then
 bif (decide (0≤(0:Int))&&decide ((0:Int)<(y8.2.1.length:Int))) then
 let e11:Int:=(List.getD y8.2.1 0 (0:Int))
 (bif (e11==(2:Int)) then
 some (true,())
 else
 bif (decide (0≤(0:Int))&&decide ((0:Int)<(y8.2.1.length:Int))) then
 let e12:Int:=(List.getD y8.2.1 0 (0:Int))
 some ((e12==(3:Int)),())
 else none)
 else none
 else
 some (false,()))
 else none
 else
 some (false,()))
 else
 let e13:Int:=(IntKind.i64.wrap ((e6.2.2.2.2.2.2.2.1.length:Int)+(e6.2.2.2.2.2.2.2.2.2.length:Int)))
 some (((y8.2.1.length:Int)==e13),())))
 | .inr r=>some r
 else none))
 | .inr r=>some r
noncomputable def bI.F:(List dX)×Int×Unit→Option (Bool×Unit):=stk bI.B
theorem bI.eq:bI.F=bI.B:=aN _
theorem bI.ev (x:TS bI.si):evI wv Tryz.f6 bI.h bI.si bI.so x=bI.B x:=by kernel_rfl
theorem bI.fn:FnO 6 Tryz.f6:=fnO (by kernel_rfl) (by kernel_rfl)
theorem bI.ok:aB PP 6 ⟨2,bI.si,bI.so,bI.F⟩:=okI Bt bI.fn bI.h (by kernel_rfl) bI.ev
end Go.Proofs.Ytleadolkcmagfaa
