import Derived.Test.YtleadolkcmagfaaGreatDoorDA
set_option linter.all false
set_option linter.unusedVariables false
set_option linter.unusedSimpArgs false
set_option linter.unusedSectionVars false
set_option maxRecDepth 100000
namespace Go.Proofs.Ytleadolkcmagfaa
open Go Lv Go.Proofs Go.RowKit Go.Shelf
def aj.si:Sh:=⟨[(0,.v false [.sl 9 .str]),(1,.v false [.str])],[],[],0,[]⟩
def aj.so:Sh:=⟨[(0,.v false [.bool])],[],[],1000,[]⟩
def aj.h:H:=.n
noncomputable def aj.B:(List ByteArray)×ByteArray×Unit→Option (Bool×Unit):=fun (p0,p1,_)=>
 Option.bind (aq.F (p0,p1,())) fun y1=>
 some ((decide (y1.1≥(0:Int))),())
noncomputable def aj.F:=stk aj.B
theorem aj.eq:aj.F=aj.B:=aN _
theorem aj.ev (x:TS aj.si):evI gD Tryz.f174 aj.h aj.si aj.so x=aj.B x:=by kernel_rfl
theorem aj.fn:FnO 174 Tryz.f174:=fnO (by kernel_rfl) (by kernel_rfl)
theorem aj.ok:aB PP 174 ⟨2,aj.si,aj.so,aj.F⟩:=okI gv aj.fn aj.h (by kernel_rfl) aj.ev
noncomputable def fD:SpL:=(174,[],⟨2,aj.si,aj.so,aj.F⟩)::gu
noncomputable abbrev fH:=cq fD fe
theorem fE:bM PP fH:=gv.consS [] aj.fn.enters aj.ok
def dG.si:Sh:=⟨[(0,.v false [.str])],[],[],0,[]⟩
def dG.so:Sh:=⟨[(0,.v false [.bool])],[],[],1000,[]⟩
def dG.h:H:=.n
noncomputable def dG.B:ByteArray×Unit→Option (Bool×Unit):=fun (p0,_)=>
 Option.bind (dz.F (p0,())) fun y1=>
 (bif y1.1 then
 Option.bind (ci.F (())) fun y2=>
 Option.bind (aj.F (y2.1,p0,())) fun y3=>
 some ((!y3.1),())
 else
 some (false,()))
noncomputable def dG.F:=stk dG.B
theorem dG.eq:dG.F=dG.B:=aN _
theorem dG.ev (x:TS dG.si):evI fH Tryz.f162 dG.h dG.si dG.so x=dG.B x:=by kernel_rfl
theorem dG.fn:FnO 162 Tryz.f162:=fnO (by kernel_rfl) (by kernel_rfl)
theorem dG.ok:aB PP 162 ⟨1,dG.si,dG.so,dG.F⟩:=okI fE dG.fn dG.h (by kernel_rfl) dG.ev
noncomputable def nP:SpL:=(162,[],⟨1,dG.si,dG.so,dG.F⟩)::fD
noncomputable abbrev yY:=cq nP fe
theorem vZ:bM PP yY:=fE.consS [] dG.fn.enters dG.ok
def bi.si:Sh:=⟨[(0,.v false [.ptr 0 0])],[(0,true,.box 162 [.sl 111 dA])],[],1,[]⟩
def bi.so:Sh:=⟨[(0,.v false [.str])],[(0,true,.box 162 [.sl 111 dA])],[],1001,[(0,0)]⟩
def bi.h:H:=.n
noncomputable def bi.B:(List bH)×Unit→Option ((ByteArray×(List bH)×Unit)⊕Int):=fun (o0,_)=>
 Option.bind (bh.F (o0,())) fun zy1=>match zy1 with
 | .inl y1=>
 ((bif (y1.1==(0:Int)) then
 Option.bind (dG.F (y1.2.1,())) fun y2=>
 Option.bind (cg.F (y2.1,())) fun zy3=>match zy3 with
 | .inl y3=>
 (some (.inl (y1.2.1,y1.2.2.2.2.2.1,())))
 | .inr n4=>some (.inr n4)
 else
 Option.bind (cg.F (false,())) fun zy5=>match zy5 with
 | .inl y5=>
 (some (.inl (y1.2.1,y1.2.2.2.2.2.1,())))
 | .inr n6=>some (.inr n6)))
 | .inr n7=>some (.inr n7)
noncomputable def bi.F:=stk bi.B
theorem bi.eq:bi.F=bi.B:=aN _
theorem bi.ev (x:TS bi.si):qC yY lz (Tryz.f135.body.getD .skip) Tryz.f135.results.toList bi.h bi.si bi.so x=bi.B x:=by kernel_rfl
theorem bi.fn:FnO 135 Tryz.f135:=fnO (by kernel_rfl) (by kernel_rfl)
theorem bi.ok:ie PP 135 159 ⟨1,bi.si,bi.so,bi.F⟩:=jH vZ (fi _ _) mixed bi.fn bi.h (by kernel_rfl) bi.ev
noncomputable def l9:SqL:=(135,[],⟨1,bi.si,bi.so,bi.F⟩)::fe
noncomputable abbrev na:=cq nP l9
theorem ma:bM PP na:=vZ.consP [] bi.fn.enters bi.ok
def aw.si:Sh:=⟨[(0,.v false [.ptr 0 0])],[(0,true,.box 162 [.sl 111 dA])],[],1,[]⟩
def aw.so:Sh:=⟨[(0,.v true [.str,.int .i64,.bool,.bool,.str,.int .i64])],[(0,true,.box 162 [.sl 111 dA])],[],1001,[(0,0)]⟩
def aw.h:H:=.n
noncomputable def aw.B:(List bH)×Unit→Option ((ByteArray×Int×Bool×Bool×ByteArray×Int×(List bH)×Unit)⊕Int):=fun (o0,_)=>
 Option.bind (bi.F (o0,())) fun zy1=>match zy1 with
 | .inl y1=>
 (Option.bind (bu.F ([(⟨#[98,111,111,108]⟩:ByteArray),(⟨#[105,110,116]⟩:ByteArray),(⟨#[116,101,120,116]⟩:ByteArray)],y1.2.1,())) fun zy2=>match zy2 with
 | .inl y2=>
 (let e3:Int:=(IntKind.i64.wrap ((1:Int)+y2.1))
 Option.bind (aA.F ([(⟨#[110,117,108,108]⟩:ByteArray)],y2.2.1,())) fun y4=>
 Option.bind (aA.F ([(⟨#[117,110,105,113,117,101]⟩:ByteArray)],y4.2.1,())) fun y5=>
 Option.bind (aA.F ([(⟨#[114,101,102]⟩:ByteArray)],y5.2.1,())) fun y6=>
 (bif y6.1 then
 Option.bind (bi.F (y6.2.1,())) fun zy7=>match zy7 with
 | .inl y7=>
 (Option.bind (bu.F ([(⟨#[114,101,115,116,114,105,99,116]⟩:ByteArray),(⟨#[99,97,115,99,97,100,101]⟩:ByteArray),(⟨#[115,101,116,110,117,108,108]⟩:ByteArray)],y7.2.1,())) fun zy8=>match zy8 with
 | .inl y8=>
 (some (.inl (y1.1,e3,y4.1,y5.1,y7.1,y8.1,y8.2.1,())))
 | .inr n9=>some (.inr n9))
 | .inr n10=>some (.inr n10)
 else
 some (.inl (y1.1,e3,y4.1,y5.1,(⟨#[]⟩:ByteArray),(0:Int),y6.2.1,()))))
 | .inr n11=>some (.inr n11))
 | .inr n12=>some (.inr n12)
noncomputable def aw.F:=stk aw.B
theorem aw.eq:aw.F=aw.B:=aN _
theorem aw.ev (x:TS aw.si):qC na lz (Tryz.f138.body.getD .skip) Tryz.f138.results.toList aw.h aw.si aw.so x=aw.B x:=by kernel_rfl
theorem aw.fn:FnO 138 Tryz.f138:=fnO (by kernel_rfl) (by kernel_rfl)
theorem aw.ok:ie PP 138 159 ⟨1,aw.si,aw.so,aw.F⟩:=jH ma (fi _ _) mixed aw.fn aw.h (by kernel_rfl) aw.ev
noncomputable def eD:SqL:=(138,[],⟨1,aw.si,aw.so,aw.F⟩)::l9
noncomputable abbrev jP:=cq nP eD
theorem ju:bM PP jP:=ma.consP [] aw.fn.enters aw.ok
def am.si:Sh:=⟨[(0,.v false [.str]),(1,.v false [.str])],[],[],0,[]⟩
def am.so:Sh:=⟨[(0,.v false [.bool])],[],[],1000,[]⟩
def am.h:H:=.n
noncomputable def am.B:ByteArray×ByteArray×Unit→Option (Bool×Unit):=fun (p0,p1,_)=>
 (bif (decide ((p0.size:Int)≥(p1.size:Int))) then
 bif (decide (0≤(0:Int))&&(decide ((0:Int)≤(p1.size:Int))&&decide ((p1.size:Int)≤(p0.size:Int)))) then
 let e1:ByteArray:=(p0.extract (Int.toNat (0:Int)) (Int.toNat (p1.size:Int)))
 some ((e1.toList==p1.toList),())
 else none
 else
 some (false,()))
noncomputable def am.F:=stk am.B
theorem am.eq:am.F=am.B:=aN _
theorem am.ev (x:TS am.si):evI jP Tryz.f211 am.h am.si am.so x=am.B x:=by kernel_rfl
theorem am.fn:FnO 211 Tryz.f211:=fnO (by kernel_rfl) (by kernel_rfl)
theorem am.ok:aB PP 211 ⟨2,am.si,am.so,am.F⟩:=okI ju am.fn am.h (by kernel_rfl) am.ev
noncomputable def fU:SpL:=(211,[],⟨2,am.si,am.so,am.F⟩)::nP
noncomputable abbrev gw:=cq fU eD
theorem fV:bM PP gw:=ju.consS [] am.fn.enters am.ok
def ao.si:Sh:=⟨[(0,.v false [.str]),(1,.v false [.str])],[],[],0,[]⟩
def ao.so:Sh:=⟨[(0,.tup [(false,[.str]),(false,[.bool])])],[],[],1000,[]⟩
def ao.h:H:=.n
noncomputable def ao.B:ByteArray×ByteArray×Unit→Option (ByteArray×Bool×Unit):=fun (p0,p1,_)=>
 Option.bind (am.F (p0,p1,())) fun y1=>
 (bif (!y1.1) then
 some (p0,false,())
 else
 bif (decide (0≤(p1.size:Int))&&(decide ((p1.size:Int)≤(p0.size:Int))&&decide ((p0.size:Int)≤(p0.size:Int)))) then
 let e2:ByteArray:=(p0.extract (Int.toNat (p1.size:Int)) (Int.toNat (p0.size:Int)))
 some (e2,true,())
 else none)
noncomputable def ao.F:=stk ao.B
theorem ao.eq:ao.F=ao.B:=aN _
theorem ao.ev (x:TS ao.si):evI gw Tryz.f203 ao.h ao.si ao.so x=ao.B x:=by kernel_rfl
theorem ao.fn:FnO 203 Tryz.f203:=fnO (by kernel_rfl) (by kernel_rfl)
theorem ao.ok:aB PP 203 ⟨2,ao.si,ao.so,ao.F⟩:=okI fV ao.fn ao.h (by kernel_rfl) ao.ev
noncomputable def fW:SpL:=(203,[],⟨2,ao.si,ao.so,ao.F⟩)::fU
noncomputable abbrev gx:=cq fW eD
theorem fX:bM PP gx:=fV.consS [] ao.fn.enters ao.ok
def bj.si:Sh:=⟨[(0,.v false [.str]),(1,.v false [.str])],[],[],0,[]⟩
def bj.so:Sh:=⟨[(0,.tup [(false,[.str]),(false,[.bool])])],[],[],1000,[]⟩
def bj.h:H:=.n
noncomputable def bj.B:ByteArray×ByteArray×Unit→Option (ByteArray×Bool×Unit):=fun (p0,p1,_)=>
 Option.bind (ao.F (p0,p1,())) fun y1=>
 some (y1.1,y1.2.1,())
noncomputable def bj.F:=stk bj.B
theorem bj.eq:bj.F=bj.B:=aN _
theorem bj.ev (x:TS bj.si):evI gx Tryz.f189 bj.h bj.si bj.so x=bj.B x:=by kernel_rfl
theorem bj.fn:FnO 189 Tryz.f189:=fnO (by kernel_rfl) (by kernel_rfl)
theorem bj.ok:aB PP 189 ⟨2,bj.si,bj.so,bj.F⟩:=okI fX bj.fn bj.h (by kernel_rfl) bj.ev
noncomputable def ku:SpL:=(189,[],⟨2,bj.si,bj.so,bj.F⟩)::fW
noncomputable abbrev k8:=cq ku eD
theorem kv:bM PP k8:=fX.consS [] bj.fn.enters bj.ok
def cM.si:Sh:=⟨[(0,.v false [.str])],[],[],0,[]⟩
def cM.so:Sh:=⟨[(0,.tup [(false,[.int .i64]),(false,[.bool])])],[],[],1000,[]⟩
def cM.h:H:=.n
noncomputable def cM.B:ByteArray×Unit→Option (Int×Bool×Unit):=fun (p0,_)=>
 Option.bind (bj.F (p0,(⟨#[99]⟩:ByteArray),())) fun y1=>
 Option.bind (bV.F (y1.1,())) fun y2=>
 (bif y1.2.1 then
 (bif y2.2.1 then
 (bif (decide (y2.1≤(99:Int))) then
 Option.bind (strconv_Itoa.F (y2.1,())) fun y3=>
 some (y2.1,(y3.1.toList==y1.1.toList),())
 else
 some (y2.1,false,()))
 else
 some (y2.1,false,()))
 else
 some (y2.1,false,()))
noncomputable def cM.F:=stk cM.B
theorem cM.eq:cM.F=cM.B:=aN _
theorem cM.ev (x:TS cM.si):evI k8 Tryz.f177 cM.h cM.si cM.so x=cM.B x:=by kernel_rfl
theorem cM.fn:FnO 177 Tryz.f177:=fnO (by kernel_rfl) (by kernel_rfl)
theorem cM.ok:aB PP 177 ⟨1,cM.si,cM.so,cM.F⟩:=okI kv cM.fn cM.h (by kernel_rfl) cM.ev
noncomputable def gL:SpL:=(177,[],⟨1,cM.si,cM.so,cM.F⟩)::ku
noncomputable abbrev jQ:=cq gL eD
theorem fY:bM PP jQ:=kv.consS [] cM.fn.enters cM.ok
def aR.si:Sh:=⟨[(0,.v false [.ptr 0 0])],[(0,true,.box 162 [.sl 111 dA])],[],1,[]⟩
def aR.so:Sh:=⟨[(0,.v true [.int .i64,.int .i64,.int .i64,.int .i64,.str])],[(0,true,.box 162 [.sl 111 dA])],[],1001,[(0,0)]⟩
def aR.h:H:=(.s none .n (.s none .n (.s none .n (.s none .n (.s none (.s (some ⟨[(4,.v false [.int .i64]),(5,.v false [.bool])],[],[2,3],0,[]⟩) .d .n) (.s none (.s (some ⟨[(6,.v false [.ptr 0 0]),(7,.v false [.bool])],[(0,false,.box 76 [.int .i64,.int .i64,.str])],[2,3],1,[]⟩) .d .n) .n))))))
noncomputable def aR.B:(List bH)×Unit→Option ((Int×Int×Int×Int×ByteArray×(List bH)×Unit)⊕Int):=fun (o0,_)=>
 Option.bind (aA.F ([(⟨#[110,117,108,108]⟩:ByteArray),(⟨#[63]⟩:ByteArray)],o0,())) fun y1=>
 (bif y1.1 then
 some (.inl ((10:Int),(0:Int),(0:Int),(0:Int),(⟨#[]⟩:ByteArray),y1.2.1,()))
 else
 Option.bind (bh.F (y1.2.1,())) fun zy2=>match zy2 with
 | .inl y2=>
 ((bif (y2.1==(1:Int)) then
 some (.inl ((1:Int),(0:Int),y2.2.2.1,y2.2.2.2.1,y2.2.2.2.2.1,y2.2.2.2.2.2.1,()))
 else
 Option.bind (
 (fun z=>aa [aa [aa [aa [z]]],aa [aa [aa [z]],aa [aa [z]]]]) (let e3:Int:=(Option.getD (eh y2.2.1 (bT (⟨#[110,111,116]⟩:ByteArray) (9:Int) (bT (⟨#[111,114]⟩:ByteArray) (8:Int) (bT (⟨#[97,110,100]⟩:ByteArray) (7:Int) (bT (⟨#[60]⟩:ByteArray) (6:Int) (bT (⟨#[61]⟩:ByteArray) (5:Int) (bT (⟨#[42]⟩:ByteArray) (4:Int) (bT (⟨#[45]⟩:ByteArray) (3:Int) (bT (⟨#[43]⟩:ByteArray) (2:Int) ([]:List (ByteArray×Int))))))))))) (0:Int))
 (fun z=>aa [aa [aa [aa [aa [z]],aa [aa [z]]],aa [aa [aa [z]]]]]) (some (.inl (e3,(Option.isSome (eh y2.2.1 (bT (⟨#[110,111,116]⟩:ByteArray) (9:Int) (bT (⟨#[111,114]⟩:ByteArray) (8:Int) (bT (⟨#[97,110,100]⟩:ByteArray) (7:Int) (bT (⟨#[60]⟩:ByteArray) (6:Int) (bT (⟨#[61]⟩:ByteArray) (5:Int) (bT (⟨#[42]⟩:ByteArray) (4:Int) (bT (⟨#[45]⟩:ByteArray) (3:Int) (bT (⟨#[43]⟩:ByteArray) (2:Int) ([]:List (ByteArray×Int)))))))))))),())))):Option ((Int×Bool×Unit)⊕_)) fun r4=>match r4 with
 | .inl (x4_4,x5_4,_)=>
 ((bif x5_4 then
 some (.inl (x4_4,(0:Int),(0:Int),(0:Int),(⟨#[]⟩:ByteArray),y2.2.2.2.2.2.1,()))
 else
 Option.bind (
 aa [aa [aa [aa [let e5:dn:=(Option.getD (eh y2.2.1 (bT (⟨#[116,114,117,101]⟩:ByteArray) ((1:Int),((1:Int),(⟨#[]⟩:ByteArray))) (bT (⟨#[102,97,108,115,101]⟩:ByteArray) ((1:Int),((0:Int),(⟨#[]⟩:ByteArray))) (bT (⟨#[110,117,108,108]⟩:ByteArray) ((0:Int),((0:Int),(⟨#[]⟩:ByteArray))) ([]:List (ByteArray×dn)))))) ((0:Int),((0:Int),(⟨#[]⟩:ByteArray))))
 (fun z=>aa [aa [aa [aa [aa [aa [z]]],aa [aa [aa [z]],aa [aa [z]]]],aa [aa [aa [aa [z]]],aa [aa [aa [z]]]],aa [aa [aa [aa [z]],aa [aa [z]]],aa [aa [aa [z]]]]],aa [aa [aa [aa [aa [z]],aa [aa [z]]],aa [aa [aa [z]]]]]]) (some (.inl ((Option.isSome (eh y2.2.1 (bT (⟨#[116,114,117,101]⟩:ByteArray) ((1:Int),((1:Int),(⟨#[]⟩:ByteArray))) (bT (⟨#[102,97,108,115,101]⟩:ByteArray) ((1:Int),((0:Int),(⟨#[]⟩:ByteArray))) (bT (⟨#[110,117,108,108]⟩:ByteArray) ((0:Int),((0:Int),(⟨#[]⟩:ByteArray))) ([]:List (ByteArray×dn))))))),e5.1,e5.2.1,e5.2.2,()))),
 aa [let e5:dn:=(Option.getD (eh y2.2.1 (bT (⟨#[116,114,117,101]⟩:ByteArray) ((1:Int),((1:Int),(⟨#[]⟩:ByteArray))) (bT (⟨#[102,97,108,115,101]⟩:ByteArray) ((1:Int),((0:Int),(⟨#[]⟩:ByteArray))) (bT (⟨#[110,117,108,108]⟩:ByteArray) ((0:Int),((0:Int),(⟨#[]⟩:ByteArray))) ([]:List (ByteArray×dn)))))) ((0:Int),((0:Int),(⟨#[]⟩:ByteArray))))
 (fun z=>aa [aa [aa [aa [aa [z]],aa [aa [z]]],aa [aa [aa [z]]]]]) (some (.inl ((Option.isSome (eh y2.2.1 (bT (⟨#[116,114,117,101]⟩:ByteArray) ((1:Int),((1:Int),(⟨#[]⟩:ByteArray))) (bT (⟨#[102,97,108,115,101]⟩:ByteArray) ((1:Int),((0:Int),(⟨#[]⟩:ByteArray))) (bT (⟨#[110,117,108,108]⟩:ByteArray) ((0:Int),((0:Int),(⟨#[]⟩:ByteArray))) ([]:List (ByteArray×dn))))))),e5.1,e5.2.1,e5.2.2,())))]],
 aa [aa [let e5:dn:=(Option.getD (eh y2.2.1 (bT (⟨#[116,114,117,101]⟩:ByteArray) ((1:Int),((1:Int),(⟨#[]⟩:ByteArray))) (bT (⟨#[102,97,108,115,101]⟩:ByteArray) ((1:Int),((0:Int),(⟨#[]⟩:ByteArray))) (bT (⟨#[110,117,108,108]⟩:ByteArray) ((0:Int),((0:Int),(⟨#[]⟩:ByteArray))) ([]:List (ByteArray×dn)))))) ((0:Int),((0:Int),(⟨#[]⟩:ByteArray))))
 (fun z=>aa [aa [aa [aa [aa [z]],aa [aa [z]]],aa [aa [aa [z]]]]]) (some (.inl ((Option.isSome (eh y2.2.1 (bT (⟨#[116,114,117,101]⟩:ByteArray) ((1:Int),((1:Int),(⟨#[]⟩:ByteArray))) (bT (⟨#[102,97,108,115,101]⟩:ByteArray) ((1:Int),((0:Int),(⟨#[]⟩:ByteArray))) (bT (⟨#[110,117,108,108]⟩:ByteArray) ((0:Int),((0:Int),(⟨#[]⟩:ByteArray))) ([]:List (ByteArray×dn))))))),e5.1,e5.2.1,e5.2.2,())))]]],
 aa [aa [aa [let e5:dn:=(Option.getD (eh y2.2.1 (bT (⟨#[116,114,117,101]⟩:ByteArray) ((1:Int),((1:Int),(⟨#[]⟩:ByteArray))) (bT (⟨#[102,97,108,115,101]⟩:ByteArray) ((1:Int),((0:Int),(⟨#[]⟩:ByteArray))) (bT (⟨#[110,117,108,108]⟩:ByteArray) ((0:Int),((0:Int),(⟨#[]⟩:ByteArray))) ([]:List (ByteArray×dn)))))) ((0:Int),((0:Int),(⟨#[]⟩:ByteArray))))
 (fun z=>aa [aa [aa [aa [aa [z]],aa [aa [z]]],aa [aa [aa [z]]]]]) (some (.inl ((Option.isSome (eh y2.2.1 (bT (⟨#[116,114,117,101]⟩:ByteArray) ((1:Int),((1:Int),(⟨#[]⟩:ByteArray))) (bT (⟨#[102,97,108,115,101]⟩:ByteArray) ((1:Int),((0:Int),(⟨#[]⟩:ByteArray))) (bT (⟨#[110,117,108,108]⟩:ByteArray) ((0:Int),((0:Int),(⟨#[]⟩:ByteArray))) ([]:List (ByteArray×dn))))))),e5.1,e5.2.1,e5.2.2,())))]]]],
 aa [aa [aa [let e5:dn:=(Option.getD (eh y2.2.1 (bT (⟨#[116,114,117,101]⟩:ByteArray) ((1:Int),((1:Int),(⟨#[]⟩:ByteArray))) (bT (⟨#[102,97,108,115,101]⟩:ByteArray) ((1:Int),((0:Int),(⟨#[]⟩:ByteArray))) (bT (⟨#[110,117,108,108]⟩:ByteArray) ((0:Int),((0:Int),(⟨#[]⟩:ByteArray))) ([]:List (ByteArray×dn)))))) ((0:Int),((0:Int),(⟨#[]⟩:ByteArray))))
 (fun z=>aa [aa [aa [aa [aa [aa [z]]],aa [aa [aa [z]],aa [aa [z]]]],aa [aa [aa [aa [z]]],aa [aa [aa [z]]]],aa [aa [aa [aa [z]],aa [aa [z]]],aa [aa [aa [z]]]]],aa [aa [aa [aa [aa [z]],aa [aa [z]]],aa [aa [aa [z]]]]]]) (some (.inl ((Option.isSome (eh y2.2.1 (bT (⟨#[116,114,117,101]⟩:ByteArray) ((1:Int),((1:Int),(⟨#[]⟩:ByteArray))) (bT (⟨#[102,97,108,115,101]⟩:ByteArray) ((1:Int),((0:Int),(⟨#[]⟩:ByteArray))) (bT (⟨#[110,117,108,108]⟩:ByteArray) ((0:Int),((0:Int),(⟨#[]⟩:ByteArray))) ([]:List (ByteArray×dn))))))),e5.1,e5.2.1,e5.2.2,()))),
 aa [let e5:dn:=(Option.getD (eh y2.2.1 (bT (⟨#[116,114,117,101]⟩:ByteArray) ((1:Int),((1:Int),(⟨#[]⟩:ByteArray))) (bT (⟨#[102,97,108,115,101]⟩:ByteArray) ((1:Int),((0:Int),(⟨#[]⟩:ByteArray))) (bT (⟨#[110,117,108,108]⟩:ByteArray) ((0:Int),((0:Int),(⟨#[]⟩:ByteArray))) ([]:List (ByteArray×dn)))))) ((0:Int),((0:Int),(⟨#[]⟩:ByteArray))))
 (fun z=>aa [aa [aa [aa [aa [z]],aa [aa [z]]],aa [aa [aa [z]]]]]) (some (.inl ((Option.isSome (eh y2.2.1 (bT (⟨#[116,114,117,101]⟩:ByteArray) ((1:Int),((1:Int),(⟨#[]⟩:ByteArray))) (bT (⟨#[102,97,108,115,101]⟩:ByteArray) ((1:Int),((0:Int),(⟨#[]⟩:ByteArray))) (bT (⟨#[110,117,108,108]⟩:ByteArray) ((0:Int),((0:Int),(⟨#[]⟩:ByteArray))) ([]:List (ByteArray×dn))))))),e5.1,e5.2.1,e5.2.2,())))]],
 aa [aa [let e5:dn:=(Option.getD (eh y2.2.1 (bT (⟨#[116,114,117,101]⟩:ByteArray) ((1:Int),((1:Int),(⟨#[]⟩:ByteArray))) (bT (⟨#[102,97,108,115,101]⟩:ByteArray) ((1:Int),((0:Int),(⟨#[]⟩:ByteArray))) (bT (⟨#[110,117,108,108]⟩:ByteArray) ((0:Int),((0:Int),(⟨#[]⟩:ByteArray))) ([]:List (ByteArray×dn)))))) ((0:Int),((0:Int),(⟨#[]⟩:ByteArray))))
 (fun z=>aa [aa [aa [aa [aa [z]],aa [aa [z]]],aa [aa [aa [z]]]]]) (some (.inl ((Option.isSome (eh y2.2.1 (bT (⟨#[116,114,117,101]⟩:ByteArray) ((1:Int),((1:Int),(⟨#[]⟩:ByteArray))) (bT (⟨#[102,97,108,115,101]⟩:ByteArray) ((1:Int),((0:Int),(⟨#[]⟩:ByteArray))) (bT (⟨#[110,117,108,108]⟩:ByteArray) ((0:Int),((0:Int),(⟨#[]⟩:ByteArray))) ([]:List (ByteArray×dn))))))),e5.1,e5.2.1,e5.2.2,())))]]],
 aa [aa [let e5:dn:=(Option.getD (eh y2.2.1 (bT (⟨#[116,114,117,101]⟩:ByteArray) ((1:Int),((1:Int),(⟨#[]⟩:ByteArray))) (bT (⟨#[102,97,108,115,101]⟩:ByteArray) ((1:Int),((0:Int),(⟨#[]⟩:ByteArray))) (bT (⟨#[110,117,108,108]⟩:ByteArray) ((0:Int),((0:Int),(⟨#[]⟩:ByteArray))) ([]:List (ByteArray×dn)))))) ((0:Int),((0:Int),(⟨#[]⟩:ByteArray))))
 (fun z=>aa [aa [aa [aa [aa [aa [z]]],aa [aa [aa [z]],aa [aa [z]]]],aa [aa [aa [aa [z]]],aa [aa [aa [z]]]],aa [aa [aa [aa [z]],aa [aa [z]]],aa [aa [aa [z]]]]],aa [aa [aa [aa [aa [z]],aa [aa [z]]],aa [aa [aa [z]]]]]]) (some (.inl ((Option.isSome (eh y2.2.1 (bT (⟨#[116,114,117,101]⟩:ByteArray) ((1:Int),((1:Int),(⟨#[]⟩:ByteArray))) (bT (⟨#[102,97,108,115,101]⟩:ByteArray) ((1:Int),((0:Int),(⟨#[]⟩:ByteArray))) (bT (⟨#[110,117,108,108]⟩:ByteArray) ((0:Int),((0:Int),(⟨#[]⟩:ByteArray))) ([]:List (ByteArray×dn))))))),e5.1,e5.2.1,e5.2.2,()))),
 aa [let e5:dn:=(Option.getD (eh y2.2.1 (bT (⟨#[116,114,117,101]⟩:ByteArray) ((1:Int),((1:Int),(⟨#[]⟩:ByteArray))) (bT (⟨#[102,97,108,115,101]⟩:ByteArray) ((1:Int),((0:Int),(⟨#[]⟩:ByteArray))) (bT (⟨#[110,117,108,108]⟩:ByteArray) ((0:Int),((0:Int),(⟨#[]⟩:ByteArray))) ([]:List (ByteArray×dn)))))) ((0:Int),((0:Int),(⟨#[]⟩:ByteArray))))
 (fun z=>aa [aa [aa [aa [aa [z]],aa [aa [z]]],aa [aa [aa [z]]]]]) (some (.inl ((Option.isSome (eh y2.2.1 (bT (⟨#[116,114,117,101]⟩:ByteArray) ((1:Int),((1:Int),(⟨#[]⟩:ByteArray))) (bT (⟨#[102,97,108,115,101]⟩:ByteArray) ((1:Int),((0:Int),(⟨#[]⟩:ByteArray))) (bT (⟨#[110,117,108,108]⟩:ByteArray) ((0:Int),((0:Int),(⟨#[]⟩:ByteArray))) ([]:List (ByteArray×dn))))))),e5.1,e5.2.1,e5.2.2,())))]],
 aa [aa [let e5:dn:=(Option.getD (eh y2.2.1 (bT (⟨#[116,114,117,101]⟩:ByteArray) ((1:Int),((1:Int),(⟨#[]⟩:ByteArray))) (bT (⟨#[102,97,108,115,101]⟩:ByteArray) ((1:Int),((0:Int),(⟨#[]⟩:ByteArray))) (bT (⟨#[110,117,108,108]⟩:ByteArray) ((0:Int),((0:Int),(⟨#[]⟩:ByteArray))) ([]:List (ByteArray×dn)))))) ((0:Int),((0:Int),(⟨#[]⟩:ByteArray))))
 (fun z=>aa [aa [aa [aa [aa [z]],aa [aa [z]]],aa [aa [aa [z]]]]]) (some (.inl ((Option.isSome (eh y2.2.1 (bT (⟨#[116,114,117,101]⟩:ByteArray) ((1:Int),((1:Int),(⟨#[]⟩:ByteArray))) (bT (⟨#[102,97,108,115,101]⟩:ByteArray) ((1:Int),((0:Int),(⟨#[]⟩:ByteArray))) (bT (⟨#[110,117,108,108]⟩:ByteArray) ((0:Int),((0:Int),(⟨#[]⟩:ByteArray))) ([]:List (ByteArray×dn))))))),e5.1,e5.2.1,e5.2.2,())))]]],
 (fun z=>aa [aa [aa [z]],aa [aa [z]]]) (let e5:dn:=(Option.getD (eh y2.2.1 (bT (⟨#[116,114,117,101]⟩:ByteArray) ((1:Int),((1:Int),(⟨#[]⟩:ByteArray))) (bT (⟨#[102,97,108,115,101]⟩:ByteArray) ((1:Int),((0:Int),(⟨#[]⟩:ByteArray))) (bT (⟨#[110,117,108,108]⟩:ByteArray) ((0:Int),((0:Int),(⟨#[]⟩:ByteArray))) ([]:List (ByteArray×dn)))))) ((0:Int),((0:Int),(⟨#[]⟩:ByteArray))))
 (fun z=>aa [aa [aa [aa [aa [z]],aa [aa [z]]],aa [aa [aa [z]]]]]) (some (.inl ((Option.isSome (eh y2.2.1 (bT (⟨#[116,114,117,101]⟩:ByteArray) ((1:Int),((1:Int),(⟨#[]⟩:ByteArray))) (bT (⟨#[102,97,108,115,101]⟩:ByteArray) ((1:Int),((0:Int),(⟨#[]⟩:ByteArray))) (bT (⟨#[110,117,108,108]⟩:ByteArray) ((0:Int),((0:Int),(⟨#[]⟩:ByteArray))) ([]:List (ByteArray×dn))))))),e5.1,e5.2.1,e5.2.2,()))))],
 (fun z=>aa [aa [aa [aa [z]]],aa [aa [aa [z]],aa [aa [z]]]]) (let e5:dn:=(Option.getD (eh y2.2.1 (bT (⟨#[116,114,117,101]⟩:ByteArray) ((1:Int),((1:Int),(⟨#[]⟩:ByteArray))) (bT (⟨#[102,97,108,115,101]⟩:ByteArray) ((1:Int),((0:Int),(⟨#[]⟩:ByteArray))) (bT (⟨#[110,117,108,108]⟩:ByteArray) ((0:Int),((0:Int),(⟨#[]⟩:ByteArray))) ([]:List (ByteArray×dn)))))) ((0:Int),((0:Int),(⟨#[]⟩:ByteArray))))
 (fun z=>aa [aa [aa [aa [aa [z]],aa [aa [z]]],aa [aa [aa [z]]]]]) (some (.inl ((Option.isSome (eh y2.2.1 (bT (⟨#[116,114,117,101]⟩:ByteArray) ((1:Int),((1:Int),(⟨#[]⟩:ByteArray))) (bT (⟨#[102,97,108,115,101]⟩:ByteArray) ((1:Int),((0:Int),(⟨#[]⟩:ByteArray))) (bT (⟨#[110,117,108,108]⟩:ByteArray) ((0:Int),((0:Int),(⟨#[]⟩:ByteArray))) ([]:List (ByteArray×dn))))))),e5.1,e5.2.1,e5.2.2,()))))]:Option ((Bool×Int×Int×ByteArray×Unit)⊕_)) fun r6=>match r6 with
 | .inl (x7_6,o6_0_0_6,o6_0_1_6,o6_0_2_6,_)=>
 ((bif x7_6 then
 some (.inl ((1:Int),(0:Int),o6_0_0_6,o6_0_1_6,o6_0_2_6,y2.2.2.2.2.2.1,()))
 else
 Option.bind (cM.F (y2.2.1,())) fun y7=>
 Option.bind (cg.F (y7.2.1,())) fun zy8=>match zy8 with
 | .inl y8=>
 (some (.inl ((0:Int),y7.1,(0:Int),(0:Int),(⟨#[]⟩:ByteArray),y2.2.2.2.2.2.1,())))
 | .inr n9=>some (.inr n9)))
 | .inr r=>some r))
 | .inr r=>some r))
 | .inr n10=>some (.inr n10))
noncomputable def aR.F:=stk aR.B
theorem aR.eq:aR.F=aR.B:=aN _
noncomputable def aR.ins:Nat→List (Option dU)→cp→Option (Code×List ResultVar×H):=fun g xs hp=>bif Nat.beq g 149 then some (Tryz.f149.body.getD .skip,Tryz.f149.results.toList,.n) else bif Nat.beq g 176 then some (Tryz.f176.body.getD .skip,Tryz.f176.results.toList,.n) else none
theorem aR.ins_ok:∀n xs hp code res h,aR.ins n xs hp=some (code,res,h)→∃nt,oc PP n code res nt:=by
 intro n xs hp code res h e
 unfold aR.ins at e
 cases e0:(Nat.beq n 149) with
 |true=>rw [e0] at e;cases e;rw [Nat.eq_of_beq_eq_true e0];exact ⟨_,eN (by kernel_rfl) (by kernel_rfl) (by kernel_rfl) (by kernel_rfl)⟩
 |false=>
 rw [e0] at e
 cases e1:(Nat.beq n 176) with
 |true=>rw [e1] at e;cases e;rw [Nat.eq_of_beq_eq_true e1];exact ⟨_,eN (by kernel_rfl) (by kernel_rfl) (by kernel_rfl) (by kernel_rfl)⟩
 |false=>
 rw [e1] at e
 cases e
theorem aR.ev (x:TS aR.si):qC jQ (jZ jQ aR.ins (jZ jQ aR.ins (jZ jQ aR.ins lz))) (Tryz.f163.body.getD .skip) Tryz.f163.results.toList aR.h aR.si aR.so x=aR.B x:=by kernel_rfl
theorem aR.fn:FnO 163 Tryz.f163:=fnO (by kernel_rfl) (by kernel_rfl)
theorem aR.ok:ie PP 163 159 ⟨1,aR.si,aR.so,aR.F⟩:=jH fY (eJ fY (eJ fY (eJ fY (fi _ _) (eo fY mixed) aR.ins_ok) (eo fY mixed) aR.ins_ok) (eo fY mixed) aR.ins_ok) mixed aR.fn aR.h (by kernel_rfl) aR.ev
noncomputable def mb:SqL:=(163,[],⟨1,aR.si,aR.so,aR.F⟩)::eD
noncomputable abbrev nc:=cq gL mb
theorem mc:bM PP nc:=fY.consP [] aR.fn.enters aR.ok
def bf.si:Sh:=⟨[(0,.v false [.ptr 0 0])],[(0,true,.box 162 [.sl 111 dA])],[],1,[]⟩
def bf.so:Sh:=⟨[(0,.v false [.ref 1001])],[(0,true,.box 162 [.sl 111 dA]),(1001,false,.arr 78 bD)],[],1002,[(0,0)]⟩
def bf.h:H:=(.s none .n (.s none .n (.s none .n (.s none (.b (.l ⟨[(0,.v false [.ptr 1 0]),(3,.v false [.ref 0])],[(0,false,.arr 78 bD),(1,true,.box 162 [.sl 111 dA])],[],2,[]⟩ .n)) .n))))
noncomputable def bf.B:(List bH)×Unit→Option (((List bH)×(List ae)×Unit)⊕Int):=fun (o0,_)=>
 Option.bind (aA.F ([(⟨#[91]⟩:ByteArray)],o0,())) fun y1=>
 Option.bind (cg.F (y1.1,())) fun zy2=>match zy2 with
 | .inl y2=>
 (bE (S:=(List ae)×(List bH)×Unit) (fun (o3_0,o0_0,_)=>
 Option.bind (aA.F ([(⟨#[93]⟩:ByteArray)],o0_0,())) fun y3=>
 (bif (!y3.1) then
 Option.bind (aR.F (y3.2.1,())) fun zy4=>match zy4 with
 | .inl y4=>
 (bif (Nat.ble (o3_0.length+ [(y4.1,(y4.2.1,(y4.2.2.1,(y4.2.2.2.1,y4.2.2.2.2.1))))].length) 2932031007402) then
 Option.bind (cg.F ((decide (((o3_0++ [(y4.1,(y4.2.1,(y4.2.2.1,(y4.2.2.2.1,y4.2.2.2.2.1))))]).length:Int)≤(100:Int))),())) fun zy5=>match zy5 with
 | .inl y5=>
 (some (.inl ((o3_0++ [(y4.1,(y4.2.1,(y4.2.2.1,(y4.2.2.2.1,y4.2.2.2.2.1))))]),y4.2.2.2.2.2.1,())))
 | .inr n6=>some (.inr (.inr n6))
 else none)
 | .inr n7=>some (.inr (.inr n7))
 else
 some (.inr (.inl (y3.2.1,o3_0,()))))) ([],y1.2.1,()))
 | .inr n8=>some (.inr n8)
noncomputable def bf.F:=stk bf.B
theorem bf.eq:bf.F=bf.B:=aN _
theorem bf.ev (x:TS bf.si):qC nc lz (Tryz.f139.body.getD .skip) Tryz.f139.results.toList bf.h bf.si bf.so x=bf.B x:=by kernel_rfl
theorem bf.fn:FnO 139 Tryz.f139:=fnO (by kernel_rfl) (by kernel_rfl)
theorem bf.ok:ie PP 139 159 ⟨1,bf.si,bf.so,bf.F⟩:=jH mc (fi _ _) mixed bf.fn bf.h (by kernel_rfl) bf.ev
noncomputable def md:SqL:=(139,[],⟨1,bf.si,bf.so,bf.F⟩)::mb
noncomputable abbrev gE:=cq gL md
theorem eB:bM PP gE:=mc.consP [] bf.fn.enters bf.ok
def aM.si:Sh:=⟨[(0,.v false [.ptr 0 0])],[(0,true,.box 162 [.sl 111 dA])],[],1,[]⟩
def aM.so:Sh:=⟨[(0,.v true [.str,.ref 1001,.ref 1002])],[(0,true,.box 162 [.sl 111 dA]),(1001,false,.arr 41 bR),(1002,false,.arr 32 (.sl 78 bD))],[],1003,[(0,0)]⟩
def aM.h:H:=(.s none .n (.s none .n (.s none .n (.s none .n (.s none .n (.s (some ⟨[(3,.v false [.ptr 2 0])],[(0,true,.box 162 [.sl 111 dA]),(1,true,.box 160 [.ptr 0 0]),(2,true,.box 29 [.str,.ref 3,.ref 4]),(3,false,.arr 41 bR),(4,false,.arr 32 (.sl 78 bD))],[2],5,[(0,0),(1,1000)]⟩) (.b (.l ⟨[(1,.v false [.ptr 0 0]),(3,.v false [.ptr 2 0])],[(0,true,.box 160 [.ptr 1 0]),(1,true,.box 162 [.sl 111 dA]),(2,true,.box 29 [.str,.ref 3,.ref 4]),(3,false,.arr 41 bR),(4,false,.arr 32 (.sl 78 bD))],[2],5,[]⟩ (.s none .n (.b (.s (some ⟨[(1,.v false [.ptr 0 0]),(3,.v false [.ptr 2 0])],[(0,true,.box 160 [.ptr 1 0]),(1,true,.box 162 [.sl 111 dA]),(2,true,.box 29 [.str,.ref 3,.ref 4]),(3,false,.arr 41 bR),(4,false,.arr 32 (.sl 78 bD))],[2],5,[]⟩) .d .n))))) .n))))))
noncomputable def aM.B:(List bH)×Unit→Option ((ByteArray×(List bH)×(List ba)×(List (List ae))×Unit)⊕Int):=fun (o0,_)=>
 Option.bind (bi.F (o0,())) fun zy1=>match zy1 with
 | .inl y1=>
 (Option.bind (aA.F ([(⟨#[40]⟩:ByteArray)],y1.2.1,())) fun y2=>
 Option.bind (cg.F (y2.1,())) fun zy3=>match zy3 with
 | .inl y3=>
 (Option.bind (
 aa [aa [aa [aa [Option.bind (aw.F (y2.2.1,())) fun zy4=>match zy4 with
 | .inl y4=>
 (aa [aa [bif (Nat.ble [(y4.1,(y4.2.1,(y4.2.2.1,(y4.2.2.2.1,(y4.2.2.2.2.1,y4.2.2.2.2.2.1)))))].length 2513169434916) then
 aa [aa [some (.inl (y1.1,[(y4.1,(y4.2.1,(y4.2.2.1,(y4.2.2.2.1,(y4.2.2.2.2.1,y4.2.2.2.2.2.1)))))],[],y4.2.2.2.2.2.2.1,()))]]
 else none]])
 | .inr n5=>some (.inr (.inr n5))]],
 aa [aa [Option.bind (aw.F (y2.2.1,())) fun zy4=>match zy4 with
 | .inl y4=>
 (aa [aa [bif (Nat.ble [(y4.1,(y4.2.1,(y4.2.2.1,(y4.2.2.2.1,(y4.2.2.2.2.1,y4.2.2.2.2.2.1)))))].length 2513169434916) then
 aa [aa [some (.inl (y1.1,[(y4.1,(y4.2.1,(y4.2.2.1,(y4.2.2.2.1,(y4.2.2.2.2.1,y4.2.2.2.2.2.1)))))],[],y4.2.2.2.2.2.2.1,()))]]
 else none]])
 | .inr n5=>some (.inr (.inr n5))],
 Option.bind (aw.F (y2.2.1,())) fun zy4=>match zy4 with
 | .inl y4=>
 ((fun z=>aa [aa [aa [z]],aa [aa [z]]]) (bif (Nat.ble [(y4.1,(y4.2.1,(y4.2.2.1,(y4.2.2.2.1,(y4.2.2.2.2.1,y4.2.2.2.2.2.1)))))].length 2513169434916) then
 aa [aa [some (.inl (y1.1,[(y4.1,(y4.2.1,(y4.2.2.1,(y4.2.2.2.1,(y4.2.2.2.2.1,y4.2.2.2.2.2.1)))))],[],y4.2.2.2.2.2.2.1,()))]]
 else none))
 | .inr n5=>some (.inr (.inr n5))]],
 aa [aa [aa [Option.bind (aw.F (y2.2.1,())) fun zy4=>match zy4 with
 | .inl y4=>
 (aa [aa [bif (Nat.ble [(y4.1,(y4.2.1,(y4.2.2.1,(y4.2.2.2.1,(y4.2.2.2.2.1,y4.2.2.2.2.2.1)))))].length 2513169434916) then
 aa [aa [some (.inl (y1.1,[(y4.1,(y4.2.1,(y4.2.2.1,(y4.2.2.2.1,(y4.2.2.2.2.1,y4.2.2.2.2.2.1)))))],[],y4.2.2.2.2.2.2.1,()))]]
 else none]])
 | .inr n5=>some (.inr (.inr n5))],
 Option.bind (aw.F (y2.2.1,())) fun zy4=>match zy4 with
 | .inl y4=>
 ((fun z=>aa [aa [aa [z]],aa [aa [z]]]) (bif (Nat.ble [(y4.1,(y4.2.1,(y4.2.2.1,(y4.2.2.2.1,(y4.2.2.2.2.1,y4.2.2.2.2.2.1)))))].length 2513169434916) then
 aa [aa [some (.inl (y1.1,[(y4.1,(y4.2.1,(y4.2.2.1,(y4.2.2.2.1,(y4.2.2.2.2.1,y4.2.2.2.2.2.1)))))],[],y4.2.2.2.2.2.2.1,()))]]
 else none))
 | .inr n5=>some (.inr (.inr n5))],
 Option.bind (aw.F (y2.2.1,())) fun zy4=>match zy4 with
 | .inl y4=>
 ((fun z=>aa [aa [aa [aa [z]],aa [aa [z]]],aa [aa [aa [z]]]]) (bif (Nat.ble [(y4.1,(y4.2.1,(y4.2.2.1,(y4.2.2.2.1,(y4.2.2.2.2.1,y4.2.2.2.2.2.1)))))].length 2513169434916) then
 aa [aa [some (.inl (y1.1,[(y4.1,(y4.2.1,(y4.2.2.1,(y4.2.2.2.1,(y4.2.2.2.2.1,y4.2.2.2.2.2.1)))))],[],y4.2.2.2.2.2.2.1,()))]]
 else none))
 | .inr n5=>some (.inr (.inr n5))]]:Option ((ByteArray×(List ba)×(List (List ae))×(List bH)×Unit)⊕_)) fun r6=>match r6 with
 | .inl (ok_1_0_0_6,ok_1_0_1_6,ok_1_0_2_6,o0_0_6,_)=>
 (bE (S:=Int×ByteArray×(List ba)×(List (List ae))×(List bH)×Unit) (fun (x4,ok_1_0_0,ok_1_0_1,ok_1_0_2,o0_0,_)=>
 Option.bind (aA.F ([(⟨#[44]⟩:ByteArray)],o0_0,())) fun y7=>
 (bif y7.1 then
 let e8:Int:=(IntKind.i64.wrap (x4+(1:Int)))
 Option.bind (cg.F ((decide (e8≤(40:Int))),())) fun zy9=>match zy9 with
 | .inl y9=>
 (aa [aa [aa [aa [Option.bind (aw.F (y7.2.1,())) fun zy10=>match zy10 with
 | .inl y10=>
 (aa [aa [bif (Nat.ble (ok_1_0_1.length+ [(y10.1,(y10.2.1,(y10.2.2.1,(y10.2.2.2.1,(y10.2.2.2.2.1,y10.2.2.2.2.2.1)))))].length) 2513169434916) then
 aa [aa [some (.inl (e8,ok_1_0_0,(ok_1_0_1++ [(y10.1,(y10.2.1,(y10.2.2.1,(y10.2.2.2.1,(y10.2.2.2.2.1,y10.2.2.2.2.2.1)))))]),ok_1_0_2,y10.2.2.2.2.2.2.1,()))]]
 else none]])
 | .inr n11=>some (.inr (.inr n11))]],
 aa [aa [Option.bind (aw.F (y7.2.1,())) fun zy10=>match zy10 with
 | .inl y10=>
 (aa [aa [bif (Nat.ble (ok_1_0_1.length+ [(y10.1,(y10.2.1,(y10.2.2.1,(y10.2.2.2.1,(y10.2.2.2.2.1,y10.2.2.2.2.2.1)))))].length) 2513169434916) then
 aa [aa [some (.inl (e8,ok_1_0_0,(ok_1_0_1++ [(y10.1,(y10.2.1,(y10.2.2.1,(y10.2.2.2.1,(y10.2.2.2.2.1,y10.2.2.2.2.2.1)))))]),ok_1_0_2,y10.2.2.2.2.2.2.1,()))]]
 else none]])
 | .inr n11=>some (.inr (.inr n11))],
 Option.bind (aw.F (y7.2.1,())) fun zy10=>match zy10 with
 | .inl y10=>
 ((fun z=>aa [aa [aa [z]],aa [aa [z]]]) (bif (Nat.ble (ok_1_0_1.length+ [(y10.1,(y10.2.1,(y10.2.2.1,(y10.2.2.2.1,(y10.2.2.2.2.1,y10.2.2.2.2.2.1)))))].length) 2513169434916) then
 aa [aa [some (.inl (e8,ok_1_0_0,(ok_1_0_1++ [(y10.1,(y10.2.1,(y10.2.2.1,(y10.2.2.2.1,(y10.2.2.2.2.1,y10.2.2.2.2.2.1)))))]),ok_1_0_2,y10.2.2.2.2.2.2.1,()))]]
 else none))
 | .inr n11=>some (.inr (.inr n11))]],
 aa [aa [aa [Option.bind (aw.F (y7.2.1,())) fun zy10=>match zy10 with
 | .inl y10=>
 (aa [aa [bif (Nat.ble (ok_1_0_1.length+ [(y10.1,(y10.2.1,(y10.2.2.1,(y10.2.2.2.1,(y10.2.2.2.2.1,y10.2.2.2.2.2.1)))))].length) 2513169434916) then
 aa [aa [some (.inl (e8,ok_1_0_0,(ok_1_0_1++ [(y10.1,(y10.2.1,(y10.2.2.1,(y10.2.2.2.1,(y10.2.2.2.2.1,y10.2.2.2.2.2.1)))))]),ok_1_0_2,y10.2.2.2.2.2.2.1,()))]]
 else none]])
 | .inr n11=>some (.inr (.inr n11))],
 Option.bind (aw.F (y7.2.1,())) fun zy10=>match zy10 with
 | .inl y10=>
 ((fun z=>aa [aa [aa [z]],aa [aa [z]]]) (bif (Nat.ble (ok_1_0_1.length+ [(y10.1,(y10.2.1,(y10.2.2.1,(y10.2.2.2.1,(y10.2.2.2.2.1,y10.2.2.2.2.2.1)))))].length) 2513169434916) then
 aa [aa [some (.inl (e8,ok_1_0_0,(ok_1_0_1++ [(y10.1,(y10.2.1,(y10.2.2.1,(y10.2.2.2.1,(y10.2.2.2.2.1,y10.2.2.2.2.2.1)))))]),ok_1_0_2,y10.2.2.2.2.2.2.1,()))]]
 else none))
 | .inr n11=>some (.inr (.inr n11))],
 Option.bind (aw.F (y7.2.1,())) fun zy10=>match zy10 with
 | .inl y10=>
 ((fun z=>aa [aa [aa [aa [z]],aa [aa [z]]],aa [aa [aa [z]]]]) (bif (Nat.ble (ok_1_0_1.length+ [(y10.1,(y10.2.1,(y10.2.2.1,(y10.2.2.2.1,(y10.2.2.2.2.1,y10.2.2.2.2.2.1)))))].length) 2513169434916) then
 aa [aa [some (.inl (e8,ok_1_0_0,(ok_1_0_1++ [(y10.1,(y10.2.1,(y10.2.2.1,(y10.2.2.2.1,(y10.2.2.2.2.1,y10.2.2.2.2.2.1)))))]),ok_1_0_2,y10.2.2.2.2.2.2.1,()))]]
 else none))
 | .inr n11=>some (.inr (.inr n11))]])
 | .inr n12=>some (.inr (.inr n12))
 else
 Option.map Sum.inr (Option.bind (aA.F ([(⟨#[41]⟩:ByteArray)],y7.2.1,())) fun y13=>
 Option.bind (cg.F (y13.1,())) fun zy14=>match zy14 with
 | .inl y14=>
 (Option.bind (
 bE (S:=(List bH)×ByteArray×(List ba)×(List (List ae))×Unit) (fun (o1_0_0,o3_0_0,o3_0_1,o3_0_2,_)=>
 Option.bind (aA.F ([(⟨#[99,104,101,99,107]⟩:ByteArray)],o1_0_0,())) fun y15=>
 (bif y15.1 then
 Option.bind (
 aa [aa [aa [aa [Option.bind (bf.F (y15.2.1,())) fun zy16=>match zy16 with
 | .inl y16=>
 (aa [aa [bif (Nat.ble (o3_0_2.length+ [y16.2.1].length) 5864062014805) then
 aa [aa [some (.inl (y16.1,o3_0_0,o3_0_1,(o3_0_2++ [y16.2.1]),()))]]
 else none]])
 | .inr n17=>some (.inr (.inr (.inr (.inr n17))))]],
 aa [aa [Option.bind (bf.F (y15.2.1,())) fun zy16=>match zy16 with
 | .inl y16=>
 (aa [aa [bif (Nat.ble (o3_0_2.length+ [y16.2.1].length) 5864062014805) then
 aa [aa [some (.inl (y16.1,o3_0_0,o3_0_1,(o3_0_2++ [y16.2.1]),()))]]
 else none]])
 | .inr n17=>some (.inr (.inr (.inr (.inr n17))))],
 Option.bind (bf.F (y15.2.1,())) fun zy16=>match zy16 with
 | .inl y16=>
 ((fun z=>aa [aa [aa [z]],aa [aa [z]]]) (bif (Nat.ble (o3_0_2.length+ [y16.2.1].length) 5864062014805) then
 aa [aa [some (.inl (y16.1,o3_0_0,o3_0_1,(o3_0_2++ [y16.2.1]),()))]]
 else none))
 | .inr n17=>some (.inr (.inr (.inr (.inr n17))))]],
 aa [aa [aa [Option.bind (bf.F (y15.2.1,())) fun zy16=>match zy16 with
 | .inl y16=>
 (aa [aa [bif (Nat.ble (o3_0_2.length+ [y16.2.1].length) 5864062014805) then
 aa [aa [some (.inl (y16.1,o3_0_0,o3_0_1,(o3_0_2++ [y16.2.1]),()))]]
 else none]])
 | .inr n17=>some (.inr (.inr (.inr (.inr n17))))],
 Option.bind (bf.F (y15.2.1,())) fun zy16=>match zy16 with
 | .inl y16=>
 ((fun z=>aa [aa [aa [z]],aa [aa [z]]]) (bif (Nat.ble (o3_0_2.length+ [y16.2.1].length) 5864062014805) then
 aa [aa [some (.inl (y16.1,o3_0_0,o3_0_1,(o3_0_2++ [y16.2.1]),()))]]
 else none))
 | .inr n17=>some (.inr (.inr (.inr (.inr n17))))],
 Option.bind (bf.F (y15.2.1,())) fun zy16=>match zy16 with
 | .inl y16=>
 ((fun z=>aa [aa [aa [aa [z]],aa [aa [z]]],aa [aa [aa [z]]]]) (bif (Nat.ble (o3_0_2.length+ [y16.2.1].length) 5864062014805) then
 aa [aa [some (.inl (y16.1,o3_0_0,o3_0_1,(o3_0_2++ [y16.2.1]),()))]]
 else none))
 | .inr n17=>some (.inr (.inr (.inr (.inr n17))))]]:Option (((List bH)×ByteArray×(List ba)×(List (List ae))×Unit)⊕_)) fun r18=>match r18 with
 | .inl (o1_0_0_18,o3_0_0_18,o3_0_1_18,o3_0_2_18,_)=>
 (Option.bind (cg.F ((decide ((o3_0_2_18.length:Int)≤(40:Int))),())) fun zy19=>match zy19 with
 | .inl y19=>
 (some (.inl (o1_0_0_18,o3_0_0_18,o3_0_1_18,o3_0_2_18,())))
 | .inr n20=>some (.inr (.inr (.inr n20))))
 | .inr r=>some r
 else
 some (.inr (.inl (y15.2.1,o3_0_0,o3_0_1,o3_0_2,()))))) (y13.2.1,ok_1_0_0,ok_1_0_1,ok_1_0_2,()):Option (((List bH)×ByteArray×(List ba)×(List (List ae))×Unit)⊕_)) fun r21=>match r21 with
 | .inl (oin_0_21,o3_0_0_21,o3_0_1_21,o3_0_2_21,_)=>
 (some (.inl (o3_0_0_21,oin_0_21,o3_0_1_21,o3_0_2_21,())))
 | .inr r=>some r)
 | .inr n22=>some (.inr n22)))) ((1:Int),ok_1_0_0_6,ok_1_0_1_6,ok_1_0_2_6,o0_0_6,()))
 | .inr r=>some r)
 | .inr n23=>some (.inr n23))
 | .inr n24=>some (.inr n24)
noncomputable def aM.F:=stk aM.B
theorem aM.eq:aM.F=aM.B:=aN _
noncomputable def aM.ins:Nat→List (Option dU)→cp→Option (Code×List ResultVar×H):=fun g xs hp=>bif Nat.beq g 136&&nu xs hp 1 137 then some (Tryz.f136.body.getD .skip,Tryz.f136.results.toList,(.s none .n (.s (some ⟨[(0,.v false [.ptr 3 0])],[(0,true,.box 29 [.str,.ref 1,.ref 2]),(1,false,.arr 41 bR),(2,false,.arr 32 (.sl 78 bD)),(3,true,.box 162 [.sl 111 dA])],[1,4],4,[(0,1003)]⟩) .n (.b (.l ⟨[(0,.v false [.ptr 3 0]),(4,.v false [.int .i64])],[(0,true,.box 29 [.str,.ref 1,.ref 2]),(1,false,.arr 41 bR),(2,false,.arr 32 (.sl 78 bD)),(3,true,.box 162 [.sl 111 dA])],[1],4,[(0,1003)]⟩ .n))))) else bif Nat.beq g 137 then some (Tryz.f137.body.getD .skip,Tryz.f137.results.toList,.d) else none
theorem aM.ins_ok:∀n xs hp code res h,aM.ins n xs hp=some (code,res,h)→∃nt,oc PP n code res nt:=by
 intro n xs hp code res h e
 unfold aM.ins at e
 cases e0:(Nat.beq n 136&&nu xs hp 1 137) with
 |true=>rw [e0] at e;cases e;rw [Nat.eq_of_beq_eq_true (Bool.and_eq_true_iff.1 e0).1];exact ⟨_,eN (by kernel_rfl) (by kernel_rfl) (by kernel_rfl) (by kernel_rfl)⟩
 |false=>
 rw [e0] at e
 cases e1:(Nat.beq n 137) with
 |true=>rw [e1] at e;cases e;rw [Nat.eq_of_beq_eq_true e1];exact ⟨_,eN (by kernel_rfl) (by kernel_rfl) (by kernel_rfl) (by kernel_rfl)⟩
 |false=>
 rw [e1] at e
 cases e
theorem aM.ev (x:TS aM.si):qC gE (jZ gE aM.ins (jZ gE aM.ins (jZ gE aM.ins lz))) (Tryz.f110.body.getD .skip) Tryz.f110.results.toList aM.h aM.si aM.so x=aM.B x:=by kernel_rfl
theorem aM.fn:FnO 110 Tryz.f110:=fnO (by kernel_rfl) (by kernel_rfl)
theorem aM.ok:ie PP 110 159 ⟨1,aM.si,aM.so,aM.F⟩:=jH eB (eJ eB (eJ eB (eJ eB (fi _ _) (eo eB mixed) aM.ins_ok) (eo eB mixed) aM.ins_ok) (eo eB mixed) aM.ins_ok) mixed aM.fn aM.h (by kernel_rfl) aM.ev
noncomputable def la:SqL:=(110,[],⟨1,aM.si,aM.so,aM.F⟩)::md
noncomputable abbrev me:=cq gL la
theorem lb:bM PP me:=eB.consP [] aM.fn.enters aM.ok
def aP.si:Sh:=⟨[(0,.v false [.ptr 0 0])],[(0,true,.box 162 [.sl 111 dA])],[],1,[]⟩
def aP.so:Sh:=⟨[(0,.v false [.int .i64])],[(0,true,.box 162 [.sl 111 dA])],[],1001,[(0,0)]⟩
def aP.h:H:=(.s none .n (.s none .n (.s (some ⟨[],[],[3],0,[]⟩) .n .n)))
noncomputable def aP.B:(List bH)×Unit→Option ((Int×(List bH)×Unit)⊕Int):=fun (o0,_)=>
 Option.bind (bh.F (o0,())) fun zy1=>match zy1 with
 | .inl y1=>
 (Option.bind (
 (bif (y1.1==(1:Int)) then
 (bif (y1.2.2.1==(2:Int)) then
 (bif (decide (y1.2.2.2.1≥(0:Int))) then
 Option.bind (cg.F ((decide (y1.2.2.2.1≤(99:Int))),())) fun zy2=>match zy2 with
 | .inl y2=>
 (some (.inl (())))
 | .inr n3=>some (.inr (.inr n3))
 else
 Option.bind (cg.F (false,())) fun zy4=>match zy4 with
 | .inl y4=>
 (some (.inl (())))
 | .inr n5=>some (.inr (.inr n5)))
 else
 Option.bind (cg.F (false,())) fun zy6=>match zy6 with
 | .inl y6=>
 (some (.inl (())))
 | .inr n7=>some (.inr (.inr n7)))
 else
 Option.bind (cg.F (false,())) fun zy8=>match zy8 with
 | .inl y8=>
 (some (.inl (())))
 | .inr n9=>some (.inr (.inr n9))):Option ((Unit)⊕_)) fun r10=>match r10 with
 | .inl (_)=>
 (some (.inl (y1.2.2.2.1,y1.2.2.2.2.2.1,())))
 | .inr r=>some r)
 | .inr n11=>some (.inr n11)
noncomputable def aP.F:=stk aP.B
theorem aP.eq:aP.F=aP.B:=aN _
theorem aP.ev (x:TS aP.si):qC me lz (Tryz.f140.body.getD .skip) Tryz.f140.results.toList aP.h aP.si aP.so x=aP.B x:=by kernel_rfl
theorem aP.fn:FnO 140 Tryz.f140:=fnO (by kernel_rfl) (by kernel_rfl)
theorem aP.ok:ie PP 140 159 ⟨1,aP.si,aP.so,aP.F⟩:=jH lb (fi _ _) mixed aP.fn aP.h (by kernel_rfl) aP.ev
noncomputable def nd:SqL:=(140,[],⟨1,aP.si,aP.so,aP.F⟩)::la
noncomputable abbrev gT:=cq gL nd
theorem eI:bM PP gT:=lb.consP [] aP.fn.enters aP.ok
def aU.si:Sh:=⟨[(0,.v false [.ptr 0 0])],[(0,true,.box 162 [.sl 111 dA])],[],1,[]⟩
def aU.so:Sh:=⟨[(0,.v true [.str,.str,.str,.int .i64,.int .i64,.ref 1001,.ref 1002,.bool,.ref 1003])],[(0,true,.box 162 [.sl 111 dA]),(1001,false,.arr 78 bD),(1002,false,.arr 3 (.int .i64)),(1003,false,.arr 66 ei)],[],1004,[(0,0)]⟩
def aU.h:H:=(.s none .n (.s none .n (.s none .n (.s none .n (.s (some ⟨[(1,.v false [.ptr 0 0]),(3,.v false [.ptr 2 0])],[(0,true,.box 160 [.ptr 1 0]),(1,true,.box 162 [.sl 111 dA]),(2,true,.box 36 [.str,.str,.str,.int .i64,.int .i64,.ref 3,.ref 4,.bool,.ref 5]),(3,false,.arr 78 bD),(4,false,.arr 3 (.int .i64)),(5,false,.arr 66 ei)],[2],6,[]⟩) .n (.s (some ⟨[(1,.v false [.ptr 0 0]),(3,.v false [.ptr 2 0])],[(0,true,.box 160 [.ptr 1 0]),(1,true,.box 162 [.sl 111 dA]),(2,true,.box 36 [.str,.str,.str,.int .i64,.int .i64,.ref 3,.ref 4,.bool,.ref 5]),(3,false,.arr 78 bD),(4,false,.arr 3 (.int .i64)),(5,false,.arr 66 ei)],[2],6,[]⟩) .n (.s none .n (.s (some ⟨[(1,.v false [.ptr 0 0]),(3,.v false [.ptr 2 0])],[(0,true,.box 160 [.ptr 1 0]),(1,true,.box 162 [.sl 111 dA]),(2,true,.box 36 [.str,.str,.str,.int .i64,.int .i64,.ref 3,.ref 4,.bool,.ref 5]),(3,false,.arr 78 bD),(4,false,.arr 3 (.int .i64)),(5,false,.arr 66 ei)],[2],6,[]⟩) .n .n))))))))
noncomputable def aU.B:(List bH)×Unit→Option ((ByteArray×ByteArray×ByteArray×Int×Int×Bool×(List bH)×(List ae)×(List Int)×(List ct)×Unit)⊕Int):=fun (o0,_)=>
 Option.bind (bi.F (o0,())) fun zy1=>match zy1 with
 | .inl y1=>
 (Option.bind (aA.F ([(⟨#[102,114,111,109]⟩:ByteArray)],y1.2.1,())) fun y2=>
 Option.bind (cg.F (y2.1,())) fun zy3=>match zy3 with
 | .inl y3=>
 (Option.bind (bi.F (y2.2.1,())) fun zy4=>match zy4 with
 | .inl y4=>
 (Option.bind (
 Option.bind (aA.F ([(⟨#[106,111,105,110]⟩:ByteArray)],y4.2.1,())) fun y5=>
 (bif y5.1 then
 Option.bind (bi.F (y5.2.1,())) fun zy6=>match zy6 with
 | .inl y6=>
 (Option.bind (aA.F ([(⟨#[111,110]⟩:ByteArray)],y6.2.1,())) fun y7=>
 Option.bind (cg.F (y7.1,())) fun zy8=>match zy8 with
 | .inl y8=>
 (Option.bind (aP.F (y7.2.1,())) fun zy9=>match zy9 with
 | .inl y9=>
 (bif (decide (0≤(0:Int))&&decide ((0:Int)<(2:Int))) then
 Option.bind (aA.F ([(⟨#[61]⟩:ByteArray)],y9.2.1,())) fun y10=>
 Option.bind (cg.F (y10.1,())) fun zy11=>match zy11 with
 | .inl y11=>
 (Option.bind (aP.F (y10.2.1,())) fun zy12=>match zy12 with
 | .inl y12=>
 (bif (decide (0≤(1:Int))&&decide ((1:Int)<(2:Int))) then
 some (.inl (y12.2.1,y1.1,y4.1,y6.1,y9.1,y12.1,false,[],[],[],()))
 else none)
 | .inr n13=>some (.inr (.inr n13)))
 | .inr n14=>some (.inr (.inr n14))
 else none)
 | .inr n15=>some (.inr (.inr n15)))
 | .inr n16=>some (.inr (.inr n16)))
 | .inr n17=>some (.inr (.inr n17))
 else
 some (.inl (y5.2.1,y1.1,y4.1,(⟨#[]⟩:ByteArray),(0:Int),(0:Int),false,[],[],[],()))):Option (((List bH)×ByteArray×ByteArray×ByteArray×Int×Int×Bool×(List ae)×(List Int)×(List ct)×Unit)⊕_)) fun r18=>match r18 with
 | .inl (o1_0_0_18,o3_0_0_18,o3_0_1_18,o3_0_2_18,o3_0_3_18,o3_0_4_18,o3_0_7_18,o3_0_5_18,o3_0_6_18,o3_0_8_18,_)=>
 (Option.bind (
 Option.bind (aA.F ([(⟨#[119,104,101,114,101]⟩:ByteArray)],o1_0_0_18,())) fun y19=>
 (bif y19.1 then
 Option.bind (bf.F (y19.2.1,())) fun zy20=>match zy20 with
 | .inl y20=>
 (some (.inl (y20.1,o3_0_0_18,o3_0_1_18,o3_0_2_18,o3_0_3_18,o3_0_4_18,o3_0_7_18,y20.2.1,o3_0_6_18,o3_0_8_18,())))
 | .inr n21=>some (.inr (.inr n21))
 else
 some (.inl (y19.2.1,o3_0_0_18,o3_0_1_18,o3_0_2_18,o3_0_3_18,o3_0_4_18,o3_0_7_18,o3_0_5_18,o3_0_6_18,o3_0_8_18,()))):Option (((List bH)×ByteArray×ByteArray×ByteArray×Int×Int×Bool×(List ae)×(List Int)×(List ct)×Unit)⊕_)) fun r22=>match r22 with
 | .inl (o1_0_0_22,o3_0_0_22,o3_0_1_22,o3_0_2_22,o3_0_3_22,o3_0_4_22,o3_0_7_22,o3_0_5_22,o3_0_6_22,o3_0_8_22,_)=>
 (Option.bind (aA.F ([(⟨#[112,105,99,107]⟩:ByteArray)],o1_0_0_22,())) fun y23=>
 Option.bind (cg.F (y23.1,())) fun zy24=>match zy24 with
 | .inl y24=>
 (Option.bind (
 (bif (decide ((y23.2.1.length:Int)>(0:Int))) then
 Option.bind (bG.F ([(⟨#[103,114,111,117,112]⟩:ByteArray)],y23.2.1,())) fun y25=>
 (bif (!y25.1) then
 Option.bind (
 aa [aa [aa [aa [Option.bind (aP.F (y25.2.1,())) fun zy26=>match zy26 with
 | .inl y26=>
 (aa [aa [bif (Nat.ble (o3_0_6_22.length+ [y26.1].length) 17592186044416) then
 aa [aa [some (.inl (o3_0_0_22,o3_0_1_22,o3_0_2_22,o3_0_3_22,o3_0_4_22,o3_0_7_22,o3_0_5_22,(o3_0_6_22++ [y26.1]),o3_0_8_22,y26.2.1,()))]]
 else none]])
 | .inr n27=>some (.inr (.inr (.inr n27)))]],
 aa [aa [Option.bind (aP.F (y25.2.1,())) fun zy26=>match zy26 with
 | .inl y26=>
 (aa [aa [bif (Nat.ble (o3_0_6_22.length+ [y26.1].length) 17592186044416) then
 aa [aa [some (.inl (o3_0_0_22,o3_0_1_22,o3_0_2_22,o3_0_3_22,o3_0_4_22,o3_0_7_22,o3_0_5_22,(o3_0_6_22++ [y26.1]),o3_0_8_22,y26.2.1,()))]]
 else none]])
 | .inr n27=>some (.inr (.inr (.inr n27)))],
 Option.bind (aP.F (y25.2.1,())) fun zy26=>match zy26 with
 | .inl y26=>
 ((fun z=>aa [aa [aa [z]],aa [aa [z]]]) (bif (Nat.ble (o3_0_6_22.length+ [y26.1].length) 17592186044416) then
 aa [aa [some (.inl (o3_0_0_22,o3_0_1_22,o3_0_2_22,o3_0_3_22,o3_0_4_22,o3_0_7_22,o3_0_5_22,(o3_0_6_22++ [y26.1]),o3_0_8_22,y26.2.1,()))]]
 else none))
 | .inr n27=>some (.inr (.inr (.inr n27)))]],
 aa [aa [aa [Option.bind (aP.F (y25.2.1,())) fun zy26=>match zy26 with
 | .inl y26=>
 (aa [aa [bif (Nat.ble (o3_0_6_22.length+ [y26.1].length) 17592186044416) then
 aa [aa [some (.inl (o3_0_0_22,o3_0_1_22,o3_0_2_22,o3_0_3_22,o3_0_4_22,o3_0_7_22,o3_0_5_22,(o3_0_6_22++ [y26.1]),o3_0_8_22,y26.2.1,()))]]
 else none]])
 | .inr n27=>some (.inr (.inr (.inr n27)))],
 Option.bind (aP.F (y25.2.1,())) fun zy26=>match zy26 with
 | .inl y26=>
 ((fun z=>aa [aa [aa [z]],aa [aa [z]]]) (bif (Nat.ble (o3_0_6_22.length+ [y26.1].length) 17592186044416) then
 aa [aa [some (.inl (o3_0_0_22,o3_0_1_22,o3_0_2_22,o3_0_3_22,o3_0_4_22,o3_0_7_22,o3_0_5_22,(o3_0_6_22++ [y26.1]),o3_0_8_22,y26.2.1,()))]]
 else none))
 | .inr n27=>some (.inr (.inr (.inr n27)))],
 Option.bind (aP.F (y25.2.1,())) fun zy26=>match zy26 with
 | .inl y26=>
 ((fun z=>aa [aa [aa [aa [z]],aa [aa [z]]],aa [aa [aa [z]]]]) (bif (Nat.ble (o3_0_6_22.length+ [y26.1].length) 17592186044416) then
 aa [aa [some (.inl (o3_0_0_22,o3_0_1_22,o3_0_2_22,o3_0_3_22,o3_0_4_22,o3_0_7_22,o3_0_5_22,(o3_0_6_22++ [y26.1]),o3_0_8_22,y26.2.1,()))]]
 else none))
 | .inr n27=>some (.inr (.inr (.inr n27)))]]:Option ((ByteArray×ByteArray×ByteArray×Int×Int×Bool×(List ae)×(List Int)×(List ct)×(List bH)×Unit)⊕_)) fun r28=>match r28 with
 | .inl (ok_1_0_0_28,ok_1_0_1_28,ok_1_0_2_28,ok_1_0_3_28,ok_1_0_4_28,ok_1_0_7_28,ok_1_0_5_28,ok_1_0_6_28,ok_1_0_8_28,o0_0_28,_)=>
 (bE (S:=Int×ByteArray×ByteArray×ByteArray×Int×Int×Bool×(List ae)×(List Int)×(List ct)×(List bH)×Unit) (fun (x4,ok_1_0_0,ok_1_0_1,ok_1_0_2,ok_1_0_3,ok_1_0_4,ok_1_0_7,ok_1_0_5,ok_1_0_6,ok_1_0_8,o0_0,_)=>
 Option.bind (aA.F ([(⟨#[44]⟩:ByteArray)],o0_0,())) fun y29=>
 (bif y29.1 then
 let e30:Int:=(IntKind.i64.wrap (x4+(1:Int)))
 Option.bind (cg.F ((decide (e30≤(40:Int))),())) fun zy31=>match zy31 with
 | .inl y31=>
 (aa [aa [aa [aa [Option.bind (aP.F (y29.2.1,())) fun zy32=>match zy32 with
 | .inl y32=>
 (aa [aa [bif (Nat.ble (ok_1_0_6.length+ [y32.1].length) 17592186044416) then
 aa [aa [some (.inl (e30,ok_1_0_0,ok_1_0_1,ok_1_0_2,ok_1_0_3,ok_1_0_4,ok_1_0_7,ok_1_0_5,(ok_1_0_6++ [y32.1]),ok_1_0_8,y32.2.1,()))]]
 else none]])
 | .inr n33=>some (.inr (.inr (.inr n33)))]],
 aa [aa [Option.bind (aP.F (y29.2.1,())) fun zy32=>match zy32 with
 | .inl y32=>
 (aa [aa [bif (Nat.ble (ok_1_0_6.length+ [y32.1].length) 17592186044416) then
 aa [aa [some (.inl (e30,ok_1_0_0,ok_1_0_1,ok_1_0_2,ok_1_0_3,ok_1_0_4,ok_1_0_7,ok_1_0_5,(ok_1_0_6++ [y32.1]),ok_1_0_8,y32.2.1,()))]]
 else none]])
 | .inr n33=>some (.inr (.inr (.inr n33)))],
 Option.bind (aP.F (y29.2.1,())) fun zy32=>match zy32 with
 | .inl y32=>
 ((fun z=>aa [aa [aa [z]],aa [aa [z]]]) (bif (Nat.ble (ok_1_0_6.length+ [y32.1].length) 17592186044416) then
 aa [aa [some (.inl (e30,ok_1_0_0,ok_1_0_1,ok_1_0_2,ok_1_0_3,ok_1_0_4,ok_1_0_7,ok_1_0_5,(ok_1_0_6++ [y32.1]),ok_1_0_8,y32.2.1,()))]]
 else none))
 | .inr n33=>some (.inr (.inr (.inr n33)))]],
 aa [aa [aa [Option.bind (aP.F (y29.2.1,())) fun zy32=>match zy32 with
 | .inl y32=>
 (aa [aa [bif (Nat.ble (ok_1_0_6.length+ [y32.1].length) 17592186044416) then
 aa [aa [some (.inl (e30,ok_1_0_0,ok_1_0_1,ok_1_0_2,ok_1_0_3,ok_1_0_4,ok_1_0_7,ok_1_0_5,(ok_1_0_6++ [y32.1]),ok_1_0_8,y32.2.1,()))]]
 else none]])
 | .inr n33=>some (.inr (.inr (.inr n33)))],
 Option.bind (aP.F (y29.2.1,())) fun zy32=>match zy32 with
 | .inl y32=>
 ((fun z=>aa [aa [aa [z]],aa [aa [z]]]) (bif (Nat.ble (ok_1_0_6.length+ [y32.1].length) 17592186044416) then
 aa [aa [some (.inl (e30,ok_1_0_0,ok_1_0_1,ok_1_0_2,ok_1_0_3,ok_1_0_4,ok_1_0_7,ok_1_0_5,(ok_1_0_6++ [y32.1]),ok_1_0_8,y32.2.1,()))]]
 else none))
 | .inr n33=>some (.inr (.inr (.inr n33)))],
 Option.bind (aP.F (y29.2.1,())) fun zy32=>match zy32 with
 | .inl y32=>
 ((fun z=>aa [aa [aa [aa [z]],aa [aa [z]]],aa [aa [aa [z]]]]) (bif (Nat.ble (ok_1_0_6.length+ [y32.1].length) 17592186044416) then
 aa [aa [some (.inl (e30,ok_1_0_0,ok_1_0_1,ok_1_0_2,ok_1_0_3,ok_1_0_4,ok_1_0_7,ok_1_0_5,(ok_1_0_6++ [y32.1]),ok_1_0_8,y32.2.1,()))]]
 else none))
 | .inr n33=>some (.inr (.inr (.inr n33)))]])
 | .inr n34=>some (.inr (.inr (.inr n34)))
 else
 some (.inr (.inl (y29.2.1,ok_1_0_0,ok_1_0_1,ok_1_0_2,ok_1_0_3,ok_1_0_4,ok_1_0_7,ok_1_0_5,ok_1_0_6,ok_1_0_8,()))))) ((1:Int),ok_1_0_0_28,ok_1_0_1_28,ok_1_0_2_28,ok_1_0_3_28,ok_1_0_4_28,ok_1_0_7_28,ok_1_0_5_28,ok_1_0_6_28,ok_1_0_8_28,o0_0_28,()))
 | .inr r=>some r
 else
 some (.inl (y25.2.1,o3_0_0_22,o3_0_1_22,o3_0_2_22,o3_0_3_22,o3_0_4_22,o3_0_7_22,o3_0_5_22,o3_0_6_22,o3_0_8_22,())))
 else
 some (.inl (y23.2.1,o3_0_0_22,o3_0_1_22,o3_0_2_22,o3_0_3_22,o3_0_4_22,o3_0_7_22,o3_0_5_22,o3_0_6_22,o3_0_8_22,()))):Option (((List bH)×ByteArray×ByteArray×ByteArray×Int×Int×Bool×(List ae)×(List Int)×(List ct)×Unit)⊕_)) fun r35=>match r35 with
 | .inl (o1_0_0_35,o3_0_0_35,o3_0_1_35,o3_0_2_35,o3_0_3_35,o3_0_4_35,o3_0_7_35,o3_0_5_35,o3_0_6_35,o3_0_8_35,_)=>
 (Option.bind (aA.F ([(⟨#[103,114,111,117,112]⟩:ByteArray)],o1_0_0_35,())) fun y36=>
 (bif y36.1 then
 (bif (decide ((y36.2.1.length:Int)>(0:Int))) then
 Option.bind (
 Option.bind (bu.F ([(⟨#[99,111,117,110,116]⟩:ByteArray),(⟨#[115,117,109]⟩:ByteArray),(⟨#[109,105,110]⟩:ByteArray),(⟨#[109,97,120]⟩:ByteArray)],y36.2.1,())) fun zy37=>match zy37 with
 | .inl y37=>
 ((bif (y37.1 !=(0:Int)) then
 Option.bind (aP.F (y37.2.1,())) fun zy38=>match zy38 with
 | .inl y38=>
 (bif (Nat.ble (o3_0_8_35.length+ [(y37.1,y38.1)].length) 8796093022208) then
 some (.inl (o3_0_0_35,o3_0_1_35,o3_0_2_35,o3_0_3_35,o3_0_4_35,y36.1,o3_0_5_35,o3_0_6_35,(o3_0_8_35++ [(y37.1,y38.1)]),y38.2.1,()))
 else none)
 | .inr n39=>some (.inr (.inr n39))
 else
 bif (Nat.ble (o3_0_8_35.length+ [(y37.1,(0:Int))].length) 8796093022208) then
 some (.inl (o3_0_0_35,o3_0_1_35,o3_0_2_35,o3_0_3_35,o3_0_4_35,y36.1,o3_0_5_35,o3_0_6_35,(o3_0_8_35++ [(y37.1,(0:Int))]),y37.2.1,()))
 else none))
 | .inr n40=>some (.inr (.inr n40)):Option ((ByteArray×ByteArray×ByteArray×Int×Int×Bool×(List ae)×(List Int)×(List ct)×(List bH)×Unit)⊕_)) fun r41=>match r41 with
 | .inl (ok_1_1_0_41,ok_1_1_1_41,ok_1_1_2_41,ok_1_1_3_41,ok_1_1_4_41,ok_1_1_7_41,ok_1_1_5_41,ok_1_1_6_41,ok_1_1_8_41,o0_0_41,_)=>
 (bE (S:=Int×ByteArray×ByteArray×ByteArray×Int×Int×Bool×(List ae)×(List Int)×(List ct)×(List bH)×Unit) (fun (x4,ok_1_1_0,ok_1_1_1,ok_1_1_2,ok_1_1_3,ok_1_1_4,ok_1_1_7,ok_1_1_5,ok_1_1_6,ok_1_1_8,o0_0,_)=>
 Option.bind (aA.F ([(⟨#[44]⟩:ByteArray)],o0_0,())) fun y42=>
 (bif y42.1 then
 let e43:Int:=(IntKind.i64.wrap (x4+(1:Int)))
 Option.bind (cg.F ((decide (e43≤(40:Int))),())) fun zy44=>match zy44 with
 | .inl y44=>
 (Option.bind (bu.F ([(⟨#[99,111,117,110,116]⟩:ByteArray),(⟨#[115,117,109]⟩:ByteArray),(⟨#[109,105,110]⟩:ByteArray),(⟨#[109,97,120]⟩:ByteArray)],y42.2.1,())) fun zy45=>match zy45 with
 | .inl y45=>
 ((bif (y45.1 !=(0:Int)) then
 Option.bind (aP.F (y45.2.1,())) fun zy46=>match zy46 with
 | .inl y46=>
 (bif (Nat.ble (ok_1_1_8.length+ [(y45.1,y46.1)].length) 8796093022208) then
 some (.inl (e43,ok_1_1_0,ok_1_1_1,ok_1_1_2,ok_1_1_3,ok_1_1_4,ok_1_1_7,ok_1_1_5,ok_1_1_6,(ok_1_1_8++ [(y45.1,y46.1)]),y46.2.1,()))
 else none)
 | .inr n47=>some (.inr (.inr n47))
 else
 bif (Nat.ble (ok_1_1_8.length+ [(y45.1,(0:Int))].length) 8796093022208) then
 some (.inl (e43,ok_1_1_0,ok_1_1_1,ok_1_1_2,ok_1_1_3,ok_1_1_4,ok_1_1_7,ok_1_1_5,ok_1_1_6,(ok_1_1_8++ [(y45.1,(0:Int))]),y45.2.1,()))
 else none))
 | .inr n48=>some (.inr (.inr n48)))
 | .inr n49=>some (.inr (.inr n49))
 else
 some (.inr (.inl (ok_1_1_0,ok_1_1_1,ok_1_1_2,ok_1_1_3,ok_1_1_4,ok_1_1_7,y42.2.1,ok_1_1_5,ok_1_1_6,ok_1_1_8,()))))) ((1:Int),ok_1_1_0_41,ok_1_1_1_41,ok_1_1_2_41,ok_1_1_3_41,ok_1_1_4_41,ok_1_1_7_41,ok_1_1_5_41,ok_1_1_6_41,ok_1_1_8_41,o0_0_41,()))
 | .inr r=>some r
 else
 some (.inl (o3_0_0_35,o3_0_1_35,o3_0_2_35,o3_0_3_35,o3_0_4_35,y36.1,y36.2.1,o3_0_5_35,o3_0_6_35,o3_0_8_35,())))
 else
 some (.inl (o3_0_0_35,o3_0_1_35,o3_0_2_35,o3_0_3_35,o3_0_4_35,y36.1,y36.2.1,o3_0_5_35,o3_0_6_35,o3_0_8_35,()))))
 | .inr r=>some r)
 | .inr n50=>some (.inr n50))
 | .inr r=>some r)
 | .inr r=>some r)
 | .inr n51=>some (.inr n51))
 | .inr n52=>some (.inr n52))
 | .inr n53=>some (.inr n53)
noncomputable def aU.F:=stk aU.B
theorem aU.eq:aU.F=aU.B:=aN _
noncomputable def aU.ins:Nat→List (Option dU)→cp→Option (Code×List ResultVar×H):=fun g xs hp=>bif Nat.beq g 136&&nu xs hp 1 142 then some (Tryz.f136.body.getD .skip,Tryz.f136.results.toList,(.s none .n (.s (some ⟨[(0,.v false [.ptr 4 0])],[(0,true,.box 36 [.str,.str,.str,.int .i64,.int .i64,.ref 1,.ref 2,.bool,.ref 3]),(1,false,.arr 78 bD),(2,false,.arr 3 (.int .i64)),(3,false,.arr 66 ei),(4,true,.box 162 [.sl 111 dA])],[1,4],5,[(0,1003)]⟩) .n (.b (.l ⟨[(0,.v false [.ptr 4 0]),(4,.v false [.int .i64])],[(0,true,.box 36 [.str,.str,.str,.int .i64,.int .i64,.ref 1,.ref 2,.bool,.ref 3]),(1,false,.arr 78 bD),(2,false,.arr 3 (.int .i64)),(3,false,.arr 66 ei),(4,true,.box 162 [.sl 111 dA])],[1],5,[(0,1003)]⟩ .n))))) else bif Nat.beq g 136&&nu xs hp 1 143 then some (Tryz.f136.body.getD .skip,Tryz.f136.results.toList,(.s none .n (.s (some ⟨[(0,.v false [.ptr 4 0])],[(0,true,.box 36 [.str,.str,.str,.int .i64,.int .i64,.ref 1,.ref 2,.bool,.ref 3]),(1,false,.arr 78 bD),(2,false,.arr 3 (.int .i64)),(3,false,.arr 66 ei),(4,true,.box 162 [.sl 111 dA])],[1,4],5,[(0,1003)]⟩) .n (.b (.l ⟨[(0,.v false [.ptr 4 0]),(4,.v false [.int .i64])],[(0,true,.box 36 [.str,.str,.str,.int .i64,.int .i64,.ref 1,.ref 2,.bool,.ref 3]),(1,false,.arr 78 bD),(2,false,.arr 3 (.int .i64)),(3,false,.arr 66 ei),(4,true,.box 162 [.sl 111 dA])],[1],5,[(0,1003)]⟩ .n))))) else bif Nat.beq g 142 then some (Tryz.f142.body.getD .skip,Tryz.f142.results.toList,.d) else bif Nat.beq g 143 then some (Tryz.f143.body.getD .skip,Tryz.f143.results.toList,.n) else none
theorem aU.ins_ok:∀n xs hp code res h,aU.ins n xs hp=some (code,res,h)→∃nt,oc PP n code res nt:=by
 intro n xs hp code res h e
 unfold aU.ins at e
 cases e0:(Nat.beq n 136&&nu xs hp 1 142) with
 |true=>rw [e0] at e;cases e;rw [Nat.eq_of_beq_eq_true (Bool.and_eq_true_iff.1 e0).1];exact ⟨_,eN (by kernel_rfl) (by kernel_rfl) (by kernel_rfl) (by kernel_rfl)⟩
 |false=>
 rw [e0] at e
 cases e1:(Nat.beq n 136&&nu xs hp 1 143) with
 |true=>rw [e1] at e;cases e;rw [Nat.eq_of_beq_eq_true (Bool.and_eq_true_iff.1 e1).1];exact ⟨_,eN (by kernel_rfl) (by kernel_rfl) (by kernel_rfl) (by kernel_rfl)⟩
 |false=>
 rw [e1] at e
 cases e2:(Nat.beq n 142) with
 |true=>rw [e2] at e;cases e;rw [Nat.eq_of_beq_eq_true e2];exact ⟨_,eN (by kernel_rfl) (by kernel_rfl) (by kernel_rfl) (by kernel_rfl)⟩
 |false=>
 rw [e2] at e
 cases e3:(Nat.beq n 143) with
 |true=>rw [e3] at e;cases e;rw [Nat.eq_of_beq_eq_true e3];exact ⟨_,eN (by kernel_rfl) (by kernel_rfl) (by kernel_rfl) (by kernel_rfl)⟩
 |false=>
 rw [e3] at e
 cases e
theorem aU.ev (x:TS aU.si):qC gT (jZ gT aU.ins (jZ gT aU.ins (jZ gT aU.ins lz))) (Tryz.f111.body.getD .skip) Tryz.f111.results.toList aU.h aU.si aU.so x=aU.B x:=by kernel_rfl
theorem aU.fn:FnO 111 Tryz.f111:=fnO (by kernel_rfl) (by kernel_rfl)
theorem aU.ok:ie PP 111 159 ⟨1,aU.si,aU.so,aU.F⟩:=jH eI (eJ eI (eJ eI (eJ eI (fi _ _) (eo eI mixed) aU.ins_ok) (eo eI mixed) aU.ins_ok) (eo eI mixed) aU.ins_ok) mixed aU.fn aU.h (by kernel_rfl) aU.ev
noncomputable def av:SqL:=(111,[],⟨1,aU.si,aU.so,aU.F⟩)::nd
noncomputable abbrev ne:=cq gL av
theorem mf:bM PP ne:=eI.consP [] aU.fn.enters aU.ok
def cj.si:Sh:=⟨[(0,.v false [.str])],[],[],0,[]⟩
def cj.so:Sh:=⟨[(0,.tup [(true,[.int .i64,.str,.ref 1000,.ref 1001,.str,.str,.str,.int .i64,.int .i64,.ref 1002,.ref 1003,.bool,.ref 1004]),(false,[.int .i64])])],[(1000,false,.arr 41 bR),(1001,false,.arr 32 (.sl 78 bD)),(1002,false,.arr 78 bD),(1003,false,.arr 3 (.int .i64)),(1004,false,.arr 66 ei)],[],1005,[]⟩
noncomputable def cj.B:ByteArray×Unit→Option (Int×ByteArray×ByteArray×ByteArray×ByteArray×Int×Int×Bool×Int×(List ba)×(List (List ae))×(List ae)×(List Int)×(List ct)×Unit):=fun (p0,_)=>
 Option.bind (ea.F (p0,())) fun y1=>
 (bif (y1.1 !=(0:Int)) then
 some ((0:Int),(⟨#[]⟩:ByteArray),(⟨#[]⟩:ByteArray),(⟨#[]⟩:ByteArray),(⟨#[]⟩:ByteArray),(0:Int),(0:Int),false,y1.1,[],[],[],[],[],())
 else
 Option.bind (bu.F ([(⟨#[116,97,98,108,101]⟩:ByteArray),(⟨#[118,105,101,119]⟩:ByteArray)],y1.2.1,())) fun zy2=>match zy2 with
 | .inl y2=>
 ((bif (y2.1==(0:Int)) then
 Option.bind (aM.F (y2.2.1,())) fun zy3=>match zy3 with
 | .inl y3=>
 (Option.bind (cg.F (((y3.2.1.length:Int)==(0:Int)),())) fun zy4=>match zy4 with
 | .inl y4=>
 (some (y2.1,y3.1,(⟨#[]⟩:ByteArray),(⟨#[]⟩:ByteArray),(⟨#[]⟩:ByteArray),(0:Int),(0:Int),false,(0:Int),y3.2.2.1,y3.2.2.2.1,[],[],[],()))
 | .inr n5=>some ((0:Int),(⟨#[]⟩:ByteArray),(⟨#[]⟩:ByteArray),(⟨#[]⟩:ByteArray),(⟨#[]⟩:ByteArray),(0:Int),(0:Int),false,n5,[],[],[],[],[],()))
 | .inr n6=>some ((0:Int),(⟨#[]⟩:ByteArray),(⟨#[]⟩:ByteArray),(⟨#[]⟩:ByteArray),(⟨#[]⟩:ByteArray),(0:Int),(0:Int),false,n6,[],[],[],[],[],())
 else
 Option.bind (aU.F (y2.2.1,())) fun zy7=>match zy7 with
 | .inl y7=>
 (Option.bind (cg.F (((y7.2.2.2.2.2.2.1.length:Int)==(0:Int)),())) fun zy8=>match zy8 with
 | .inl y8=>
 (some (y2.1,(⟨#[]⟩:ByteArray),y7.1,y7.2.1,y7.2.2.1,y7.2.2.2.1,y7.2.2.2.2.1,y7.2.2.2.2.2.1,(0:Int),[],[],y7.2.2.2.2.2.2.2.1,y7.2.2.2.2.2.2.2.2.1,y7.2.2.2.2.2.2.2.2.2.1,()))
 | .inr n9=>some ((0:Int),(⟨#[]⟩:ByteArray),(⟨#[]⟩:ByteArray),(⟨#[]⟩:ByteArray),(⟨#[]⟩:ByteArray),(0:Int),(0:Int),false,n9,[],[],[],[],[],()))
 | .inr n10=>some ((0:Int),(⟨#[]⟩:ByteArray),(⟨#[]⟩:ByteArray),(⟨#[]⟩:ByteArray),(⟨#[]⟩:ByteArray),(0:Int),(0:Int),false,n10,[],[],[],[],[],())))
 | .inr n11=>some ((0:Int),(⟨#[]⟩:ByteArray),(⟨#[]⟩:ByteArray),(⟨#[]⟩:ByteArray),(⟨#[]⟩:ByteArray),(0:Int),(0:Int),false,n11,[],[],[],[],[],()))
noncomputable def cj.F:=stk cj.B
theorem cj.eq:cj.F=cj.B:=aN _
noncomputable def cj.pre:List (Code×H):=[(lC (Tryz.f81.body.getD .skip),.n),(lC (rC' (Tryz.f81.body.getD .skip)),.n),(lC (rC' (rC' (Tryz.f81.body.getD .skip))),.n)]
noncomputable def cj.E:Code:=(rC' (rC' (rC' (rC' (Tryz.f81.body.getD .skip)))))
noncomputable def cj.G:Code:=(rC' (Tryz.f108.body.getD .skip))
def cj.hE:H:=.n
def cj.hG:H:=.n
theorem cj.ev (x:TS cj.si):Ez ne lz cj.pre cj.E cj.hE cj.G cj.hG 2 3 15 5 Tryz.f81.results.toList cj.si cj.so x=cj.B x:=by kernel_rfl
theorem cj.en:Lv.nY PP 81:=⟨_,Tryz.func81,by kernel_rfl,by decide⟩
theorem cj.ok:aB PP 81 ⟨1,cj.si,cj.so,cj.F⟩:=
 I8 (pre:=cj.pre) (i:=4) (om:=opC (lC (rC' (rC' (rC' (Tryz.f81.body.getD .skip))))) 0) (od:=opC (lC (rC' (rC' (rC' (Tryz.f81.body.getD .skip))))) 1) (E:=cj.E) (f:=108) (p:=2) (q:=3) (t:=15) (ir:=0) (tr:=5) (or:=opC (lC (Tryz.f108.body.getD .skip)) 0) (G:=cj.G) mf (fi _ _) mixed Tryz.func81 (by kernel_rfl) ⟨by kernel_rfl,by kernel_rfl,by kernel_rfl,by kernel_rfl,by kernel_rfl,by kernel_rfl⟩ Tryz.func108 (by kernel_rfl) (by kernel_rfl) ⟨⟨#[],by kernel_rfl⟩,by kernel_rfl,by kernel_rfl⟩ (by kernel_rfl) (by kernel_rfl) (by kernel_rfl) (by kernel_rfl) cj.hE cj.hG (by kernel_rfl) cj.ev
noncomputable def un:SpL:=(81,[],⟨1,cj.si,cj.so,cj.F⟩)::gL
noncomputable abbrev v8:=cq un av
theorem uo:bM PP v8:=mf.consS [] cj.en cj.ok
def ah.si:Sh:=⟨[(0,.v false [.sl 78 bD]),(1,.v false [.sl 78 bD])],[],[],0,[]⟩
def ah.so:Sh:=⟨[(0,.v false [.bool])],[],[],1000,[]⟩
def ah.h:H:=(.s none .n (.s none .n (.s none (.s none .n (.b (.l ⟨[(13,.v false [.int .i64])],[],[0,1,12],0,[]⟩ .n))) .n)))
noncomputable def ah.B:(List ae)×(List ae)×Unit→Option (Bool×Unit):=fun (p0,p1,_)=>
 (bif ((p0.length:Int) !=(p1.length:Int)) then
 some (false,())
 else
 bE (S:=Int×Unit) (fun (x13,_)=>
 (bif (decide (x13<(p0.length:Int))) then
 bif (decide (0≤x13)&&decide (x13<(p0.length:Int))) then
 let e1:ae:=(List.getD p0 (Int.toNat x13) bD.z)
 bif (decide (0≤x13)&&decide (x13<(p1.length:Int))) then
 let e2:ae:=(List.getD p1 (Int.toNat x13) bD.z)
 (bif (!(Ty.eq bD e1 e2)) then
 some (.inr (false,()))
 else
 let e3:Int:=(IntKind.i64.wrap (x13+(1:Int)))
 some (.inl (e3,())))
 else none
 else none
 else
 some (.inr (true,())))) ((0:Int),()))
noncomputable def ah.F:=stk ah.B
theorem ah.eq:ah.F=ah.B:=aN _
theorem ah.ev (x:TS ah.si):evI v8 Tryz.f115 ah.h ah.si ah.so x=ah.B x:=by kernel_rfl
theorem ah.fn:FnO 115 Tryz.f115:=fnO (by kernel_rfl) (by kernel_rfl)
theorem ah.ok:aB PP 115 ⟨2,ah.si,ah.so,ah.F⟩:=okI uo ah.fn ah.h (by kernel_rfl) ah.ev
noncomputable def fZ:SpL:=(115,[],⟨2,ah.si,ah.so,ah.F⟩)::un
noncomputable abbrev gy:=cq fZ av
theorem gb:bM PP gy:=uo.consS [] ah.fn.enters ah.ok
def cN.si:Sh:=⟨[(0,.v false [.sl 78 bD]),(1,.v false [.sl 78 bD])],[],[],0,[]⟩
def cN.so:Sh:=⟨[(0,.v false [.bool])],[],[],1000,[]⟩
def cN.h:H:=.n
noncomputable def cN.B:(List ae)×(List ae)×Unit→Option (Bool×Unit):=fun (p0,p1,_)=>
 Option.bind (ah.F (p0,p1,())) fun y1=>
 some (y1.1,())
noncomputable def cN.F:=stk cN.B
theorem cN.eq:cN.F=cN.B:=aN _
theorem cN.ev (x:TS cN.si):evI gy Tryz.f114 cN.h cN.si cN.so x=cN.B x:=by kernel_rfl
theorem cN.fn:FnO 114 Tryz.f114:=fnO (by kernel_rfl) (by kernel_rfl)
theorem cN.ok:aB PP 114 ⟨2,cN.si,cN.so,cN.F⟩:=okI gb cN.fn cN.h (by kernel_rfl) cN.ev
noncomputable def sf:SpL:=(114,[],⟨2,cN.si,cN.so,cN.F⟩)::fZ
noncomputable abbrev uq:=cq sf av
theorem sj:bM PP uq:=gb.consS [] cN.fn.enters cN.ok
def ab.si:Sh:=⟨[(0,.v false [.sl 41 bR]),(1,.v false [.sl 41 bR])],[],[],0,[]⟩
def ab.so:Sh:=⟨[(0,.v false [.bool])],[],[],1000,[]⟩
def ab.h:H:=(.s none .n (.s none .n (.s none (.s none .n (.b (.l ⟨[(13,.v false [.int .i64])],[],[0,1,12],0,[]⟩ .n))) .n)))
noncomputable def ab.B:(List ba)×(List ba)×Unit→Option (Bool×Unit):=fun (p0,p1,_)=>
 (bif ((p0.length:Int) !=(p1.length:Int)) then
 some (false,())
 else
 bE (S:=Int×Unit) (fun (x13,_)=>
 (bif (decide (x13<(p0.length:Int))) then
 bif (decide (0≤x13)&&decide (x13<(p0.length:Int))) then
 let e1:ba:=(List.getD p0 (Int.toNat x13) bR.z)
 bif (decide (0≤x13)&&decide (x13<(p1.length:Int))) then
 let e2:ba:=(List.getD p1 (Int.toNat x13) bR.z)
 (bif (!(Ty.eq bR e1 e2)) then
 some (.inr (false,()))
 else
 let e3:Int:=(IntKind.i64.wrap (x13+(1:Int)))
 some (.inl (e3,())))
 else none
 else none
 else
 some (.inr (true,())))) ((0:Int),()))
noncomputable def ab.F:=stk ab.B
theorem ab.eq:ab.F=ab.B:=aN _
theorem ab.ev (x:TS ab.si):evI uq Tryz.f116 ab.h ab.si ab.so x=ab.B x:=by kernel_rfl
theorem ab.fn:FnO 116 Tryz.f116:=fnO (by kernel_rfl) (by kernel_rfl)
theorem ab.ok:aB PP 116 ⟨2,ab.si,ab.so,ab.F⟩:=okI sj ab.fn ab.h (by kernel_rfl) ab.ev
noncomputable def eT:SpL:=(116,[],⟨2,ab.si,ab.so,ab.F⟩)::sf
noncomputable abbrev eX:=cq eT av
theorem eU:bM PP eX:=sj.consS [] ab.fn.enters ab.ok
def ay.si:Sh:=⟨[(0,.v false [.sl 3 (.int .i64)]),(1,.v false [.sl 3 (.int .i64)])],[],[],0,[]⟩
def ay.so:Sh:=⟨[(0,.v false [.bool])],[],[],1000,[]⟩
def ay.h:H:=(.s none .n (.s none .n (.s none (.s none .n (.b (.l ⟨[(13,.v false [.int .i64])],[],[0,1,12],0,[]⟩ .n))) .n)))
noncomputable def ay.B:(List Int)×(List Int)×Unit→Option (Bool×Unit):=fun (p0,p1,_)=>
 (bif ((p0.length:Int) !=(p1.length:Int)) then
 some (false,())
 else
 bE (S:=Int×Unit) (fun (x13,_)=>
 (bif (decide (x13<(p0.length:Int))) then
 bif (decide (0≤x13)&&decide (x13<(p0.length:Int))) then
 let e1:Int:=(List.getD p0 (Int.toNat x13) (0:Int))
 bif (decide (0≤x13)&&decide (x13<(p1.length:Int))) then
 let e2:Int:=(List.getD p1 (Int.toNat x13) (0:Int))
 (bif (e1 !=e2) then
 some (.inr (false,()))
 else
 let e3:Int:=(IntKind.i64.wrap (x13+(1:Int)))
 some (.inl (e3,())))
 else none
 else none
 else
 some (.inr (true,())))) ((0:Int),()))
noncomputable def ay.F:=stk ay.B
theorem ay.eq:ay.F=ay.B:=aN _
theorem ay.ev (x:TS ay.si):evI eX Tryz.f117 ay.h ay.si ay.so x=ay.B x:=by kernel_rfl
theorem ay.fn:FnO 117 Tryz.f117:=fnO (by kernel_rfl) (by kernel_rfl)
theorem ay.ok:aB PP 117 ⟨2,ay.si,ay.so,ay.F⟩:=okI eU ay.fn ay.h (by kernel_rfl) ay.ev
noncomputable def iA:SpL:=(117,[],⟨2,ay.si,ay.so,ay.F⟩)::eT
noncomputable abbrev iK:=cq iA av
theorem iB:bM PP iK:=eU.consS [] ay.fn.enters ay.ok
def af.si:Sh:=⟨[(0,.v false [.sl 66 ei]),(1,.v false [.sl 66 ei])],[],[],0,[]⟩
def af.so:Sh:=⟨[(0,.v false [.bool])],[],[],1000,[]⟩
def af.h:H:=(.s none .n (.s none .n (.s none (.s none .n (.b (.l ⟨[(13,.v false [.int .i64])],[],[0,1,12],0,[]⟩ .n))) .n)))
noncomputable def af.B:(List ct)×(List ct)×Unit→Option (Bool×Unit):=fun (p0,p1,_)=>
 (bif ((p0.length:Int) !=(p1.length:Int)) then
 some (false,())
 else
 bE (S:=Int×Unit) (fun (x13,_)=>
 (bif (decide (x13<(p0.length:Int))) then
 bif (decide (0≤x13)&&decide (x13<(p0.length:Int))) then
 let e1:ct:=(List.getD p0 (Int.toNat x13) ei.z)
 bif (decide (0≤x13)&&decide (x13<(p1.length:Int))) then
 let e2:ct:=(List.getD p1 (Int.toNat x13) ei.z)
 (bif (!(Ty.eq ei e1 e2)) then
 some (.inr (false,()))
 else
 let e3:Int:=(IntKind.i64.wrap (x13+(1:Int)))
 some (.inl (e3,())))
 else none
 else none
 else
 some (.inr (true,())))) ((0:Int),()))
noncomputable def af.F:=stk af.B
theorem af.eq:af.F=af.B:=aN _
theorem af.ev (x:TS af.si):evI iK Tryz.f118 af.h af.si af.so x=af.B x:=by kernel_rfl
theorem af.fn:FnO 118 Tryz.f118:=fnO (by kernel_rfl) (by kernel_rfl)
theorem af.ok:aB PP 118 ⟨2,af.si,af.so,af.F⟩:=okI iB af.fn af.h (by kernel_rfl) af.ev
noncomputable def fI:SpL:=(118,[],⟨2,af.si,af.so,af.F⟩)::iA
noncomputable abbrev dN:=cq fI av
theorem cA:bM PP dN:=iB.consS [] af.fn.enters af.ok
def cP.si:Sh:=⟨[(0,.v true [.int .i64,.str,.sl 41 bR,.sl 32 (.sl 78 bD),.str,.str,.str,.int .i64,.int .i64,.sl 78 bD,.sl 3 (.int .i64),.bool,.sl 66 ei]),(1,.v true [.int .i64,.str,.sl 41 bR,.sl 32 (.sl 78 bD),.str,.str,.str,.int .i64,.int .i64,.sl 78 bD,.sl 3 (.int .i64),.bool,.sl 66 ei])],[],[],0,[]⟩
def cP.so:Sh:=⟨[(0,.v false [.bool])],[],[],1000,[]⟩
def cP.h:H:=(.s none .n (.s none .n (.s none .n (.s (some ⟨[(10,.v false [.bool])],[],[2,3,7,8],0,[]⟩) .n (.s (some ⟨[(11,.v false [.bool])],[],[2,3,10],0,[]⟩) .n .n)))))
noncomputable def cP.B:Int×ByteArray×(List ba)×(List (List ae))×ByteArray×ByteArray×ByteArray×Int×Int×(List ae)×(List Int)×Bool×(List ct)×Int×ByteArray×(List ba)×(List (List ae))×ByteArray×ByteArray×ByteArray×Int×Int×(List ae)×(List Int)×Bool×(List ct)×Unit→Option (Bool×Unit):=fun (p0_0,p0_1,p0_2,p0_3,p0_4,p0_5,p0_6,p0_7,p0_8,p0_9,p0_10,p0_11,p0_12,p1_0,p1_1,p1_2,p1_3,p1_4,p1_5,p1_6,p1_7,p1_8,p1_9,p1_10,p1_11,p1_12,_)=>
 (bif ((p0_3.length:Int) !=(p1_3.length:Int)) then
 Option.bind (
 (bif (p0_1.toList==p1_1.toList) then
 Option.bind (ab.F (p0_2,p1_2,())) fun y1=>
 (bif y1.1 then
 some (.inl (false,()))
 else
 some (.inl (false,())))
 else
 some (.inl (false,()))):Option ((Bool×Unit)⊕_)) fun r2=>match r2 with
 | .inl (x10_2,_)=>
 (Option.bind (
 (bif (p0_4.toList==p1_4.toList) then
 (bif (p0_5.toList==p1_5.toList) then
 (bif (p0_6.toList==p1_6.toList) then
 (bif (Ty.eq ei (p0_7,p0_8) (p1_7,p1_8)) then
 Option.bind (ah.F (p0_9,p1_9,())) fun y3=>
 (bif y3.1 then
 Option.bind (ay.F (p0_10,p1_10,())) fun y4=>
 (bif y4.1 then
 (bif (p0_11==p1_11) then
 Option.bind (af.F (p0_12,p1_12,())) fun y5=>
 some (.inl (y5.1,()))
 else
 some (.inl (false,())))
 else
 some (.inl (false,())))
 else
 some (.inl (false,())))
 else
 some (.inl (false,())))
 else
 some (.inl (false,())))
 else
 some (.inl (false,())))
 else
 some (.inl (false,()))):Option ((Bool×Unit)⊕_)) fun r6=>match r6 with
 | .inl (x11_6,_)=>
 ((bif (p0_0==p1_0) then
 (bif x10_2 then
 some (x11_6,())
 else
 some (false,()))
 else
 some (false,())))
 | .inr r=>some r)
 | .inr r=>some r
 else
 bE (S:=Int×Unit) (fun (x17,_)=>
 (bif (decide (x17<(p0_3.length:Int))) then
 bif (decide (0≤x17)&&decide (x17<(p0_3.length:Int))) then
 let e7:(List ae):=(List.getD p0_3 (Int.toNat x17) [])
 bif (decide (0≤x17)&&decide (x17<(p1_3.length:Int))) then
 let e8:(List ae):=(List.getD p1_3 (Int.toNat x17) [])
 Option.bind (
 Option.bind (cN.F (e7,e8,())) fun y9=>
 some (.inl ((!y9.1),())):Option ((Bool×Unit)⊕_)) fun r10=>match r10 with
 | .inl (x30_10,_)=>
 ((bif x30_10 then
 Option.map Sum.inr (Option.bind (
 (bif (p0_1.toList==p1_1.toList) then
 Option.bind (ab.F (p0_2,p1_2,())) fun y11=>
 (bif y11.1 then
 some (.inl (false,()))
 else
 some (.inl (false,())))
 else
 some (.inl (false,()))):Option ((Bool×Unit)⊕_)) fun r12=>match r12 with
 | .inl (x10_12,_)=>
 (Option.bind (
 (bif (p0_4.toList==p1_4.toList) then
 (bif (p0_5.toList==p1_5.toList) then
 (bif (p0_6.toList==p1_6.toList) then
 (bif (Ty.eq ei (p0_7,p0_8) (p1_7,p1_8)) then
 Option.bind (ah.F (p0_9,p1_9,())) fun y13=>
 (bif y13.1 then
 Option.bind (ay.F (p0_10,p1_10,())) fun y14=>
 (bif y14.1 then
 (bif (p0_11==p1_11) then
 Option.bind (af.F (p0_12,p1_12,())) fun y15=>
 some (.inl (y15.1,()))
 else
 some (.inl (false,())))
 else
 some (.inl (false,())))
 else
 some (.inl (false,())))
 else
 some (.inl (false,())))
 else
 some (.inl (false,())))
 else
 some (.inl (false,())))
 else
 some (.inl (false,()))):Option ((Bool×Unit)⊕_)) fun r16=>match r16 with
 | .inl (x11_16,_)=>
 ((bif (p0_0==p1_0) then
 (bif x10_12 then
 some (x11_16,())
 else
 some (false,()))
 else
 some (false,())))
 | .inr r=>some r)
 | .inr r=>some r)
 else
 let e17:Int:=(IntKind.i64.wrap (x17+(1:Int)))
 some (.inl (e17,()))))
 | .inr r=>some r
 else none
 else none
 else
 Option.map Sum.inr (Option.bind (
 (bif (p0_1.toList==p1_1.toList) then
 Option.bind (ab.F (p0_2,p1_2,())) fun y18=>
 (bif y18.1 then
 some (.inl (true,()))
 else
 some (.inl (false,())))
 else
 some (.inl (false,()))):Option ((Bool×Unit)⊕_)) fun r19=>match r19 with
 | .inl (x10_19,_)=>
 (Option.bind (
 (bif (p0_4.toList==p1_4.toList) then
 (bif (p0_5.toList==p1_5.toList) then
 (bif (p0_6.toList==p1_6.toList) then
 (bif (Ty.eq ei (p0_7,p0_8) (p1_7,p1_8)) then
 Option.bind (ah.F (p0_9,p1_9,())) fun y20=>
 (bif y20.1 then
 Option.bind (ay.F (p0_10,p1_10,())) fun y21=>
 (bif y21.1 then
 (bif (p0_11==p1_11) then
 Option.bind (af.F (p0_12,p1_12,())) fun y22=>
 some (.inl (y22.1,()))
 else
 some (.inl (false,())))
 else
 some (.inl (false,())))
 else
 some (.inl (false,())))
 else
 some (.inl (false,())))
 else
 some (.inl (false,())))
 else
 some (.inl (false,())))
 else
 some (.inl (false,()))):Option ((Bool×Unit)⊕_)) fun r23=>match r23 with
 | .inl (x11_23,_)=>
 ((bif (p0_0==p1_0) then
 (bif x10_19 then
 some (x11_23,())
 else
 some (false,()))
 else
 some (false,())))
 | .inr r=>some r)
 | .inr r=>some r))) ((0:Int),()))
noncomputable def cP.F:=stk cP.B
theorem cP.eq:cP.F=cP.B:=aN _
noncomputable def cP.ins:Nat→List (Option dU)→cp→Option (Code×List ResultVar×H):=fun g xs hp=>bif Nat.beq g 113 then some (Tryz.f113.body.getD .skip,Tryz.f113.results.toList,(.s none .n (.s none .n (.s none (.s none .n (.b (.l ⟨[(17,.v false [.int .i64])],[],[1,2,15,16],0,[]⟩ (.s none .n (.s none .n (.s none (.b (.s none .n (.s none .n (.s (some ⟨[(30,.v false [.bool])],[],[1,2,15,16,17],0,[]⟩) .n .n)))) .n)))))) .n)))) else none
theorem cP.ins_ok:∀n xs hp code res h,cP.ins n xs hp=some (code,res,h)→∃nt,oc PP n code res nt:=by
 intro n xs hp code res h e
 unfold cP.ins at e
 cases e0:(Nat.beq n 113) with
 |true=>rw [e0] at e;cases e;rw [Nat.eq_of_beq_eq_true e0];exact ⟨_,eN (by kernel_rfl) (by kernel_rfl) (by kernel_rfl) (by kernel_rfl)⟩
 |false=>
 rw [e0] at e
 cases e
theorem cP.ev (x:TS cP.si):evF dN (jZ dN cP.ins (jZ dN cP.ins (jZ dN cP.ins lz))) (Tryz.f82.body.getD .skip) Tryz.f82.results.toList cP.h cP.si cP.so x=cP.B x:=by kernel_rfl
theorem cP.fn:FnO 82 Tryz.f82:=fnO (by kernel_rfl) (by kernel_rfl)
theorem cP.ok:aB PP 82 ⟨2,cP.si,cP.so,cP.F⟩:=tB cA (eJ cA (eJ cA (eJ cA (fi _ _) (eo cA mixed) cP.ins_ok) (eo cA mixed) cP.ins_ok) (eo cA mixed) cP.ins_ok) mixed cP.fn cP.h (by kernel_rfl) cP.ev
noncomputable def wa:SpL:=(82,[],⟨2,cP.si,cP.so,cP.F⟩)::fI
noncomputable abbrev yZ:=cq wa av
theorem wb:bM PP yZ:=cA.consS [] cP.fn.enters cP.ok
def c8.si:Sh:=⟨[(0,.v true [.int .i64,.str,.sl 41 bR,.sl 32 (.sl 78 bD),.str,.str,.str,.int .i64,.int .i64,.sl 78 bD,.sl 3 (.int .i64),.bool,.sl 66 ei])],[],[],0,[]⟩
def c8.so:Sh:=⟨[(0,.v false [.str])],[],[],1000,[]⟩
def c8.h:H:=(.s none .n (.s none .n (.s (some ⟨[(3,.v false [.ptr 0 0])],[(0,true,.box 127 [.ref 1]),(1,false,.arr 9 .str)],[1],2,[]⟩) .n .n)))
noncomputable def c8.B:Int×ByteArray×(List ba)×(List (List ae))×ByteArray×ByteArray×ByteArray×Int×Int×(List ae)×(List Int)×Bool×(List ct)×Unit→Option (ByteArray×Unit):=fun (p0_0,p0_1,p0_2,p0_3,p0_4,p0_5,p0_6,p0_7,p0_8,p0_9,p0_10,p0_11,p0_12,_)=>
 Option.bind (
 (bif (p0_0==(0:Int)) then
 Option.bind (aG.F (p0_1,p0_2,p0_3,[],())) fun y1=>
 some (.inl (y1.1,()))
 else
 Option.bind (aL.F (p0_4,p0_5,p0_6,p0_7,p0_8,p0_9,p0_10,p0_11,p0_12,[],())) fun y2=>
 some (.inl (y2.1,()))):Option (((List ByteArray)×Unit)⊕_)) fun r3=>match r3 with
 | .inl (o3_0_0_3,_)=>
 (Option.bind (strings_Join.F (o3_0_0_3,(⟨#[32]⟩:ByteArray),())) fun y4=>
 (bif (decide ((y4.1.size:Int)>(20000:Int))) then
 some ((⟨#[]⟩:ByteArray),())
 else
 Option.bind (cj.F (y4.1,())) fun y5=>
 (bif (y5.2.2.2.2.2.2.2.2.1 !=(0:Int)) then
 some ((⟨#[]⟩:ByteArray),())
 else
 Option.bind (cP.F (p0_0,p0_1,p0_2,p0_3,p0_4,p0_5,p0_6,p0_7,p0_8,p0_9,p0_10,p0_11,p0_12,y5.1,y5.2.1,y5.2.2.2.2.2.2.2.2.2.1,y5.2.2.2.2.2.2.2.2.2.2.1,y5.2.2.1,y5.2.2.2.1,y5.2.2.2.2.1,y5.2.2.2.2.2.1,y5.2.2.2.2.2.2.1,y5.2.2.2.2.2.2.2.2.2.2.2.1,y5.2.2.2.2.2.2.2.2.2.2.2.2.1,y5.2.2.2.2.2.2.2.1,y5.2.2.2.2.2.2.2.2.2.2.2.2.2.1,())) fun y6=>
 (bif (!y6.1) then
 some ((⟨#[]⟩:ByteArray),())
 else
 some (y4.1,())))))
 | .inr r=>some r
noncomputable def c8.F:=stk c8.B
theorem c8.eq:c8.F=c8.B:=aN _
theorem c8.ev (x:TS c8.si):evI yZ Tryz.f52 c8.h c8.si c8.so x=c8.B x:=by kernel_rfl
theorem c8.fn:FnO 52 Tryz.f52:=fnO (by kernel_rfl) (by kernel_rfl)
theorem c8.ok:aB PP 52 ⟨1,c8.si,c8.so,c8.F⟩:=okI wb c8.fn c8.h (by kernel_rfl) c8.ev
noncomputable def ur:SpL:=(52,[],⟨1,c8.si,c8.so,c8.F⟩)::wa
noncomputable abbrev wc:=cq ur av
theorem ut:bM PP wc:=wb.consS [] c8.fn.enters c8.ok
def eb.si:Sh:=⟨[(0,.v true [.int .i64,.str,.sl 41 bR,.sl 32 (.sl 78 bD),.str,.str,.str,.int .i64,.int .i64,.sl 78 bD,.sl 3 (.int .i64),.bool,.sl 66 ei])],[],[],0,[]⟩
def eb.so:Sh:=⟨[(0,.v false [.bool])],[],[],1000,[]⟩
def eb.h:H:=.n
noncomputable def eb.B:Int×ByteArray×(List ba)×(List (List ae))×ByteArray×ByteArray×ByteArray×Int×Int×(List ae)×(List Int)×Bool×(List ct)×Unit→Option (Bool×Unit):=fun (p0_0,p0_1,p0_2,p0_3,p0_4,p0_5,p0_6,p0_7,p0_8,p0_9,p0_10,p0_11,p0_12,_)=>
 Option.bind (c8.F (p0_0,p0_1,p0_2,p0_3,p0_4,p0_5,p0_6,p0_7,p0_8,p0_9,p0_10,p0_11,p0_12,())) fun y1=>
 some ((!(y1.1.toList==(⟨#[]⟩:ByteArray).toList)),())
noncomputable def eb.F:=stk eb.B
theorem eb.eq:eb.F=eb.B:=aN _
theorem eb.ev (x:TS eb.si):evI wc Tryz.f33 eb.h eb.si eb.so x=eb.B x:=by kernel_rfl
theorem eb.fn:FnO 33 Tryz.f33:=fnO (by kernel_rfl) (by kernel_rfl)
theorem eb.ok:aB PP 33 ⟨1,eb.si,eb.so,eb.F⟩:=okI ut eb.fn eb.h (by kernel_rfl) eb.ev
noncomputable def za:SpL:=(33,[],⟨1,eb.si,eb.so,eb.F⟩)::ur
noncomputable abbrev Bq:=cq za av
theorem zb:bM PP Bq:=ut.consS [] eb.fn.enters eb.ok
end Go.Proofs.Ytleadolkcmagfaa
