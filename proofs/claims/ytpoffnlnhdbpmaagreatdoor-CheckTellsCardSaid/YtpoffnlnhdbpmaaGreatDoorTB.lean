import Derived.Test.YtpoffnlnhdbpmaaGreatDoorT5
set_option linter.all false
set_option linter.unusedVariables false
set_option linter.unusedSimpArgs false
set_option linter.unusedSectionVars false
set_option maxRecDepth 100000
namespace Go.Proofs.Ytpoffnlnhdbpmaa
open Go Lv Go.Proofs Go.RowKit Go.Shelf
variable [Lk]
noncomputable section
def aO.d:Fe:=⟨322,2,⟨[(0,.v false [.sl 9 .str]),(1,.v false [.str])],[],[],0,[]⟩,⟨[(0,.v false [.int .i64])],[],[],1000,[]⟩,(.s none .n (.s none (.s none .n (.b (.l ⟨[(8,.v false [.int .i64])],[],[0,1,7],0,[]⟩ .n))) .n))⟩
def aO.B:(List ByteArray)×ByteArray×Unit→Option (Int×Unit):=fun (p0,p1,_)=>
 aN (S:=Int×Unit) (fun (x8,_)=>
 (bif (decide (x8<(p0.length:Int))) then
 ck (ib x8 p0.length)<|
 let e1:ByteArray:=(gt p0 x8 (⟨#[]⟩:ByteArray))
 (bif (sq p1 e1) then
 ir (x8,())
 else
 let e2:Int:=(wr (x8+(1:Int)))
 il (e2,()))
 else
 ir ((-1:Int),()))) ((0:Int),())
def aO.F:=stk aO.B
theorem aO.eq:aO.F=aO.B:=aq _
theorem aO.k:Kk dR.s bf.q [] Tryz.f322 aO.d aO.B:={}
def aO.s:SpL:=aO.d.e [] aO.F::dR.s
theorem aO.c:Ck aO.s bf.q:=cS dR.c aO.k
def aJ.d:Fe:=⟨308,2,⟨[(0,.v false [.sl 9 .str]),(1,.v false [.str])],[],[],0,[]⟩,⟨[(0,.v false [.bool])],[],[],1000,[]⟩,.n⟩
def aJ.B:(List ByteArray)×ByteArray×Unit→Option (Bool×Unit):=fun (p0,p1,_)=>
 (aO.F (p0,p1,())).bind fun y1=>
 some ((decide (y1.1≥(0:Int))),())
def aJ.F:=stk aJ.B
theorem aJ.eq:aJ.F=aJ.B:=aq _
theorem aJ.k:Kk aO.s bf.q [] Tryz.f308 aJ.d aJ.B:={}
def aJ.s:SpL:=aJ.d.e [] aJ.F::aO.s
theorem aJ.c:Ck aJ.s bf.q:=cS aO.c aJ.k
def fu.d:Fe:=⟨295,1,⟨[(0,.v false [.str])],[],[],0,[]⟩,⟨[(0,.v false [.bool])],[],[],1000,[]⟩,.n⟩
def fu.B:ByteArray×Unit→Option (Bool×Unit):=fun (p0,_)=>
 (ft.F (p0,())).bind fun y1=>
 (bif y1.1 then
 (dR.F (())).bind fun y2=>
 (aJ.F (y2.1,p0,())).bind fun y3=>
 some ((!y3.1),())
 else
 some (false,()))
def fu.F:=stk fu.B
theorem fu.eq:fu.F=fu.B:=aq _
theorem fu.k:Kk aJ.s bf.q [] Tryz.f295 fu.d fu.B:={}
def fu.s:SpL:=fu.d.e [] fu.F::aJ.s
theorem fu.c:Ck fu.s bf.q:=cS aJ.c fu.k
def cn.d:Fe:=⟨266,1,⟨[(0,.v false [.ptr 0 0])],[(0,true,.box 272 [.sl 195 dS])],[],1,[]⟩,⟨[(0,.v false [.str])],[(0,true,.box 272 [.sl 195 dS])],[],1001,[(0,0)]⟩,.n⟩
def cn.B:(List aX)×Unit→Option ((ByteArray×(List aX)×Unit)⊕Int):=fun (o0,_)=>
 Option.bind (bf.F (o0,())) fun zy1=>match zy1 with
 | .inl y1=>
 ((bif (y1.1==(0:Int)) then
 (fu.F (y1.2.1,())).bind fun y2=>
 Option.bind (cW.F (y2.1,())) fun zy3=>match zy3 with
 | .inl y3=>
 (some (.inl (y1.2.1,y1.2.2.2.2.2.1,())))
 | .inr n4=>some (.inr n4)
 else
 Option.bind (cW.F (false,())) fun zy5=>match zy5 with
 | .inl y5=>
 (some (.inl (y1.2.1,y1.2.2.2.2.2.1,())))
 | .inr n6=>some (.inr n6)))
 | .inr n7=>some (.inr n7)
def cn.F:=stk cn.B
theorem cn.eq:cn.F=cn.B:=aq _
theorem cn.k:Kp fu.s bf.q [] Tryz.f266 cn.d cn.B:={}
def cn.q:SqL:=cn.d.p [] cn.F::bf.q
theorem cn.c:Ck fu.s cn.q:=cP fu.c cn.k
def aU.d:Fe:=⟨269,1,⟨[(0,.v false [.ptr 0 0])],[(0,true,.box 272 [.sl 195 dS])],[],1,[]⟩,⟨[(0,.v true [.str,.int .i64,.bool,.bool,.str,.int .i64])],[(0,true,.box 272 [.sl 195 dS])],[],1001,[(0,0)]⟩,.n⟩
def aU.B:(List aX)×Unit→Option ((ByteArray×Int×Bool×Bool×ByteArray×Int×(List aX)×Unit)⊕Int):=fun (o0,_)=>
 Option.bind (cn.F (o0,())) fun zy1=>match zy1 with
 | .inl y1=>
 (Option.bind (bS.F ([(⟨#[98,111,111,108]⟩:ByteArray),(⟨#[105,110,116]⟩:ByteArray),(⟨#[116,101,120,116]⟩:ByteArray)],y1.2.1,())) fun zy2=>match zy2 with
 | .inl y2=>
 (let e3:Int:=(wr ((1:Int)+y2.1))
 (aw.F ([(⟨#[110,117,108,108]⟩:ByteArray)],y2.2.1,())).bind fun y4=>
 (aw.F ([(⟨#[117,110,105,113,117,101]⟩:ByteArray)],y4.2.1,())).bind fun y5=>
 (aw.F ([(⟨#[114,101,102]⟩:ByteArray)],y5.2.1,())).bind fun y6=>
 (bif y6.1 then
 Option.bind (cn.F (y6.2.1,())) fun zy7=>match zy7 with
 | .inl y7=>
 (Option.bind (bS.F ([(⟨#[114,101,115,116,114,105,99,116]⟩:ByteArray),(⟨#[99,97,115,99,97,100,101]⟩:ByteArray),(⟨#[115,101,116,110,117,108,108]⟩:ByteArray)],y7.2.1,())) fun zy8=>match zy8 with
 | .inl y8=>
 (some (.inl (y1.1,e3,y4.1,y5.1,y7.1,y8.1,y8.2.1,())))
 | .inr n9=>some (.inr n9))
 | .inr n10=>some (.inr n10)
 else
 some (.inl (y1.1,e3,y4.1,y5.1,(⟨#[]⟩:ByteArray),(0:Int),y6.2.1,()))))
 | .inr n11=>some (.inr n11))
 | .inr n12=>some (.inr n12)
def aU.F:=stk aU.B
theorem aU.eq:aU.F=aU.B:=aq _
theorem aU.k:Kp fu.s cn.q [] Tryz.f269 aU.d aU.B:={}
def aU.q:SqL:=aU.d.p [] aU.F::cn.q
theorem aU.c:Ck fu.s aU.q:=cP cn.c aU.k
def aP.d:Fe:=⟨345,2,⟨[(0,.v false [.str]),(1,.v false [.str])],[],[],0,[]⟩,⟨[(0,.v false [.bool])],[],[],1000,[]⟩,.n⟩
def aP.B:ByteArray×ByteArray×Unit→Option (Bool×Unit):=fun (p0,p1,_)=>
 (bif (decide ((p0.size:Int)≥(p1.size:Int))) then
 ck (sb (0:Int) (p1.size:Int) p0.size)<|
 let e1:ByteArray:=(p0.extract (Int.toNat (0:Int)) (Int.toNat (p1.size:Int)))
 some ((sq e1 p1),())
 else
 some (false,()))
def aP.F:=stk aP.B
theorem aP.eq:aP.F=aP.B:=aq _
theorem aP.k:Kk fu.s aU.q [] Tryz.f345 aP.d aP.B:={}
def aP.s:SpL:=aP.d.e [] aP.F::fu.s
theorem aP.c:Ck aP.s aU.q:=cS aU.c aP.k
def aQ.d:Fe:=⟨337,2,⟨[(0,.v false [.str]),(1,.v false [.str])],[],[],0,[]⟩,⟨[(0,.tup [(false,[.str]),(false,[.bool])])],[],[],1000,[]⟩,.n⟩
def aQ.B:ByteArray×ByteArray×Unit→Option (ByteArray×Bool×Unit):=fun (p0,p1,_)=>
 (aP.F (p0,p1,())).bind fun y1=>
 (bif (!y1.1) then
 some (p0,false,())
 else
 ck (sb (p1.size:Int) (p0.size:Int) p0.size)<|
 let e2:ByteArray:=(p0.extract (Int.toNat (p1.size:Int)) (Int.toNat (p0.size:Int)))
 some (e2,true,()))
def aQ.F:=stk aQ.B
theorem aQ.eq:aQ.F=aQ.B:=aq _
theorem aQ.k:Kk aP.s aU.q [] Tryz.f337 aQ.d aQ.B:={}
def aQ.s:SpL:=aQ.d.e [] aQ.F::aP.s
theorem aQ.c:Ck aQ.s aU.q:=cS aP.c aQ.k
def cy.d:Fe:=⟨323,2,⟨[(0,.v false [.str]),(1,.v false [.str])],[],[],0,[]⟩,⟨[(0,.tup [(false,[.str]),(false,[.bool])])],[],[],1000,[]⟩,.n⟩
def cy.B:ByteArray×ByteArray×Unit→Option (ByteArray×Bool×Unit):=fun (p0,p1,_)=>
 (aQ.F (p0,p1,())).bind fun y1=>
 some (y1.1,y1.2.1,())
def cy.F:=stk cy.B
theorem cy.eq:cy.F=cy.B:=aq _
theorem cy.k:Kk aQ.s aU.q [] Tryz.f323 cy.d cy.B:={}
def cy.s:SpL:=cy.d.e [] cy.F::aQ.s
theorem cy.c:Ck cy.s aU.q:=cS aQ.c cy.k
def cM.d:Fe:=⟨311,1,⟨[(0,.v false [.str])],[],[],0,[]⟩,⟨[(0,.tup [(false,[.int .i64]),(false,[.bool])])],[],[],1000,[]⟩,.n⟩
def cM.B:ByteArray×Unit→Option (Int×Bool×Unit):=fun (p0,_)=>
 (cy.F (p0,(⟨#[99]⟩:ByteArray),())).bind fun y1=>
 (c7.F (y1.1,())).bind fun y2=>
 (bif y1.2.1 then
 (bif y2.2.1 then
 (bif (decide (y2.1≤(99:Int))) then
 (strconv_Itoa.F (y2.1,())).bind fun y3=>
 some (y2.1,(sq y3.1 y1.1),())
 else
 some (y2.1,false,()))
 else
 some (y2.1,false,()))
 else
 some (y2.1,false,()))
def cM.F:=stk cM.B
theorem cM.eq:cM.F=cM.B:=aq _
theorem cM.k:Kk cy.s aU.q [] Tryz.f311 cM.d cM.B:={}
def cM.s:SpL:=cM.d.e [] cM.F::cy.s
theorem cM.c:Ck cM.s aU.q:=cS cy.c cM.k
def bH.d:Fe:=⟨296,1,⟨[(0,.v false [.ptr 0 0])],[(0,true,.box 272 [.sl 195 dS])],[],1,[]⟩,⟨[(0,.v true [.int .i64,.int .i64,.int .i64,.int .i64,.str])],[(0,true,.box 272 [.sl 195 dS])],[],1001,[(0,0)]⟩,(.s none .n (.s none .n (.s none .n (.s none .n (.s none (.s (some ⟨[(4,.v false [.int .i64]),(5,.v false [.bool])],[],[2,3],0,[]⟩) .d .n) (.s none (.s (some ⟨[(6,.v false [.ptr 0 0]),(7,.v false [.bool])],[(0,false,.box 47 [.int .i64,.int .i64,.str])],[2,3],1,[]⟩) .d .n) .n))))))⟩
def bH.l:InT:=[(282,[],Tryz.f282,.n),(310,[],Tryz.f310,.n)]
def bH.b (A:AgF):(List aX)×Unit→Option ((Int×Int×Int×Int×ByteArray×(List aX)×Unit)⊕Int):=fun (o0,_)=>
 (aw.F ([(⟨#[110,117,108,108]⟩:ByteArray),(⟨#[63]⟩:ByteArray)],o0,())).bind fun y1=>
 (bif y1.1 then
 some (.inl ((10:Int),(0:Int),(0:Int),(0:Int),(⟨#[]⟩:ByteArray),y1.2.1,()))
 else
 Option.bind (bf.F (y1.2.1,())) fun zy2=>match zy2 with
 | .inl y2=>
 ((bif (y2.1==(1:Int)) then
 some (.inl ((1:Int),(0:Int),y2.2.2.1,y2.2.2.2.1,y2.2.2.2.2.1,y2.2.2.2.2.2.1,()))
 else
 jn (S:=Int×Bool×Unit) (
 (A _ (.n (.n (.n (.n (.n (.n (.n (.n (.n .u []) []) [(.n (.n .u []) [])]) [(.n (.n (.n .u []) []) [])]) []) []) []) []) [(.n (.n (.n (.n (.n (.n (.n (.n .u []) []) [(.n (.n .u []) [])]) [(.n (.n (.n .u []) []) [])]) []) []) []) [(.n (.n (.n (.n (.n (.n (.n .u []) []) [(.n (.n .u []) [])]) [(.n (.n (.n .u []) []) [])]) []) []) [])])]) fun t1=>
 il ((Option.getD (getKV (.string y2.2.1) (fe (.string (⟨#[110,111,116]⟩:ByteArray)) (9:Int) (fe (.string (⟨#[111,114]⟩:ByteArray)) (8:Int) (fe (.string (⟨#[97,110,100]⟩:ByteArray)) (7:Int) (fe (.string (⟨#[60]⟩:ByteArray)) (6:Int) (fe (.string (⟨#[61]⟩:ByteArray)) (5:Int) (fe (.string (⟨#[42]⟩:ByteArray)) (4:Int) (fe (.string (⟨#[45]⟩:ByteArray)) (3:Int) (fe (.string (⟨#[43]⟩:ByteArray)) (2:Int) ([]:List (Value×Int))))))))))) (0:Int)),(Option.isSome (getKV (.string y2.2.1) (fe (.string (⟨#[110,111,116]⟩:ByteArray)) (9:Int) (fe (.string (⟨#[111,114]⟩:ByteArray)) (8:Int) (fe (.string (⟨#[97,110,100]⟩:ByteArray)) (7:Int) (fe (.string (⟨#[60]⟩:ByteArray)) (6:Int) (fe (.string (⟨#[61]⟩:ByteArray)) (5:Int) (fe (.string (⟨#[42]⟩:ByteArray)) (4:Int) (fe (.string (⟨#[45]⟩:ByteArray)) (3:Int) (fe (.string (⟨#[43]⟩:ByteArray)) (2:Int) ([]:List (Value×Int)))))))))))),()))) fun (x4_3,x5_3,_)=>
 (bif x5_3 then
 some (.inl (x4_3,(0:Int),(0:Int),(0:Int),(⟨#[]⟩:ByteArray),y2.2.2.2.2.2.1,()))
 else
 jn (S:=Bool×Int×Int×ByteArray×Unit) (
 (A _ (.n (.n (.n (.n (.n (.n (.n (.n (.n (.n .u []) []) []) [(.n (.n (.n .u []) []) [(.n (.n .u []) [])])]) [(.n (.n (.n (.n .u []) []) []) [(.n (.n (.n .u []) []) [])]),(.n (.n (.n (.n .u []) []) [(.n (.n .u []) [])]) [(.n (.n (.n .u []) []) [])])]) [(.n (.n (.n (.n (.n .u []) []) [(.n (.n .u []) [])]) [(.n (.n (.n .u []) []) [])]) [])]) [(.n (.n (.n (.n (.n (.n .u []) []) [(.n (.n .u []) [])]) [(.n (.n (.n .u []) []) [])]) []) [])]) [(.n (.n (.n (.n (.n (.n (.n .u []) []) [(.n (.n .u []) [])]) [(.n (.n (.n .u []) []) [])]) []) []) [])]) [(.n (.n (.n (.n (.n (.n (.n (.n .u []) []) [(.n (.n .u []) [])]) [(.n (.n (.n .u []) []) [])]) []) []) []) [])]) [(.n (.n (.n (.n (.n (.n (.n (.n (.n .u []) []) []) [(.n (.n (.n .u []) []) [(.n (.n .u []) [])])]) [(.n (.n (.n (.n .u []) []) []) [(.n (.n (.n .u []) []) [])]),(.n (.n (.n (.n .u []) []) [(.n (.n .u []) [])]) [(.n (.n (.n .u []) []) [])])]) [(.n (.n (.n (.n (.n .u []) []) [(.n (.n .u []) [])]) [(.n (.n (.n .u []) []) [])]) [])]) [(.n (.n (.n (.n (.n (.n .u []) []) [(.n (.n .u []) [])]) [(.n (.n (.n .u []) []) [])]) []) [])]) [(.n (.n (.n (.n (.n (.n (.n .u []) []) [(.n (.n .u []) [])]) [(.n (.n (.n .u []) []) [])]) []) []) [])]) [(.n (.n (.n (.n (.n (.n (.n (.n .u []) []) []) [(.n (.n (.n .u []) []) [(.n (.n .u []) [])])]) [(.n (.n (.n (.n .u []) []) []) [(.n (.n (.n .u []) []) [])]),(.n (.n (.n (.n .u []) []) [(.n (.n .u []) [])]) [(.n (.n (.n .u []) []) [])])]) [(.n (.n (.n (.n (.n .u []) []) [(.n (.n .u []) [])]) [(.n (.n (.n .u []) []) [])]) [])]) [(.n (.n (.n (.n (.n (.n .u []) []) [(.n (.n .u []) [])]) [(.n (.n (.n .u []) []) [])]) []) [])]) [(.n (.n (.n (.n (.n (.n (.n .u []) []) [(.n (.n .u []) [])]) [(.n (.n (.n .u []) []) [])]) []) []) [])]),(.n (.n (.n (.n (.n (.n (.n (.n .u []) []) [(.n (.n .u []) [])]) [(.n (.n (.n .u []) []) [])]) []) []) []) [(.n (.n (.n (.n (.n (.n (.n .u []) []) [(.n (.n .u []) [])]) [(.n (.n (.n .u []) []) [])]) []) []) [])])]),(.n (.n (.n (.n (.n (.n (.n (.n (.n .u []) []) [(.n (.n .u []) [])]) [(.n (.n (.n .u []) []) [])]) []) []) []) []) [(.n (.n (.n (.n (.n (.n (.n (.n .u []) []) [(.n (.n .u []) [])]) [(.n (.n (.n .u []) []) [])]) []) []) []) [(.n (.n (.n (.n (.n (.n (.n .u []) []) [(.n (.n .u []) [])]) [(.n (.n (.n .u []) []) [])]) []) []) [])])])]) fun t1=>
 il ((Option.isSome (getKV (.string y2.2.1) (fe (.string (⟨#[116,114,117,101]⟩:ByteArray)) ((1:Int),((1:Int),(⟨#[]⟩:ByteArray))) (fe (.string (⟨#[102,97,108,115,101]⟩:ByteArray)) ((1:Int),((0:Int),(⟨#[]⟩:ByteArray))) (fe (.string (⟨#[110,117,108,108]⟩:ByteArray)) ((0:Int),((0:Int),(⟨#[]⟩:ByteArray))) ([]:List (Value×ap))))))),(Option.getD (getKV (.string y2.2.1) (fe (.string (⟨#[116,114,117,101]⟩:ByteArray)) ((1:Int),((1:Int),(⟨#[]⟩:ByteArray))) (fe (.string (⟨#[102,97,108,115,101]⟩:ByteArray)) ((1:Int),((0:Int),(⟨#[]⟩:ByteArray))) (fe (.string (⟨#[110,117,108,108]⟩:ByteArray)) ((0:Int),((0:Int),(⟨#[]⟩:ByteArray))) ([]:List (Value×ap)))))) ((0:Int),((0:Int),(⟨#[]⟩:ByteArray)))).1,(Option.getD (getKV (.string y2.2.1) (fe (.string (⟨#[116,114,117,101]⟩:ByteArray)) ((1:Int),((1:Int),(⟨#[]⟩:ByteArray))) (fe (.string (⟨#[102,97,108,115,101]⟩:ByteArray)) ((1:Int),((0:Int),(⟨#[]⟩:ByteArray))) (fe (.string (⟨#[110,117,108,108]⟩:ByteArray)) ((0:Int),((0:Int),(⟨#[]⟩:ByteArray))) ([]:List (Value×ap)))))) ((0:Int),((0:Int),(⟨#[]⟩:ByteArray)))).2.1,(Option.getD (getKV (.string y2.2.1) (fe (.string (⟨#[116,114,117,101]⟩:ByteArray)) ((1:Int),((1:Int),(⟨#[]⟩:ByteArray))) (fe (.string (⟨#[102,97,108,115,101]⟩:ByteArray)) ((1:Int),((0:Int),(⟨#[]⟩:ByteArray))) (fe (.string (⟨#[110,117,108,108]⟩:ByteArray)) ((0:Int),((0:Int),(⟨#[]⟩:ByteArray))) ([]:List (Value×ap)))))) ((0:Int),((0:Int),(⟨#[]⟩:ByteArray)))).2.2,()))) fun (x7_4,o6_0_0_4,o6_0_1_4,o6_0_2_4,_)=>
 (bif x7_4 then
 some (.inl ((1:Int),(0:Int),o6_0_0_4,o6_0_1_4,o6_0_2_4,y2.2.2.2.2.2.1,()))
 else
 (cM.F (y2.2.1,())).bind fun y5=>
 Option.bind (cW.F (y5.2.1,())) fun zy6=>match zy6 with
 | .inl y6=>
 (some (.inl ((0:Int),y5.1,(0:Int),(0:Int),(⟨#[]⟩:ByteArray),y2.2.2.2.2.2.1,())))
 | .inr n7=>some (.inr n7)))))
 | .inr n8=>some (.inr n8))
theorem bH.ab:bH.b agT=bH.b agI:=by
 unfold bH.b
 simp only [qr,oi]
def bH.B:=bH.b agI
def bH.F:=stk bH.B
theorem bH.eq:bH.F=bH.B:=aq _
theorem bH.k:Kp cM.s aU.q bH.l Tryz.f296 bH.d (bH.b agT):={}
def bH.q:SqL:=bH.d.p [] bH.F::aU.q
theorem bH.c:Ck cM.s bH.q:=cPa cM.c bH.k bH.ab
def cv.d:Fe:=⟨270,1,⟨[(0,.v false [.ptr 0 0])],[(0,true,.box 272 [.sl 195 dS])],[],1,[]⟩,⟨[(0,.v false [.ref 1001])],[(0,true,.box 272 [.sl 195 dS]),(1001,false,.arr 126 bN)],[],1002,[(0,0)]⟩,(.s none .n (.s none .n (.s none .n (.s none (.b (.l ⟨[(0,.v false [.ptr 1 0]),(3,.v false [.ref 0])],[(0,false,.arr 126 bN),(1,true,.box 272 [.sl 195 dS])],[],2,[]⟩ .n)) .n))))⟩
def cv.B:(List aX)×Unit→Option (((List aX)×(List ak)×Unit)⊕Int):=fun (o0,_)=>
 (aw.F ([(⟨#[91]⟩:ByteArray)],o0,())).bind fun y1=>
 Option.bind (cW.F (y1.1,())) fun zy2=>match zy2 with
 | .inl y2=>
 (aN (S:=(List ak)×(List aX)×Unit) (fun (o3_0,o0_0,_)=>
 (aw.F ([(⟨#[93]⟩:ByteArray)],o0_0,())).bind fun y3=>
 (bif (!y3.1) then
 Option.bind (bH.F (y3.2.1,())) fun zy4=>match zy4 with
 | .inl y4=>
 (ck (Nat.ble (o3_0.length+ [(y4.1,(y4.2.1,(y4.2.2.1,(y4.2.2.2.1,y4.2.2.2.2.1))))].length) 2932031007402)<|
 Option.bind (cW.F ((decide (((o3_0++ [(y4.1,(y4.2.1,(y4.2.2.1,(y4.2.2.2.1,y4.2.2.2.2.1))))]).length:Int)≤(100:Int))),())) fun zy5=>match zy5 with
 | .inl y5=>
 (il ((o3_0++ [(y4.1,(y4.2.1,(y4.2.2.1,(y4.2.2.2.1,y4.2.2.2.2.1))))]),y4.2.2.2.2.2.1,()))
 | .inr n6=>ir (.inr n6))
 | .inr n7=>ir (.inr n7)
 else
 ir (.inl (y3.2.1,o3_0,())))) ([],y1.2.1,()))
 | .inr n8=>some (.inr n8)
def cv.F:=stk cv.B
theorem cv.eq:cv.F=cv.B:=aq _
theorem cv.k:Kp cM.s bH.q [] Tryz.f270 cv.d cv.B:={}
def cv.q:SqL:=cv.d.p [] cv.F::bH.q
theorem cv.c:Ck cM.s cv.q:=cP bH.c cv.k
def bG.d:Fe:=⟨239,1,⟨[(0,.v false [.ptr 0 0])],[(0,true,.box 272 [.sl 195 dS])],[],1,[]⟩,⟨[(0,.v true [.str,.ref 1001,.ref 1002])],[(0,true,.box 272 [.sl 195 dS]),(1001,false,.arr 75 aV),(1002,false,.arr 78 (.sl 126 bN))],[],1003,[(0,0)]⟩,(.s none .n (.s none .n (.s none .n (.s none .n (.s none .n (.s (some ⟨[(3,.v false [.ptr 2 0])],[(0,true,.box 272 [.sl 195 dS]),(1,true,.box 270 [.ptr 0 0]),(2,true,.box 40 [.str,.ref 3,.ref 4]),(3,false,.arr 75 aV),(4,false,.arr 78 (.sl 126 bN))],[2],5,[(0,0),(1,1000)]⟩) (.b (.l ⟨[(1,.v false [.ptr 0 0]),(3,.v false [.ptr 2 0])],[(0,true,.box 270 [.ptr 1 0]),(1,true,.box 272 [.sl 195 dS]),(2,true,.box 40 [.str,.ref 3,.ref 4]),(3,false,.arr 75 aV),(4,false,.arr 78 (.sl 126 bN))],[2],5,[]⟩ (.s none .n (.b (.s (some ⟨[(1,.v false [.ptr 0 0]),(3,.v false [.ptr 2 0])],[(0,true,.box 270 [.ptr 1 0]),(1,true,.box 272 [.sl 195 dS]),(2,true,.box 40 [.str,.ref 3,.ref 4]),(3,false,.arr 75 aV),(4,false,.arr 78 (.sl 126 bN))],[2],5,[]⟩) .d .n))))) .n))))))⟩
def bG.l:InT:=[(267,[(1,268)],Tryz.f267,(.s none .n (.s (some ⟨[(0,.v false [.ptr 3 0])],[(0,true,.box 40 [.str,.ref 1,.ref 2]),(1,false,.arr 75 aV),(2,false,.arr 78 (.sl 126 bN)),(3,true,.box 272 [.sl 195 dS])],[1,4],4,[(0,1003)]⟩) .n (.b (.l ⟨[(0,.v false [.ptr 3 0]),(4,.v false [.int .i64])],[(0,true,.box 40 [.str,.ref 1,.ref 2]),(1,false,.arr 75 aV),(2,false,.arr 78 (.sl 126 bN)),(3,true,.box 272 [.sl 195 dS])],[1],4,[(0,1003)]⟩ .n))))),(268,[],Tryz.f268,.d)]
def bG.b (A:AgF):(List aX)×Unit→Option ((ByteArray×(List aX)×(List aB)×(List (List ak))×Unit)⊕Int):=fun (o0,_)=>
 Option.bind (cn.F (o0,())) fun zy1=>match zy1 with
 | .inl y1=>
 ((aw.F ([(⟨#[40]⟩:ByteArray)],y1.2.1,())).bind fun y2=>
 Option.bind (cW.F (y2.1,())) fun zy3=>match zy3 with
 | .inl y3=>
 (jn (S:=ByteArray×(List aB)×(List (List ak))×(List aX)×Unit) (
 (A _ (.n (.n (.n (.n (.l [(.n (.n (.l [(.n (.n .u []) [])]) []) [])]) []) []) [(.n (.n (.l [(.n (.n (.l [(.n (.n .u []) [])]) []) [])]) []) [(.l [(.n (.n (.n (.l [(.n (.n .u []) [])]) []) []) [(.n (.n (.l [(.n (.n .u []) [])]) []) [])])])])]) [(.n (.n (.n (.l [(.n (.n (.l [(.n (.n .u []) [])]) []) [])]) []) [(.l [(.n (.n (.n (.l [(.n (.n .u []) [])]) []) []) [(.n (.n (.l [(.n (.n .u []) [])]) []) [])])])]) [(.l [(.n (.n (.n (.n (.l [(.n (.n .u []) [])]) []) []) [(.n (.n (.l [(.n (.n .u []) [])]) []) [])]) [(.n (.n (.n (.l [(.n (.n .u []) [])]) []) []) [])])])])]) fun t1=>
 Option.bind (aU.F (y2.2.1,())) fun zy4=>match zy4 with
 | .inl y4=>
 ((A _ (t1.getD 0 .u) fun t2=>
 ck (Nat.ble [(y4.1,(y4.2.1,(y4.2.2.1,(y4.2.2.2.1,(y4.2.2.2.2.1,y4.2.2.2.2.2.1)))))].length 2513169434916)<|
 (A _ (t2.getD 0 .u) fun t3=>
 il (y1.1,[(y4.1,(y4.2.1,(y4.2.2.1,(y4.2.2.2.1,(y4.2.2.2.2.1,y4.2.2.2.2.2.1)))))],[],y4.2.2.2.2.2.2.1,()))))
 | .inr n5=>ir (.inr n5))) fun (ok_1_0_0_6,ok_1_0_1_6,ok_1_0_2_6,o0_0_6,_)=>
 aN (S:=Int×ByteArray×(List aB)×(List (List ak))×(List aX)×Unit) (fun (x4,ok_1_0_0,ok_1_0_1,ok_1_0_2,o0_0,_)=>
 (aw.F ([(⟨#[44]⟩:ByteArray)],o0_0,())).bind fun y7=>
 (bif y7.1 then
 let e8:Int:=(wr (x4+(1:Int)))
 Option.bind (cW.F ((decide (e8≤(40:Int))),())) fun zy9=>match zy9 with
 | .inl y9=>
 ((A _ (.n (.n (.n (.n (.l [(.n (.n (.l [(.n (.n .u []) [])]) []) [])]) []) []) [(.n (.n (.l [(.n (.n (.l [(.n (.n .u []) [])]) []) [])]) []) [(.l [(.n (.n (.n (.l [(.n (.n .u []) [])]) []) []) [(.n (.n (.l [(.n (.n .u []) [])]) []) [])])])])]) [(.n (.n (.n (.l [(.n (.n (.l [(.n (.n .u []) [])]) []) [])]) []) [(.l [(.n (.n (.n (.l [(.n (.n .u []) [])]) []) []) [(.n (.n (.l [(.n (.n .u []) [])]) []) [])])])]) [(.l [(.n (.n (.n (.n (.l [(.n (.n .u []) [])]) []) []) [(.n (.n (.l [(.n (.n .u []) [])]) []) [])]) [(.n (.n (.n (.l [(.n (.n .u []) [])]) []) []) [])])])])]) fun t1=>
 Option.bind (aU.F (y7.2.1,())) fun zy10=>match zy10 with
 | .inl y10=>
 ((A _ (t1.getD 0 .u) fun t2=>
 ck (Nat.ble (ok_1_0_1.length+ [(y10.1,(y10.2.1,(y10.2.2.1,(y10.2.2.2.1,(y10.2.2.2.2.1,y10.2.2.2.2.2.1)))))].length) 2513169434916)<|
 (A _ (t2.getD 0 .u) fun t3=>
 il (e8,ok_1_0_0,(ok_1_0_1++ [(y10.1,(y10.2.1,(y10.2.2.1,(y10.2.2.2.1,(y10.2.2.2.2.1,y10.2.2.2.2.2.1)))))]),ok_1_0_2,y10.2.2.2.2.2.2.1,()))))
 | .inr n11=>ir (.inr n11)))
 | .inr n12=>ir (.inr n12)
 else
 Option.map Sum.inr ((aw.F ([(⟨#[41]⟩:ByteArray)],y7.2.1,())).bind fun y13=>
 Option.bind (cW.F (y13.1,())) fun zy14=>match zy14 with
 | .inl y14=>
 (jn (S:=(List aX)×ByteArray×(List aB)×(List (List ak))×Unit) (
 aN (S:=(List aX)×ByteArray×(List aB)×(List (List ak))×Unit) (fun (o1_0_0,o3_0_0,o3_0_1,o3_0_2,_)=>
 (aw.F ([(⟨#[99,104,101,99,107]⟩:ByteArray)],o1_0_0,())).bind fun y15=>
 (bif y15.1 then
 jn (S:=(List aX)×ByteArray×(List aB)×(List (List ak))×Unit) (
 (A _ (.n (.n (.n (.n (.l [(.n (.n (.l [(.n (.n .u []) [])]) []) [])]) []) []) [(.n (.n (.l [(.n (.n (.l [(.n (.n .u []) [])]) []) [])]) []) [(.l [(.n (.n (.n (.l [(.n (.n .u []) [])]) []) []) [(.n (.n (.l [(.n (.n .u []) [])]) []) [])])])])]) [(.n (.n (.n (.l [(.n (.n (.l [(.n (.n .u []) [])]) []) [])]) []) [(.l [(.n (.n (.n (.l [(.n (.n .u []) [])]) []) []) [(.n (.n (.l [(.n (.n .u []) [])]) []) [])])])]) [(.l [(.n (.n (.n (.n (.l [(.n (.n .u []) [])]) []) []) [(.n (.n (.l [(.n (.n .u []) [])]) []) [])]) [(.n (.n (.n (.l [(.n (.n .u []) [])]) []) []) [])])])])]) fun t1=>
 Option.bind (cv.F (y15.2.1,())) fun zy16=>match zy16 with
 | .inl y16=>
 ((A _ (t1.getD 0 .u) fun t2=>
 ck (Nat.ble (o3_0_2.length+ [y16.2.1].length) 5864062014805)<|
 (A _ (t2.getD 0 .u) fun t3=>
 il (y16.1,o3_0_0,o3_0_1,(o3_0_2++ [y16.2.1]),()))))
 | .inr n17=>ir (.inr (.inr (.inr n17))))) fun (o1_0_0_18,o3_0_0_18,o3_0_1_18,o3_0_2_18,_)=>
 Option.bind (cW.F ((decide ((o3_0_2_18.length:Int)≤(40:Int))),())) fun zy19=>match zy19 with
 | .inl y19=>
 (il (o1_0_0_18,o3_0_0_18,o3_0_1_18,o3_0_2_18,()))
 | .inr n20=>ir (.inr (.inr n20))
 else
 ir (.inl (y15.2.1,o3_0_0,o3_0_1,o3_0_2,())))) (y13.2.1,ok_1_0_0,ok_1_0_1,ok_1_0_2,())) fun (oin_0_21,o3_0_0_21,o3_0_1_21,o3_0_2_21,_)=>
 some (.inl (o3_0_0_21,oin_0_21,o3_0_1_21,o3_0_2_21,())))
 | .inr n22=>some (.inr n22)))) ((1:Int),ok_1_0_0_6,ok_1_0_1_6,ok_1_0_2_6,o0_0_6,()))
 | .inr n23=>some (.inr n23))
 | .inr n24=>some (.inr n24)
theorem bG.ab:bG.b agT=bG.b agI:=by
 unfold bG.b
 simp only [qr,oi]
def bG.B:=bG.b agI
def bG.F:=stk bG.B
theorem bG.eq:bG.F=bG.B:=aq _
theorem bG.k:Kp cM.s cv.q bG.l Tryz.f239 bG.d (bG.b agT):={}
def bG.q:SqL:=bG.d.p [] bG.F::cv.q
theorem bG.c:Ck cM.s bG.q:=cPa cv.c bG.k bG.ab
def bI.d:Fe:=⟨271,1,⟨[(0,.v false [.ptr 0 0])],[(0,true,.box 272 [.sl 195 dS])],[],1,[]⟩,⟨[(0,.v false [.int .i64])],[(0,true,.box 272 [.sl 195 dS])],[],1001,[(0,0)]⟩,(.s none .n (.s none .n (.s (some ⟨[],[],[3],0,[]⟩) .n .n)))⟩
def bI.B:(List aX)×Unit→Option ((Int×(List aX)×Unit)⊕Int):=fun (o0,_)=>
 Option.bind (bf.F (o0,())) fun zy1=>match zy1 with
 | .inl y1=>
 (jn (S:=Unit) (
 (bif (y1.1==(1:Int)) then
 (bif (y1.2.2.1==(2:Int)) then
 (bif (decide (y1.2.2.2.1≥(0:Int))) then
 Option.bind (cW.F ((decide (y1.2.2.2.1≤(99:Int))),())) fun zy2=>match zy2 with
 | .inl y2=>
 (il (()))
 | .inr n3=>ir (.inr n3)
 else
 Option.bind (cW.F (false,())) fun zy4=>match zy4 with
 | .inl y4=>
 (il (()))
 | .inr n5=>ir (.inr n5))
 else
 Option.bind (cW.F (false,())) fun zy6=>match zy6 with
 | .inl y6=>
 (il (()))
 | .inr n7=>ir (.inr n7))
 else
 Option.bind (cW.F (false,())) fun zy8=>match zy8 with
 | .inl y8=>
 (il (()))
 | .inr n9=>ir (.inr n9))) fun (_)=>
 some (.inl (y1.2.2.2.1,y1.2.2.2.2.2.1,())))
 | .inr n11=>some (.inr n11)
def bI.F:=stk bI.B
theorem bI.eq:bI.F=bI.B:=aq _
theorem bI.k:Kp cM.s bG.q [] Tryz.f271 bI.d bI.B:={}
def bI.q:SqL:=bI.d.p [] bI.F::bG.q
theorem bI.c:Ck cM.s bI.q:=cP bG.c bI.k
def ae.d:Fe:=⟨240,1,⟨[(0,.v false [.ptr 0 0])],[(0,true,.box 272 [.sl 195 dS])],[],1,[]⟩,⟨[(0,.v true [.str,.str,.str,.int .i64,.int .i64,.ref 1001,.ref 1002,.bool,.ref 1003])],[(0,true,.box 272 [.sl 195 dS]),(1001,false,.arr 126 bN),(1002,false,.arr 3 (.int .i64)),(1003,false,.arr 156 ep)],[],1004,[(0,0)]⟩,(.s none .n (.s none .n (.s none .n (.s none .n (.s (some ⟨[(1,.v false [.ptr 0 0]),(3,.v false [.ptr 2 0])],[(0,true,.box 270 [.ptr 1 0]),(1,true,.box 272 [.sl 195 dS]),(2,true,.box 82 [.str,.str,.str,.int .i64,.int .i64,.ref 3,.ref 4,.bool,.ref 5]),(3,false,.arr 126 bN),(4,false,.arr 3 (.int .i64)),(5,false,.arr 156 ep)],[2],6,[]⟩) .n (.s (some ⟨[(1,.v false [.ptr 0 0]),(3,.v false [.ptr 2 0])],[(0,true,.box 270 [.ptr 1 0]),(1,true,.box 272 [.sl 195 dS]),(2,true,.box 82 [.str,.str,.str,.int .i64,.int .i64,.ref 3,.ref 4,.bool,.ref 5]),(3,false,.arr 126 bN),(4,false,.arr 3 (.int .i64)),(5,false,.arr 156 ep)],[2],6,[]⟩) .n (.s none .n (.s (some ⟨[(1,.v false [.ptr 0 0]),(3,.v false [.ptr 2 0])],[(0,true,.box 270 [.ptr 1 0]),(1,true,.box 272 [.sl 195 dS]),(2,true,.box 82 [.str,.str,.str,.int .i64,.int .i64,.ref 3,.ref 4,.bool,.ref 5]),(3,false,.arr 126 bN),(4,false,.arr 3 (.int .i64)),(5,false,.arr 156 ep)],[2],6,[]⟩) .n .n))))))))⟩
def ae.l:InT:=[(267,[(1,273)],Tryz.f267,(.s none .n (.s (some ⟨[(0,.v false [.ptr 4 0])],[(0,true,.box 82 [.str,.str,.str,.int .i64,.int .i64,.ref 1,.ref 2,.bool,.ref 3]),(1,false,.arr 126 bN),(2,false,.arr 3 (.int .i64)),(3,false,.arr 156 ep),(4,true,.box 272 [.sl 195 dS])],[1,4],5,[(0,1003)]⟩) .n (.b (.l ⟨[(0,.v false [.ptr 4 0]),(4,.v false [.int .i64])],[(0,true,.box 82 [.str,.str,.str,.int .i64,.int .i64,.ref 1,.ref 2,.bool,.ref 3]),(1,false,.arr 126 bN),(2,false,.arr 3 (.int .i64)),(3,false,.arr 156 ep),(4,true,.box 272 [.sl 195 dS])],[1],5,[(0,1003)]⟩ .n))))),(267,[(1,274)],Tryz.f267,(.s none .n (.s (some ⟨[(0,.v false [.ptr 4 0])],[(0,true,.box 82 [.str,.str,.str,.int .i64,.int .i64,.ref 1,.ref 2,.bool,.ref 3]),(1,false,.arr 126 bN),(2,false,.arr 3 (.int .i64)),(3,false,.arr 156 ep),(4,true,.box 272 [.sl 195 dS])],[1,4],5,[(0,1003)]⟩) .n (.b (.l ⟨[(0,.v false [.ptr 4 0]),(4,.v false [.int .i64])],[(0,true,.box 82 [.str,.str,.str,.int .i64,.int .i64,.ref 1,.ref 2,.bool,.ref 3]),(1,false,.arr 126 bN),(2,false,.arr 3 (.int .i64)),(3,false,.arr 156 ep),(4,true,.box 272 [.sl 195 dS])],[1],5,[(0,1003)]⟩ .n))))),(273,[],Tryz.f273,.d),(274,[],Tryz.f274,.n)]
def ae.b (A:AgF):(List aX)×Unit→Option ((ByteArray×ByteArray×ByteArray×Int×Int×Bool×(List aX)×(List ak)×(List Int)×(List cU)×Unit)⊕Int):=fun (o0,_)=>
 Option.bind (cn.F (o0,())) fun zy1=>match zy1 with
 | .inl y1=>
 ((aw.F ([(⟨#[102,114,111,109]⟩:ByteArray)],y1.2.1,())).bind fun y2=>
 Option.bind (cW.F (y2.1,())) fun zy3=>match zy3 with
 | .inl y3=>
 (Option.bind (cn.F (y2.2.1,())) fun zy4=>match zy4 with
 | .inl y4=>
 (jn (S:=(List aX)×ByteArray×ByteArray×ByteArray×Int×Int×Bool×(List ak)×(List Int)×(List cU)×Unit) (
 (aw.F ([(⟨#[106,111,105,110]⟩:ByteArray)],y4.2.1,())).bind fun y5=>
 (bif y5.1 then
 Option.bind (cn.F (y5.2.1,())) fun zy6=>match zy6 with
 | .inl y6=>
 ((aw.F ([(⟨#[111,110]⟩:ByteArray)],y6.2.1,())).bind fun y7=>
 Option.bind (cW.F (y7.1,())) fun zy8=>match zy8 with
 | .inl y8=>
 (Option.bind (bI.F (y7.2.1,())) fun zy9=>match zy9 with
 | .inl y9=>
 (ck (ib (0:Int) 2)<|
 (aw.F ([(⟨#[61]⟩:ByteArray)],y9.2.1,())).bind fun y10=>
 Option.bind (cW.F (y10.1,())) fun zy11=>match zy11 with
 | .inl y11=>
 (Option.bind (bI.F (y10.2.1,())) fun zy12=>match zy12 with
 | .inl y12=>
 (ck (ib (1:Int) 2)<|
 il (y12.2.1,y1.1,y4.1,y6.1,y9.1,y12.1,false,[],[],[],()))
 | .inr n13=>ir (.inr n13))
 | .inr n14=>ir (.inr n14))
 | .inr n15=>ir (.inr n15))
 | .inr n16=>ir (.inr n16))
 | .inr n17=>ir (.inr n17)
 else
 il (y5.2.1,y1.1,y4.1,(⟨#[]⟩:ByteArray),(0:Int),(0:Int),false,[],[],[],()))) fun (o1_0_0_18,o3_0_0_18,o3_0_1_18,o3_0_2_18,o3_0_3_18,o3_0_4_18,o3_0_7_18,o3_0_5_18,o3_0_6_18,o3_0_8_18,_)=>
 jn (S:=(List aX)×ByteArray×ByteArray×ByteArray×Int×Int×Bool×(List ak)×(List Int)×(List cU)×Unit) (
 (aw.F ([(⟨#[119,104,101,114,101]⟩:ByteArray)],o1_0_0_18,())).bind fun y19=>
 (bif y19.1 then
 Option.bind (cv.F (y19.2.1,())) fun zy20=>match zy20 with
 | .inl y20=>
 (il (y20.1,o3_0_0_18,o3_0_1_18,o3_0_2_18,o3_0_3_18,o3_0_4_18,o3_0_7_18,y20.2.1,o3_0_6_18,o3_0_8_18,()))
 | .inr n21=>ir (.inr n21)
 else
 il (y19.2.1,o3_0_0_18,o3_0_1_18,o3_0_2_18,o3_0_3_18,o3_0_4_18,o3_0_7_18,o3_0_5_18,o3_0_6_18,o3_0_8_18,()))) fun (o1_0_0_22,o3_0_0_22,o3_0_1_22,o3_0_2_22,o3_0_3_22,o3_0_4_22,o3_0_7_22,o3_0_5_22,o3_0_6_22,o3_0_8_22,_)=>
 (aw.F ([(⟨#[112,105,99,107]⟩:ByteArray)],o1_0_0_22,())).bind fun y23=>
 Option.bind (cW.F (y23.1,())) fun zy24=>match zy24 with
 | .inl y24=>
 (jn (S:=(List aX)×ByteArray×ByteArray×ByteArray×Int×Int×Bool×(List ak)×(List Int)×(List cU)×Unit) (
 (bif (decide ((y23.2.1.length:Int)>(0:Int))) then
 (cJ.F ([(⟨#[103,114,111,117,112]⟩:ByteArray)],y23.2.1,())).bind fun y25=>
 (bif (!y25.1) then
 jn (S:=ByteArray×ByteArray×ByteArray×Int×Int×Bool×(List ak)×(List Int)×(List cU)×(List aX)×Unit) (
 (A _ (.n (.n (.n (.n (.l [(.n (.n (.l [(.n (.n .u []) [])]) []) [])]) []) []) [(.n (.n (.l [(.n (.n (.l [(.n (.n .u []) [])]) []) [])]) []) [(.l [(.n (.n (.n (.l [(.n (.n .u []) [])]) []) []) [(.n (.n (.l [(.n (.n .u []) [])]) []) [])])])])]) [(.n (.n (.n (.l [(.n (.n (.l [(.n (.n .u []) [])]) []) [])]) []) [(.l [(.n (.n (.n (.l [(.n (.n .u []) [])]) []) []) [(.n (.n (.l [(.n (.n .u []) [])]) []) [])])])]) [(.l [(.n (.n (.n (.n (.l [(.n (.n .u []) [])]) []) []) [(.n (.n (.l [(.n (.n .u []) [])]) []) [])]) [(.n (.n (.n (.l [(.n (.n .u []) [])]) []) []) [])])])])]) fun t1=>
 Option.bind (bI.F (y25.2.1,())) fun zy26=>match zy26 with
 | .inl y26=>
 ((A _ (t1.getD 0 .u) fun t2=>
 ck (Nat.ble (o3_0_6_22.length+ [y26.1].length) 17592186044416)<|
 (A _ (t2.getD 0 .u) fun t3=>
 il (o3_0_0_22,o3_0_1_22,o3_0_2_22,o3_0_3_22,o3_0_4_22,o3_0_7_22,o3_0_5_22,(o3_0_6_22++ [y26.1]),o3_0_8_22,y26.2.1,()))))
 | .inr n27=>ir (.inr (.inr n27)))) fun (ok_1_0_0_28,ok_1_0_1_28,ok_1_0_2_28,ok_1_0_3_28,ok_1_0_4_28,ok_1_0_7_28,ok_1_0_5_28,ok_1_0_6_28,ok_1_0_8_28,o0_0_28,_)=>
 aN (S:=Int×ByteArray×ByteArray×ByteArray×Int×Int×Bool×(List ak)×(List Int)×(List cU)×(List aX)×Unit) (fun (x4,ok_1_0_0,ok_1_0_1,ok_1_0_2,ok_1_0_3,ok_1_0_4,ok_1_0_7,ok_1_0_5,ok_1_0_6,ok_1_0_8,o0_0,_)=>
 (aw.F ([(⟨#[44]⟩:ByteArray)],o0_0,())).bind fun y29=>
 (bif y29.1 then
 let e30:Int:=(wr (x4+(1:Int)))
 Option.bind (cW.F ((decide (e30≤(40:Int))),())) fun zy31=>match zy31 with
 | .inl y31=>
 ((A _ (.n (.n (.n (.n (.l [(.n (.n (.l [(.n (.n .u []) [])]) []) [])]) []) []) [(.n (.n (.l [(.n (.n (.l [(.n (.n .u []) [])]) []) [])]) []) [(.l [(.n (.n (.n (.l [(.n (.n .u []) [])]) []) []) [(.n (.n (.l [(.n (.n .u []) [])]) []) [])])])])]) [(.n (.n (.n (.l [(.n (.n (.l [(.n (.n .u []) [])]) []) [])]) []) [(.l [(.n (.n (.n (.l [(.n (.n .u []) [])]) []) []) [(.n (.n (.l [(.n (.n .u []) [])]) []) [])])])]) [(.l [(.n (.n (.n (.n (.l [(.n (.n .u []) [])]) []) []) [(.n (.n (.l [(.n (.n .u []) [])]) []) [])]) [(.n (.n (.n (.l [(.n (.n .u []) [])]) []) []) [])])])])]) fun t1=>
 Option.bind (bI.F (y29.2.1,())) fun zy32=>match zy32 with
 | .inl y32=>
 ((A _ (t1.getD 0 .u) fun t2=>
 ck (Nat.ble (ok_1_0_6.length+ [y32.1].length) 17592186044416)<|
 (A _ (t2.getD 0 .u) fun t3=>
 il (e30,ok_1_0_0,ok_1_0_1,ok_1_0_2,ok_1_0_3,ok_1_0_4,ok_1_0_7,ok_1_0_5,(ok_1_0_6++ [y32.1]),ok_1_0_8,y32.2.1,()))))
 | .inr n33=>ir (.inr (.inr n33))))
 | .inr n34=>ir (.inr (.inr n34))
 else
 ir (.inl (y29.2.1,ok_1_0_0,ok_1_0_1,ok_1_0_2,ok_1_0_3,ok_1_0_4,ok_1_0_7,ok_1_0_5,ok_1_0_6,ok_1_0_8,())))) ((1:Int),ok_1_0_0_28,ok_1_0_1_28,ok_1_0_2_28,ok_1_0_3_28,ok_1_0_4_28,ok_1_0_7_28,ok_1_0_5_28,ok_1_0_6_28,ok_1_0_8_28,o0_0_28,())
 else
 il (y25.2.1,o3_0_0_22,o3_0_1_22,o3_0_2_22,o3_0_3_22,o3_0_4_22,o3_0_7_22,o3_0_5_22,o3_0_6_22,o3_0_8_22,()))
 else
 il (y23.2.1,o3_0_0_22,o3_0_1_22,o3_0_2_22,o3_0_3_22,o3_0_4_22,o3_0_7_22,o3_0_5_22,o3_0_6_22,o3_0_8_22,()))) fun (o1_0_0_35,o3_0_0_35,o3_0_1_35,o3_0_2_35,o3_0_3_35,o3_0_4_35,o3_0_7_35,o3_0_5_35,o3_0_6_35,o3_0_8_35,_)=>
 (aw.F ([(⟨#[103,114,111,117,112]⟩:ByteArray)],o1_0_0_35,())).bind fun y36=>
 (bif y36.1 then
 (bif (decide ((y36.2.1.length:Int)>(0:Int))) then
 jn (S:=ByteArray×ByteArray×ByteArray×Int×Int×Bool×(List ak)×(List Int)×(List cU)×(List aX)×Unit) (
 Option.bind (bS.F ([(⟨#[99,111,117,110,116]⟩:ByteArray),(⟨#[115,117,109]⟩:ByteArray),(⟨#[109,105,110]⟩:ByteArray),(⟨#[109,97,120]⟩:ByteArray)],y36.2.1,())) fun zy37=>match zy37 with
 | .inl y37=>
 ((bif (y37.1 !=(0:Int)) then
 Option.bind (bI.F (y37.2.1,())) fun zy38=>match zy38 with
 | .inl y38=>
 (ck (Nat.ble (o3_0_8_35.length+ [(y37.1,y38.1)].length) 8796093022208)<|
 il (o3_0_0_35,o3_0_1_35,o3_0_2_35,o3_0_3_35,o3_0_4_35,y36.1,o3_0_5_35,o3_0_6_35,(o3_0_8_35++ [(y37.1,y38.1)]),y38.2.1,()))
 | .inr n39=>ir (.inr n39)
 else
 ck (Nat.ble (o3_0_8_35.length+ [(y37.1,(0:Int))].length) 8796093022208)<|
 il (o3_0_0_35,o3_0_1_35,o3_0_2_35,o3_0_3_35,o3_0_4_35,y36.1,o3_0_5_35,o3_0_6_35,(o3_0_8_35++ [(y37.1,(0:Int))]),y37.2.1,())))
 | .inr n40=>ir (.inr n40)) fun (ok_1_1_0_41,ok_1_1_1_41,ok_1_1_2_41,ok_1_1_3_41,ok_1_1_4_41,ok_1_1_7_41,ok_1_1_5_41,ok_1_1_6_41,ok_1_1_8_41,o0_0_41,_)=>
 aN (S:=Int×ByteArray×ByteArray×ByteArray×Int×Int×Bool×(List ak)×(List Int)×(List cU)×(List aX)×Unit) (fun (x4,ok_1_1_0,ok_1_1_1,ok_1_1_2,ok_1_1_3,ok_1_1_4,ok_1_1_7,ok_1_1_5,ok_1_1_6,ok_1_1_8,o0_0,_)=>
 (aw.F ([(⟨#[44]⟩:ByteArray)],o0_0,())).bind fun y42=>
 (bif y42.1 then
 let e43:Int:=(wr (x4+(1:Int)))
 Option.bind (cW.F ((decide (e43≤(40:Int))),())) fun zy44=>match zy44 with
 | .inl y44=>
 (Option.bind (bS.F ([(⟨#[99,111,117,110,116]⟩:ByteArray),(⟨#[115,117,109]⟩:ByteArray),(⟨#[109,105,110]⟩:ByteArray),(⟨#[109,97,120]⟩:ByteArray)],y42.2.1,())) fun zy45=>match zy45 with
 | .inl y45=>
 ((bif (y45.1 !=(0:Int)) then
 Option.bind (bI.F (y45.2.1,())) fun zy46=>match zy46 with
 | .inl y46=>
 (ck (Nat.ble (ok_1_1_8.length+ [(y45.1,y46.1)].length) 8796093022208)<|
 il (e43,ok_1_1_0,ok_1_1_1,ok_1_1_2,ok_1_1_3,ok_1_1_4,ok_1_1_7,ok_1_1_5,ok_1_1_6,(ok_1_1_8++ [(y45.1,y46.1)]),y46.2.1,()))
 | .inr n47=>ir (.inr n47)
 else
 ck (Nat.ble (ok_1_1_8.length+ [(y45.1,(0:Int))].length) 8796093022208)<|
 il (e43,ok_1_1_0,ok_1_1_1,ok_1_1_2,ok_1_1_3,ok_1_1_4,ok_1_1_7,ok_1_1_5,ok_1_1_6,(ok_1_1_8++ [(y45.1,(0:Int))]),y45.2.1,())))
 | .inr n48=>ir (.inr n48))
 | .inr n49=>ir (.inr n49)
 else
 ir (.inl (ok_1_1_0,ok_1_1_1,ok_1_1_2,ok_1_1_3,ok_1_1_4,ok_1_1_7,y42.2.1,ok_1_1_5,ok_1_1_6,ok_1_1_8,())))) ((1:Int),ok_1_1_0_41,ok_1_1_1_41,ok_1_1_2_41,ok_1_1_3_41,ok_1_1_4_41,ok_1_1_7_41,ok_1_1_5_41,ok_1_1_6_41,ok_1_1_8_41,o0_0_41,())
 else
 some (.inl (o3_0_0_35,o3_0_1_35,o3_0_2_35,o3_0_3_35,o3_0_4_35,y36.1,y36.2.1,o3_0_5_35,o3_0_6_35,o3_0_8_35,())))
 else
 some (.inl (o3_0_0_35,o3_0_1_35,o3_0_2_35,o3_0_3_35,o3_0_4_35,y36.1,y36.2.1,o3_0_5_35,o3_0_6_35,o3_0_8_35,()))))
 | .inr n50=>some (.inr n50))
 | .inr n51=>some (.inr n51))
 | .inr n52=>some (.inr n52))
 | .inr n53=>some (.inr n53)
theorem ae.ab:ae.b agT=ae.b agI:=by
 unfold ae.b
 simp only [qr,oi]
def ae.B:=ae.b agI
def ae.F:=stk ae.B
theorem ae.eq:ae.F=ae.B:=aq _
theorem ae.k:Kp cM.s bI.q ae.l Tryz.f240 ae.d (ae.b agT):={}
def ae.q:SqL:=ae.d.p [] ae.F::bI.q
theorem ae.c:Ck cM.s ae.q:=cPa bI.c ae.k ae.ab
def cB.d:Fe:=⟨207,1,⟨[(0,.v false [.str])],[],[],0,[]⟩,⟨[(0,.tup [(true,[.int .i64,.str,.ref 1000,.ref 1001,.str,.str,.str,.int .i64,.int .i64,.ref 1002,.ref 1003,.bool,.ref 1004]),(false,[.int .i64])])],[(1000,false,.arr 75 aV),(1001,false,.arr 78 (.sl 126 bN)),(1002,false,.arr 126 bN),(1003,false,.arr 3 (.int .i64)),(1004,false,.arr 156 ep)],[],1005,[]⟩,.n⟩
def cB.B:ByteArray×Unit→Option (Int×ByteArray×ByteArray×ByteArray×ByteArray×Int×Int×Bool×Int×(List aB)×(List (List ak))×(List ak)×(List Int)×(List cU)×Unit):=fun (p0,_)=>
 (gn.F (p0,())).bind fun y1=>
 (bif (y1.1 !=(0:Int)) then
 some ((0:Int),(⟨#[]⟩:ByteArray),(⟨#[]⟩:ByteArray),(⟨#[]⟩:ByteArray),(⟨#[]⟩:ByteArray),(0:Int),(0:Int),false,y1.1,[],[],[],[],[],())
 else
 Option.bind (bS.F ([(⟨#[116,97,98,108,101]⟩:ByteArray),(⟨#[118,105,101,119]⟩:ByteArray)],y1.2.1,())) fun zy2=>match zy2 with
 | .inl y2=>
 ((bif (y2.1==(0:Int)) then
 Option.bind (bG.F (y2.2.1,())) fun zy3=>match zy3 with
 | .inl y3=>
 (Option.bind (cW.F (((y3.2.1.length:Int)==(0:Int)),())) fun zy4=>match zy4 with
 | .inl y4=>
 (some (y2.1,y3.1,(⟨#[]⟩:ByteArray),(⟨#[]⟩:ByteArray),(⟨#[]⟩:ByteArray),(0:Int),(0:Int),false,(0:Int),y3.2.2.1,y3.2.2.2.1,[],[],[],()))
 | .inr n5=>some ((0:Int),(⟨#[]⟩:ByteArray),(⟨#[]⟩:ByteArray),(⟨#[]⟩:ByteArray),(⟨#[]⟩:ByteArray),(0:Int),(0:Int),false,n5,[],[],[],[],[],()))
 | .inr n6=>some ((0:Int),(⟨#[]⟩:ByteArray),(⟨#[]⟩:ByteArray),(⟨#[]⟩:ByteArray),(⟨#[]⟩:ByteArray),(0:Int),(0:Int),false,n6,[],[],[],[],[],())
 else
 Option.bind (ae.F (y2.2.1,())) fun zy7=>match zy7 with
 | .inl y7=>
 (Option.bind (cW.F (((y7.2.2.2.2.2.2.1.length:Int)==(0:Int)),())) fun zy8=>match zy8 with
 | .inl y8=>
 (some (y2.1,(⟨#[]⟩:ByteArray),y7.1,y7.2.1,y7.2.2.1,y7.2.2.2.1,y7.2.2.2.2.1,y7.2.2.2.2.2.1,(0:Int),[],[],y7.2.2.2.2.2.2.2.1,y7.2.2.2.2.2.2.2.2.1,y7.2.2.2.2.2.2.2.2.2.1,()))
 | .inr n9=>some ((0:Int),(⟨#[]⟩:ByteArray),(⟨#[]⟩:ByteArray),(⟨#[]⟩:ByteArray),(⟨#[]⟩:ByteArray),(0:Int),(0:Int),false,n9,[],[],[],[],[],()))
 | .inr n10=>some ((0:Int),(⟨#[]⟩:ByteArray),(⟨#[]⟩:ByteArray),(⟨#[]⟩:ByteArray),(⟨#[]⟩:ByteArray),(0:Int),(0:Int),false,n10,[],[],[],[],[],())))
 | .inr n11=>some ((0:Int),(⟨#[]⟩:ByteArray),(⟨#[]⟩:ByteArray),(⟨#[]⟩:ByteArray),(⟨#[]⟩:ByteArray),(0:Int),(0:Int),false,n11,[],[],[],[],[],()))
def cB.F:=stk cB.B
theorem cB.eq:cB.F=cB.B:=aq _
def cB.pre:List (Code×H):=[(lC (Tryz.f207.body.getD .skip),.n),(lC (rC' (Tryz.f207.body.getD .skip)),.n),(lC (rC' (rC' (Tryz.f207.body.getD .skip))),.n)]
def cB.E:Code:=(rC' (rC' (rC' (rC' (Tryz.f207.body.getD .skip)))))
def cB.G:Code:=(rC' (Tryz.f237.body.getD .skip))
def cB.hE:H:=.n
def cB.hG:H:=.n
theorem cB.ev (x:TS cB.d.si):vB (cx cM.s ae.q) (inl3 (cx cM.s ae.q) []) cB.pre cB.E cB.hE cB.G cB.hG 2 3 15 5 Tryz.f207.results.toList cB.d.si cB.d.so x=cB.B x:=by kernel_rfl
theorem cB.ins:wX PP []:=by repeat' first|exact trivial|refine And.intro ?_ ?_|kernel_rfl
theorem cB.ok:fk PP 207 ⟨1,cB.d.si,cB.d.so,cB.F⟩:=
 Aq (pre:=cB.pre) (i:=4) (om:=opC (lC (rC' (rC' (rC' (Tryz.f207.body.getD .skip))))) 0) (od:=opC (lC (rC' (rC' (rC' (Tryz.f207.body.getD .skip))))) 1) (E:=cB.E) (f:=237) (p:=2) (q:=3) (t:=15) (ir:=0) (tr:=5) (or:=opC (lC (Tryz.f237.body.getD .skip)) 0) (G:=cB.G) ae.c (oC ae.c mixed cB.ins) mixed Tryz.func207 (by kernel_rfl) ⟨by kernel_rfl,by kernel_rfl,by kernel_rfl,by kernel_rfl,by kernel_rfl,by kernel_rfl⟩ Tryz.func237 (by kernel_rfl) (by kernel_rfl) ⟨⟨#[],by kernel_rfl⟩,by kernel_rfl,by kernel_rfl⟩ (by kernel_rfl) (by kernel_rfl) (by kernel_rfl) (by kernel_rfl) cB.hE cB.hG (by kernel_rfl) cB.ev
def cB.s:SpL:=cB.d.e [] cB.F::cM.s
theorem cB.c:Ck cB.s ae.q:=gT.consS ae.c [] ⟨_,Tryz.func207,by kernel_rfl,by decide⟩ cB.ok
def aD.d:Fe:=⟨244,2,⟨[(0,.v false [.sl 126 bN]),(1,.v false [.sl 126 bN])],[],[],0,[]⟩,⟨[(0,.v false [.bool])],[],[],1000,[]⟩,(.s none .n (.s none .n (.s none (.s none .n (.b (.l ⟨[(13,.v false [.int .i64])],[],[0,1,12],0,[]⟩ .n))) .n)))⟩
def aD.B:(List ak)×(List ak)×Unit→Option (Bool×Unit):=fun (p0,p1,_)=>
 (bif ((p0.length:Int) !=(p1.length:Int)) then
 some (false,())
 else
 aN (S:=Int×Unit) (fun (x13,_)=>
 (bif (decide (x13<(p0.length:Int))) then
 ck (ib x13 p0.length)<|
 let e1:ak:=(gt p0 x13 bN.z)
 ck (ib x13 p1.length)<|
 let e2:ak:=(gt p1 x13 bN.z)
 (bif (!(Ty.eq bN e1 e2)) then
 ir (false,())
 else
 let e3:Int:=(wr (x13+(1:Int)))
 il (e3,()))
 else
 ir (true,()))) ((0:Int),()))
def aD.F:=stk aD.B
theorem aD.eq:aD.F=aD.B:=aq _
theorem aD.k:Kk cB.s ae.q [] Tryz.f244 aD.d aD.B:={}
def aD.s:SpL:=aD.d.e [] aD.F::cB.s
theorem aD.c:Ck aD.s ae.q:=cS cB.c aD.k
def eQ.d:Fe:=⟨243,2,⟨[(0,.v false [.sl 126 bN]),(1,.v false [.sl 126 bN])],[],[],0,[]⟩,⟨[(0,.v false [.bool])],[],[],1000,[]⟩,.n⟩
def eQ.B:(List ak)×(List ak)×Unit→Option (Bool×Unit):=fun (p0,p1,_)=>
 (aD.F (p0,p1,())).bind fun y1=>
 some (y1.1,())
def eQ.F:=stk eQ.B
theorem eQ.eq:eQ.F=eQ.B:=aq _
theorem eQ.k:Kk aD.s ae.q [] Tryz.f243 eQ.d eQ.B:={}
def eQ.s:SpL:=eQ.d.e [] eQ.F::aD.s
theorem eQ.c:Ck eQ.s ae.q:=cS aD.c eQ.k
def au.d:Fe:=⟨245,2,⟨[(0,.v false [.sl 75 aV]),(1,.v false [.sl 75 aV])],[],[],0,[]⟩,⟨[(0,.v false [.bool])],[],[],1000,[]⟩,(.s none .n (.s none .n (.s none (.s none .n (.b (.l ⟨[(13,.v false [.int .i64])],[],[0,1,12],0,[]⟩ .n))) .n)))⟩
def au.B:(List aB)×(List aB)×Unit→Option (Bool×Unit):=fun (p0,p1,_)=>
 (bif ((p0.length:Int) !=(p1.length:Int)) then
 some (false,())
 else
 aN (S:=Int×Unit) (fun (x13,_)=>
 (bif (decide (x13<(p0.length:Int))) then
 ck (ib x13 p0.length)<|
 let e1:aB:=(gt p0 x13 aV.z)
 ck (ib x13 p1.length)<|
 let e2:aB:=(gt p1 x13 aV.z)
 (bif (!(Ty.eq aV e1 e2)) then
 ir (false,())
 else
 let e3:Int:=(wr (x13+(1:Int)))
 il (e3,()))
 else
 ir (true,()))) ((0:Int),()))
def au.F:=stk au.B
theorem au.eq:au.F=au.B:=aq _
theorem au.k:Kk eQ.s ae.q [] Tryz.f245 au.d au.B:={}
def au.s:SpL:=au.d.e [] au.F::eQ.s
theorem au.c:Ck au.s ae.q:=cS eQ.c au.k
def bp.d:Fe:=⟨246,2,⟨[(0,.v false [.sl 3 (.int .i64)]),(1,.v false [.sl 3 (.int .i64)])],[],[],0,[]⟩,⟨[(0,.v false [.bool])],[],[],1000,[]⟩,(.s none .n (.s none .n (.s none (.s none .n (.b (.l ⟨[(13,.v false [.int .i64])],[],[0,1,12],0,[]⟩ .n))) .n)))⟩
def bp.B:(List Int)×(List Int)×Unit→Option (Bool×Unit):=fun (p0,p1,_)=>
 (bif ((p0.length:Int) !=(p1.length:Int)) then
 some (false,())
 else
 aN (S:=Int×Unit) (fun (x13,_)=>
 (bif (decide (x13<(p0.length:Int))) then
 ck (ib x13 p0.length)<|
 let e1:Int:=(gt p0 x13 (0:Int))
 ck (ib x13 p1.length)<|
 let e2:Int:=(gt p1 x13 (0:Int))
 (bif (e1 !=e2) then
 ir (false,())
 else
 let e3:Int:=(wr (x13+(1:Int)))
 il (e3,()))
 else
 ir (true,()))) ((0:Int),()))
def bp.F:=stk bp.B
theorem bp.eq:bp.F=bp.B:=aq _
theorem bp.k:Kk au.s ae.q [] Tryz.f246 bp.d bp.B:={}
def bp.s:SpL:=bp.d.e [] bp.F::au.s
theorem bp.c:Ck bp.s ae.q:=cS au.c bp.k
def aE.d:Fe:=⟨247,2,⟨[(0,.v false [.sl 156 ep]),(1,.v false [.sl 156 ep])],[],[],0,[]⟩,⟨[(0,.v false [.bool])],[],[],1000,[]⟩,(.s none .n (.s none .n (.s none (.s none .n (.b (.l ⟨[(13,.v false [.int .i64])],[],[0,1,12],0,[]⟩ .n))) .n)))⟩
def aE.B:(List cU)×(List cU)×Unit→Option (Bool×Unit):=fun (p0,p1,_)=>
 (bif ((p0.length:Int) !=(p1.length:Int)) then
 some (false,())
 else
 aN (S:=Int×Unit) (fun (x13,_)=>
 (bif (decide (x13<(p0.length:Int))) then
 ck (ib x13 p0.length)<|
 let e1:cU:=(gt p0 x13 ep.z)
 ck (ib x13 p1.length)<|
 let e2:cU:=(gt p1 x13 ep.z)
 (bif (!(Ty.eq ep e1 e2)) then
 ir (false,())
 else
 let e3:Int:=(wr (x13+(1:Int)))
 il (e3,()))
 else
 ir (true,()))) ((0:Int),()))
def aE.F:=stk aE.B
theorem aE.eq:aE.F=aE.B:=aq _
theorem aE.k:Kk bp.s ae.q [] Tryz.f247 aE.d aE.B:={}
def aE.s:SpL:=aE.d.e [] aE.F::bp.s
theorem aE.c:Ck aE.s ae.q:=cS bp.c aE.k
def fL.d:Fe:=⟨208,2,⟨[(0,.v true [.int .i64,.str,.sl 75 aV,.sl 78 (.sl 126 bN),.str,.str,.str,.int .i64,.int .i64,.sl 126 bN,.sl 3 (.int .i64),.bool,.sl 156 ep]),(1,.v true [.int .i64,.str,.sl 75 aV,.sl 78 (.sl 126 bN),.str,.str,.str,.int .i64,.int .i64,.sl 126 bN,.sl 3 (.int .i64),.bool,.sl 156 ep])],[],[],0,[]⟩,⟨[(0,.v false [.bool])],[],[],1000,[]⟩,(.s none .n (.s none .n (.s none .n (.s (some ⟨[(10,.v false [.bool])],[],[2,3,7,8],0,[]⟩) .n (.s (some ⟨[(11,.v false [.bool])],[],[2,3,10],0,[]⟩) .n .n)))))⟩
def fL.l:InT:=[(242,[],Tryz.f242,(.s none .n (.s none .n (.s none (.s none .n (.b (.l ⟨[(17,.v false [.int .i64])],[],[1,2,15,16],0,[]⟩ (.s none .n (.s none .n (.s none (.b (.s none .n (.s none .n (.s (some ⟨[(30,.v false [.bool])],[],[1,2,15,16,17],0,[]⟩) .n .n)))) .n)))))) .n))))]
def fL.B:Int×ByteArray×(List aB)×(List (List ak))×ByteArray×ByteArray×ByteArray×Int×Int×(List ak)×(List Int)×Bool×(List cU)×Int×ByteArray×(List aB)×(List (List ak))×ByteArray×ByteArray×ByteArray×Int×Int×(List ak)×(List Int)×Bool×(List cU)×Unit→Option (Bool×Unit):=fun (p0_0,p0_1,p0_2,p0_3,p0_4,p0_5,p0_6,p0_7,p0_8,p0_9,p0_10,p0_11,p0_12,p1_0,p1_1,p1_2,p1_3,p1_4,p1_5,p1_6,p1_7,p1_8,p1_9,p1_10,p1_11,p1_12,_)=>
 (bif ((p0_3.length:Int) !=(p1_3.length:Int)) then
 jn (S:=Bool×Unit) (
 (bif (sq p0_1 p1_1) then
 (au.F (p0_2,p1_2,())).bind fun y1=>
 (bif y1.1 then
 il (false,())
 else
 il (false,()))
 else
 il (false,()))) fun (x10_2,_)=>
 jn (S:=Bool×Unit) (
 (bif (sq p0_4 p1_4) then
 (bif (sq p0_5 p1_5) then
 (bif (sq p0_6 p1_6) then
 (bif (Ty.eq ep (p0_7,p0_8) (p1_7,p1_8)) then
 (aD.F (p0_9,p1_9,())).bind fun y3=>
 (bif y3.1 then
 (bp.F (p0_10,p1_10,())).bind fun y4=>
 (bif y4.1 then
 (bif (p0_11==p1_11) then
 (aE.F (p0_12,p1_12,())).bind fun y5=>
 il (y5.1,())
 else
 il (false,()))
 else
 il (false,()))
 else
 il (false,()))
 else
 il (false,()))
 else
 il (false,()))
 else
 il (false,()))
 else
 il (false,()))) fun (x11_6,_)=>
 (bif (p0_0==p1_0) then
 (bif x10_2 then
 some (x11_6,())
 else
 some (false,()))
 else
 some (false,()))
 else
 aN (S:=Int×Unit) (fun (x17,_)=>
 (bif (decide (x17<(p0_3.length:Int))) then
 ck (ib x17 p0_3.length)<|
 let e7:(List ak):=(gt p0_3 x17 [])
 ck (ib x17 p1_3.length)<|
 let e8:(List ak):=(gt p1_3 x17 [])
 jn (S:=Bool×Unit) (
 (eQ.F (e7,e8,())).bind fun y9=>
 il ((!y9.1),())) fun (x30_10,_)=>
 (bif x30_10 then
 Option.map Sum.inr (jn (S:=Bool×Unit) (
 (bif (sq p0_1 p1_1) then
 (au.F (p0_2,p1_2,())).bind fun y11=>
 (bif y11.1 then
 il (false,())
 else
 il (false,()))
 else
 il (false,()))) fun (x10_12,_)=>
 jn (S:=Bool×Unit) (
 (bif (sq p0_4 p1_4) then
 (bif (sq p0_5 p1_5) then
 (bif (sq p0_6 p1_6) then
 (bif (Ty.eq ep (p0_7,p0_8) (p1_7,p1_8)) then
 (aD.F (p0_9,p1_9,())).bind fun y13=>
 (bif y13.1 then
 (bp.F (p0_10,p1_10,())).bind fun y14=>
 (bif y14.1 then
 (bif (p0_11==p1_11) then
 (aE.F (p0_12,p1_12,())).bind fun y15=>
 il (y15.1,())
 else
 il (false,()))
 else
 il (false,()))
 else
 il (false,()))
 else
 il (false,()))
 else
 il (false,()))
 else
 il (false,()))
 else
 il (false,()))) fun (x11_16,_)=>
 (bif (p0_0==p1_0) then
 (bif x10_12 then
 some (x11_16,())
 else
 some (false,()))
 else
 some (false,())))
 else
 let e17:Int:=(wr (x17+(1:Int)))
 il (e17,()))
 else
 Option.map Sum.inr (jn (S:=Bool×Unit) (
 (bif (sq p0_1 p1_1) then
 (au.F (p0_2,p1_2,())).bind fun y18=>
 (bif y18.1 then
 il (true,())
 else
 il (false,()))
 else
 il (false,()))) fun (x10_19,_)=>
 jn (S:=Bool×Unit) (
 (bif (sq p0_4 p1_4) then
 (bif (sq p0_5 p1_5) then
 (bif (sq p0_6 p1_6) then
 (bif (Ty.eq ep (p0_7,p0_8) (p1_7,p1_8)) then
 (aD.F (p0_9,p1_9,())).bind fun y20=>
 (bif y20.1 then
 (bp.F (p0_10,p1_10,())).bind fun y21=>
 (bif y21.1 then
 (bif (p0_11==p1_11) then
 (aE.F (p0_12,p1_12,())).bind fun y22=>
 il (y22.1,())
 else
 il (false,()))
 else
 il (false,()))
 else
 il (false,()))
 else
 il (false,()))
 else
 il (false,()))
 else
 il (false,()))
 else
 il (false,()))) fun (x11_23,_)=>
 (bif (p0_0==p1_0) then
 (bif x10_19 then
 some (x11_23,())
 else
 some (false,()))
 else
 some (false,()))))) ((0:Int),()))
def fL.F:=stk fL.B
theorem fL.eq:fL.F=fL.B:=aq _
theorem fL.k:Kk aE.s ae.q fL.l Tryz.f208 fL.d fL.B:={}
def fL.s:SpL:=fL.d.e [] fL.F::aE.s
theorem fL.c:Ck fL.s ae.q:=cS aE.c fL.k
def fA.d:Fe:=⟨179,1,⟨[(0,.v true [.int .i64,.str,.sl 75 aV,.sl 78 (.sl 126 bN),.str,.str,.str,.int .i64,.int .i64,.sl 126 bN,.sl 3 (.int .i64),.bool,.sl 156 ep])],[],[],0,[]⟩,⟨[(0,.v false [.str])],[],[],1000,[]⟩,(.s none .n (.s none .n (.s (some ⟨[(3,.v false [.ptr 0 0])],[(0,true,.box 243 [.ref 1]),(1,false,.arr 9 .str)],[1],2,[]⟩) .n .n)))⟩
def fA.B:Int×ByteArray×(List aB)×(List (List ak))×ByteArray×ByteArray×ByteArray×Int×Int×(List ak)×(List Int)×Bool×(List cU)×Unit→Option (ByteArray×Unit):=fun (p0_0,p0_1,p0_2,p0_3,p0_4,p0_5,p0_6,p0_7,p0_8,p0_9,p0_10,p0_11,p0_12,_)=>
 jn (S:=(List ByteArray)×Unit) (
 (bif (p0_0==(0:Int)) then
 (bR.F (p0_1,p0_2,p0_3,[],())).bind fun y1=>
 il (y1.1,())
 else
 (bW.F (p0_4,p0_5,p0_6,p0_7,p0_8,p0_9,p0_10,p0_11,p0_12,[],())).bind fun y2=>
 il (y2.1,()))) fun (o3_0_0_3,_)=>
 (strings_Join.F (o3_0_0_3,(⟨#[32]⟩:ByteArray),())).bind fun y4=>
 (bif (decide ((y4.1.size:Int)>(20000:Int))) then
 some ((⟨#[]⟩:ByteArray),())
 else
 (cB.F (y4.1,())).bind fun y5=>
 (bif (y5.2.2.2.2.2.2.2.2.1 !=(0:Int)) then
 some ((⟨#[]⟩:ByteArray),())
 else
 (fL.F (p0_0,p0_1,p0_2,p0_3,p0_4,p0_5,p0_6,p0_7,p0_8,p0_9,p0_10,p0_11,p0_12,y5.1,y5.2.1,y5.2.2.2.2.2.2.2.2.2.1,y5.2.2.2.2.2.2.2.2.2.2.1,y5.2.2.1,y5.2.2.2.1,y5.2.2.2.2.1,y5.2.2.2.2.2.1,y5.2.2.2.2.2.2.1,y5.2.2.2.2.2.2.2.2.2.2.2.1,y5.2.2.2.2.2.2.2.2.2.2.2.2.1,y5.2.2.2.2.2.2.2.1,y5.2.2.2.2.2.2.2.2.2.2.2.2.2.1,())).bind fun y6=>
 (bif (!y6.1) then
 some ((⟨#[]⟩:ByteArray),())
 else
 some (y4.1,()))))
def fA.F:=stk fA.B
theorem fA.eq:fA.F=fA.B:=aq _
theorem fA.k:Kk fL.s ae.q [] Tryz.f179 fA.d fA.B:={}
def fA.s:SpL:=fA.d.e [] fA.F::fL.s
theorem fA.c:Ck fA.s ae.q:=cS fL.c fA.k
def gO.d:Fe:=⟨138,1,⟨[(0,.v true [.int .i64,.str,.sl 75 aV,.sl 78 (.sl 126 bN),.str,.str,.str,.int .i64,.int .i64,.sl 126 bN,.sl 3 (.int .i64),.bool,.sl 156 ep])],[],[],0,[]⟩,⟨[(0,.v false [.bool])],[],[],1000,[]⟩,.n⟩
def gO.B:Int×ByteArray×(List aB)×(List (List ak))×ByteArray×ByteArray×ByteArray×Int×Int×(List ak)×(List Int)×Bool×(List cU)×Unit→Option (Bool×Unit):=fun (p0_0,p0_1,p0_2,p0_3,p0_4,p0_5,p0_6,p0_7,p0_8,p0_9,p0_10,p0_11,p0_12,_)=>
 (fA.F (p0_0,p0_1,p0_2,p0_3,p0_4,p0_5,p0_6,p0_7,p0_8,p0_9,p0_10,p0_11,p0_12,())).bind fun y1=>
 some ((!sq y1.1 (⟨#[]⟩:ByteArray)),())
def gO.F:=stk gO.B
theorem gO.eq:gO.F=gO.B:=aq _
theorem gO.k:Kk fA.s ae.q [] Tryz.f138 gO.d gO.B:={}
def gO.s:SpL:=gO.d.e [] gO.F::fA.s
theorem gO.c:Ck gO.s ae.q:=cS fA.c gO.k
def dU.d:Fe:=⟨86,1,⟨[(0,.v true [.int .i64,.str,.sl 75 aV,.sl 78 (.sl 126 bN),.str,.str,.str,.int .i64,.int .i64,.sl 126 bN,.sl 3 (.int .i64),.bool,.sl 156 ep])],[],[],0,[]⟩,⟨[(0,.v false [.str])],[],[],1000,[]⟩,.n⟩
def dU.B:Int×ByteArray×(List aB)×(List (List ak))×ByteArray×ByteArray×ByteArray×Int×Int×(List ak)×(List Int)×Bool×(List cU)×Unit→Option (ByteArray×Unit):=fun (p0_0,p0_1,p0_2,p0_3,p0_4,p0_5,p0_6,p0_7,p0_8,p0_9,p0_10,p0_11,p0_12,_)=>
 (bif (p0_0==(0:Int)) then
 some (p0_1,())
 else
 some (p0_4,()))
def dU.F:=stk dU.B
theorem dU.eq:dU.F=dU.B:=aq _
theorem dU.k:Kk gO.s ae.q [] Tryz.f86 dU.d dU.B:={}
def dU.s:SpL:=dU.d.e [] dU.F::gO.s
theorem dU.c:Ck dU.s ae.q:=cS gO.c dU.k
def cK.d:Fe:=⟨45,2,⟨[(0,.v false [.sl 84 gF]),(1,.v false [.str])],[],[],0,[]⟩,⟨[(0,.v false [.int .i64])],[],[],1000,[]⟩,.n⟩
def cK.l:InT:=[(84,[(1,85)],Tryz.f84,(.s none .n (.s none (.s none .n (.b (.l ⟨[(8,.v false [.int .i64])],[],[0,1,7],0,[]⟩ (.s none .n (.s none .n (.s none (.b (.s none .n (.s (some ⟨[(16,.v false [.bool])],[],[0,1,5,7,8],0,[]⟩) .n .n))) .n)))))) .n))),(85,[],Tryz.f85,.n)]
def cK.B:(List bL)×ByteArray×Unit→Option (Int×Unit):=fun (p0,p1,_)=>
 aN (S:=Int×Unit) (fun (x8,_)=>
 (bif (decide (x8<(p0.length:Int))) then
 jn (S:=Bool×Unit) (
 ck (ib x8 p0.length)<|
 let e1:bL:=(gt p0 x8 gF.z)
 (dU.F (e1.1,e1.2.1.1,e1.2.1.2.1,e1.2.1.2.2,e1.2.2.1,e1.2.2.2.1,e1.2.2.2.2.1,e1.2.2.2.2.2.1.1,e1.2.2.2.2.2.1.2,e1.2.2.2.2.2.2.1,e1.2.2.2.2.2.2.2.1,e1.2.2.2.2.2.2.2.2.1,e1.2.2.2.2.2.2.2.2.2,())).bind fun y2=>
 il ((sq y2.1 p1),())) fun (x16_3,_)=>
 (bif x16_3 then
 ir (x8,())
 else
 let e4:Int:=(wr (x8+(1:Int)))
 il (e4,()))
 else
 ir ((-1:Int),()))) ((0:Int),())
def cK.F:=stk cK.B
theorem cK.eq:cK.F=cK.B:=aq _
theorem cK.k:Kk dU.s ae.q cK.l Tryz.f45 cK.d cK.B:={}
def cK.s:SpL:=cK.d.e [] cK.F::dU.s
theorem cK.c:Ck cK.s ae.q:=cS dU.c cK.k
def d7.d:Fe:=⟨275,2,⟨[(0,.v false [.int .u32]),(1,.v false [.int .u32])],[],[],0,[]⟩,⟨[(0,.tup [(false,[.int .u32]),(false,[.int .u32])])],[],[],1000,[]⟩,.n⟩
def d7.B:Int×Int×Unit→Option (Int×Int×Unit):=fun (p0,p1,_)=>
 let e1:Int:=(IntKind.u64.wrap ((IntKind.u64.wrap (p0))*(IntKind.u64.wrap (p1))))
 ck (!decide ((32:Int)<0))<|
 some ((IntKind.u32.wrap ((Int.fdiv e1 (2^min (Int.toNat (32:Int)) IntKind.u64.bits)))),(IntKind.u32.wrap (e1)),())
def d7.F:=stk d7.B
theorem d7.k:Kk cK.s ae.q [] Tryz.f275 d7.d d7.B:={}
def d7.s:SpL:=d7.d.e [] d7.F::cK.s
theorem d7.c:Ck d7.s ae.q:=cS cK.c d7.k
def bX.d:Fe:=⟨255,2,⟨[(0,.v false [.int .u64]),(1,.v false [.int .u64])],[],[],0,[]⟩,⟨[(0,.tup [(false,[.int .u64]),(false,[.int .u64])])],[],[],1000,[]⟩,.n⟩
def bX.B:Int×Int×Unit→Option (Int×Int×Unit):=fun (p0,p1,_)=>
 let e1:Int:=(IntKind.u64.wrap (((BitVec.ofInt IntKind.u64.bits p0&&&BitVec.ofInt IntKind.u64.bits (4294967295:Int)).toNat:Nat)))
 ck (!decide ((32:Int)<0))<|
 let e2:Int:=(IntKind.u64.wrap (((BitVec.ofInt IntKind.u64.bits p1&&&BitVec.ofInt IntKind.u64.bits (4294967295:Int)).toNat:Nat)))
 ck (!decide ((32:Int)<0))<|
 let e3:Int:=(IntKind.u64.wrap (e1*e2))
 let e4:Int:=(IntKind.u64.wrap ((Int.fdiv p0 (2^min (Int.toNat (32:Int)) IntKind.u64.bits))*e2))
 ck (!decide ((32:Int)<0))<|
 let e5:Int:=(IntKind.u64.wrap (e4+(Int.fdiv e3 (2^min (Int.toNat (32:Int)) IntKind.u64.bits))))
 let e6:Int:=(IntKind.u64.wrap (((BitVec.ofInt IntKind.u64.bits e5&&&BitVec.ofInt IntKind.u64.bits (4294967295:Int)).toNat:Nat)))
 ck (!decide ((32:Int)<0))<|
 let e7:Int:=(IntKind.u64.wrap (e1*(Int.fdiv p1 (2^min (Int.toNat (32:Int)) IntKind.u64.bits))))
 let e8:Int:=(IntKind.u64.wrap (e6+e7))
 let e9:Int:=(IntKind.u64.wrap ((Int.fdiv p0 (2^min (Int.toNat (32:Int)) IntKind.u64.bits))*(Int.fdiv p1 (2^min (Int.toNat (32:Int)) IntKind.u64.bits))))
 let e10:Int:=(IntKind.u64.wrap (e9+(Int.fdiv e5 (2^min (Int.toNat (32:Int)) IntKind.u64.bits))))
 ck (!decide ((32:Int)<0))<|
 let e11:Int:=(IntKind.u64.wrap (e10+(Int.fdiv e8 (2^min (Int.toNat (32:Int)) IntKind.u64.bits))))
 let e12:Int:=(IntKind.u64.wrap (p0*p1))
 some (e11,e12,())
def bX.F:=stk bX.B
theorem bX.eq:bX.F=bX.B:=aq _
theorem bX.k:Kk d7.s ae.q [] Tryz.f255 bX.d bX.B:={}
def bX.s:SpL:=bX.d.e [] bX.F::d7.s
theorem bX.c:Ck bX.s ae.q:=cS d7.c bX.k
def dx.d:Fe:=⟨248,2,⟨[(0,.v false [.int .u64]),(1,.v false [.int .u64])],[],[],0,[]⟩,⟨[(0,.tup [(false,[.int .u64]),(false,[.int .u64])])],[],[],1000,[]⟩,.n⟩
def dx.B:Int×Int×Unit→Option (Int×Int×Unit):=fun (p0,p1,_)=>
 (bX.F (p0,p1,())).bind fun y1=>
 some (y1.1,y1.2.1,())
def dx.F:=stk dx.B
theorem dx.eq:dx.F=dx.B:=aq _
theorem dx.k:Kk bX.s ae.q [] Tryz.f248 dx.d dx.B:={}
def dx.s:SpL:=dx.d.e [] dx.F::bX.s
theorem dx.c:Ck dx.s ae.q:=cS bX.c dx.k
def aM.d:Fe:=⟨209,2,⟨[(0,.v false [.sl 4 .bool]),(1,.v false [.int .i64])],[],[],0,[]⟩,⟨[(0,.v false [.ref 1000])],[(1000,false,.arr 4 .bool)],[],1001,[]⟩,(.s none .n (.s (some ⟨[],[],[0,1],0,[]⟩) .n (.s none .n (.s (some ⟨[],[],[0,6],0,[]⟩) .n (.s none .n (.s none .n (.s none (.b (.l ⟨[(7,.v false [.ref 0]),(8,.v false [.int .i64])],[(0,true,.arr 4 .bool)],[],1,[]⟩ .n)) .n)))))))⟩
def aM.B:(List Bool)×Int×Unit→Option ((List Bool)×Unit):=fun (p0,p1,_)=>
 jn (S:=Unit) (
 (bif (decide (p1<(0:Int))) then
 none
 else
 il (()))) fun (_)=>
 (dx.F ((IntKind.u64.wrap ((p0.length:Int))),(IntKind.u64.wrap (p1)),())).bind fun y2=>
 jn (S:=Unit) (
 (bif (decide (y2.1>(0:Int))) then
 none
 else
 (bif (decide (y2.2.1>(9223372036854775807:Int))) then
 none
 else
 il (())))) fun (_)=>
 ck (decide (0≤(wr (y2.2.1)))&&(decide ((wr (y2.2.1))=(wr (y2.2.1)))&&Nat.ble (Int.toNat (wr (y2.2.1))) 140737488355328))<|
 aN (S:=Int×(List Bool)×Unit) (fun (x8,o7_0,_)=>
 (bif (decide (x8<(o7_0.length:Int))) then
 ck (sb x8 (o7_0.length:Int) o7_0.length)<|
 ck (sb (0:Int) x8 o7_0.length)<|
 let e4:Int:=(wr (x8+((Nat.min (List.length (List.take (Int.toNat x8-Int.toNat (0:Int):Nat) (List.drop (Int.toNat (0:Int)) o7_0))) (Int.toNat (o7_0.length:Int)-Int.toNat x8:Nat)):Int)))
 il (e4,(List.take (Int.toNat x8) o7_0++List.take (Nat.min (List.length (List.take (Int.toNat x8-Int.toNat (0:Int):Nat) (List.drop (Int.toNat (0:Int)) o7_0))) (Int.toNat (o7_0.length:Int)-Int.toNat x8:Nat)) (List.take (Int.toNat x8-Int.toNat (0:Int):Nat) (List.drop (Int.toNat (0:Int)) o7_0))++List.drop ((Int.toNat x8)+(Nat.min (List.length (List.take (Int.toNat x8-Int.toNat (0:Int):Nat) (List.drop (Int.toNat (0:Int)) o7_0))) (Int.toNat (o7_0.length:Int)-Int.toNat x8:Nat))) o7_0),())
 else
 ir (o7_0,()))) (((Nat.min (List.length p0) (List.replicate (Int.toNat (wr (y2.2.1))) false).length):Int),(List.take 0 (List.replicate (Int.toNat (wr (y2.2.1))) false)++List.take (Nat.min (List.length p0) (List.replicate (Int.toNat (wr (y2.2.1))) false).length) p0++List.drop (0+(Nat.min (List.length p0) (List.replicate (Int.toNat (wr (y2.2.1))) false).length)) (List.replicate (Int.toNat (wr (y2.2.1))) false)),())
def aM.F:=stk aM.B
theorem aM.eq:aM.F=aM.B:=aq _
theorem aM.k:Kk dx.s ae.q [] Tryz.f209 aM.d aM.B:={}
def aM.s:SpL:=aM.d.e [] aM.F::dx.s
theorem aM.c:Ck aM.s ae.q:=cS dx.c aM.k
def aI.d:Fe:=⟨186,2,⟨[(0,.v false [.sl 84 gF]),(1,.v true [.str,.str,.str,.int .i64,.int .i64,.sl 126 bN,.sl 3 (.int .i64),.bool,.sl 156 ep])],[],[],0,[]⟩,⟨[(0,.v false [.ref 1000])],[(1000,false,.arr 3 (.int .i64))],[],1001,[]⟩,.n⟩
def aA.d:Fe:=⟨180,2,⟨[(0,.v false [.sl 84 gF]),(1,.v true [.int .i64,.str,.sl 75 aV,.sl 78 (.sl 126 bN),.str,.str,.str,.int .i64,.int .i64,.sl 126 bN,.sl 3 (.int .i64),.bool,.sl 156 ep])],[],[],0,[]⟩,⟨[(0,.tup [(false,[.ref 1000]),(false,[.ref 1001])])],[(1000,false,.arr 3 (.int .i64)),(1001,false,.arr 4 .bool)],[],1002,[]⟩,(.s none .n (.s none .n (.s none .n (.s (some ⟨[(6,.v false [.ref 0])],[(0,false,.arr 3 (.int .i64))],[0,3],1,[]⟩) (.s none .n (.c (.s none (.s none .n (.b (.l ⟨[(6,.v false [.ref 0]),(7,.v false [.ref 1]),(23,.v false [.int .i64])],[(0,false,.arr 3 (.int .i64)),(1,false,.arr 4 .bool)],[21,22],2,[]⟩ .n))) .n) .n)) (.s none .n (.s (some ⟨[(6,.v false [.ref 0])],[(0,false,.arr 3 (.int .i64))],[3,10],1,[]⟩) (.s none .n (.b (.l ⟨[(6,.v false [.ref 0]),(48,.v false [.int .i64])],[(0,false,.arr 3 (.int .i64))],[3,10,46,47],1,[]⟩ .n))) (.s (some ⟨[(6,.v false [.ref 0])],[(0,false,.arr 3 (.int .i64))],[],1,[]⟩) (.s none .n (.b (.l ⟨[(6,.v false [.ref 0]),(64,.v false [.int .i64])],[(0,false,.arr 3 (.int .i64))],[10,62,63],1,[]⟩ .n))) .n)))))))⟩
def aA.b (f:TS aI.d.si→Option (TS aI.d.so)):(List bL)×Int×ByteArray×(List aB)×(List (List ak))×ByteArray×ByteArray×ByteArray×Int×Int×(List ak)×(List Int)×Bool×(List cU)×Unit→Option ((List Int)×(List Bool)×Unit):=fun (p0,p1_0,p1_1,p1_2,p1_3,p1_4,p1_5,p1_6,p1_7,p1_8,p1_9,p1_10,p1_11,p1_12,_)=>
 jn (S:=(List Int)×Unit) (
 (bif (p1_0==(0:Int)) then
 aN (S:=Int×(List Int)×(List Bool)×Unit) (fun (x23,o6_0,o7_0,_)=>
 (bif (decide (x23<(p1_2.length:Int))) then
 ck (ib x23 p1_2.length)<|
 let e1:aB:=(gt p1_2 x23 aV.z)
 ck (Nat.ble (o6_0.length+ [e1.2.1].length) 17592186044416)<|
 ck (Nat.ble (o7_0.length+ [e1.2.2.1].length) 140737488355328)<|
 let e2:Int:=(wr (x23+(1:Int)))
 il (e2,(o6_0++ [e1.2.1]),(o7_0++ [e1.2.2.1]),())
 else
 ir (.inr (o6_0,o7_0,())))) ((0:Int),[],[],())
 else
 il ([],()))) fun (o6_0_3,_)=>
 (f (p0,p1_4,p1_5,p1_6,p1_7,p1_8,p1_9,p1_10,p1_11,p1_12,())).bind fun y4=>
 jn (S:=(List Int)×Unit) (
 aN (S:=Int×(List Int)×Unit) (fun (x48,o6_0,_)=>
 (bif (decide (x48<(p1_10.length:Int))) then
 ck (ib x48 p1_10.length)<|
 let e5:Int:=(gt p1_10 x48 (0:Int))
 ck (ib e5 y4.1.length)<|
 let e6:Int:=(List.getD y4.1 (Int.toNat e5) (0:Int))
 ck (Nat.ble (o6_0.length+ [e6].length) 17592186044416)<|
 let e7:Int:=(wr (x48+(1:Int)))
 il (e7,(o6_0++ [e6]),())
 else
 ir (.inl (o6_0,())))) ((0:Int),o6_0_3,())) fun (o6_0_8,_)=>
 jn (S:=(List Int)×Unit) (
 aN (S:=Int×(List Int)×Unit) (fun (x64,o6_0,_)=>
 (bif (decide (x64<(p1_12.length:Int))) then
 ck (ib x64 p1_12.length)<|
 let e9:cU:=(gt p1_12 x64 ep.z)
 (bif (e9.1==(2:Int)) then
 ck (ib e9.2 y4.1.length)<|
 let e10:Int:=(List.getD y4.1 (Int.toNat e9.2) (0:Int))
 ck (Nat.ble (o6_0.length+ [e10].length) 17592186044416)<|
 let e11:Int:=(wr (x64+(1:Int)))
 il (e11,(o6_0++ [e10]),())
 else
 (bif (e9.1==(3:Int)) then
 ck (ib e9.2 y4.1.length)<|
 let e12:Int:=(List.getD y4.1 (Int.toNat e9.2) (0:Int))
 ck (Nat.ble (o6_0.length+ [e12].length) 17592186044416)<|
 let e13:Int:=(wr (x64+(1:Int)))
 il (e13,(o6_0++ [e12]),())
 else
 ck (Nat.ble (o6_0.length+ [(2:Int)].length) 17592186044416)<|
 let e14:Int:=(wr (x64+(1:Int)))
 il (e14,(o6_0++ [(2:Int)]),())))
 else
 ir (.inl (o6_0,())))) ((0:Int),o6_0_8,())) fun (o6_0_15,_)=>
 (aM.F ([true],(o6_0_15.length:Int),())).bind fun y16=>
 some (o6_0_15,y16.1,())
theorem aA.k (f:TS aI.d.si→Option (TS aI.d.so)):Fk PP (cx (aI.d.e [] f::aM.s) ae.q) [] Tryz.f180 aA.d (aA.b f):={}
theorem aA.en:Lv.lf PP 180:=⟨_,Tryz.func180,by kernel_rfl,by decide⟩
def aI.b (f:TS aA.d.si→Option (TS aA.d.so)):(List bL)×ByteArray×ByteArray×ByteArray×Int×Int×(List ak)×(List Int)×Bool×(List cU)×Unit→Option ((List Int)×Unit):=fun (p0,p1_0,p1_1,p1_2,p1_3,p1_4,p1_5,p1_6,p1_7,p1_8,_)=>
 (cK.F (p0,p1_1,())).bind fun y1=>
 ck (ib y1.1 p0.length)<|
 let e2:bL:=(gt p0 y1.1 gF.z)
 (f (p0,e2.1,e2.2.1.1,e2.2.1.2.1,e2.2.1.2.2,e2.2.2.1,e2.2.2.2.1,e2.2.2.2.2.1,e2.2.2.2.2.2.1.1,e2.2.2.2.2.2.1.2,e2.2.2.2.2.2.2.1,e2.2.2.2.2.2.2.2.1,e2.2.2.2.2.2.2.2.2.1,e2.2.2.2.2.2.2.2.2.2,())).bind fun y3=>
 (bif (!sq p1_2 (⟨#[]⟩:ByteArray)) then
 (cK.F (p0,p1_2,())).bind fun y4=>
 ck (ib y4.1 p0.length)<|
 let e5:bL:=(gt p0 y4.1 gF.z)
 (f (p0,e5.1,e5.2.1.1,e5.2.1.2.1,e5.2.1.2.2,e5.2.2.1,e5.2.2.2.1,e5.2.2.2.2.1,e5.2.2.2.2.2.1.1,e5.2.2.2.2.2.1.2,e5.2.2.2.2.2.2.1,e5.2.2.2.2.2.2.2.1,e5.2.2.2.2.2.2.2.2.1,e5.2.2.2.2.2.2.2.2.2,())).bind fun y6=>
 ck (Nat.ble (y3.1.length+y6.1.length) 17592186044416)<|
 some ((y3.1++y6.1),())
 else
 some (y3.1,()))
theorem aI.k (f:TS aA.d.si→Option (TS aA.d.so)):Fk PP (cx (aA.d.e [] f::aM.s) ae.q) [] Tryz.f186 aI.d (aI.b f):={}
theorem aI.en:Lv.lf PP 186:=⟨_,Tryz.func186,by kernel_rfl,by decide⟩
theorem aA.step (f:TS aI.d.si→Option (TS aI.d.so)) (hf:aI.d.ok PP f):aA.d.ok PP (aA.b f):=(aA.k f).okF (gT.consS aM.c [] aI.en hf) mixed
theorem aI.step (f:TS aA.d.si→Option (TS aA.d.so)) (hf:aA.d.ok PP f):aI.d.ok PP (aI.b f):=(aI.k f).okF (gT.consS aM.c [] aA.en hf) mixed
def aA.r:Nat→TS aA.d.si→Option (TS aA.d.so)
 |0=>fun _=>none
 |n+1=>aA.b (aI.b (aA.r n))
theorem aA.r_ok:∀n,aA.d.ok PP (aA.r n)
 |0=>fun _ _ h=>by cases h
 |n+1=>aA.step _ (aI.step _ (aA.r_ok n))
def aA.F:TS aA.d.si→Option (TS aA.d.so):=stk (aA.r 64)
theorem aA.eq:aA.F=aA.r 64:=aq _
theorem aA.ok:aA.d.ok PP aA.F:=by
 rw [aA.eq]
 exact aA.r_ok 64
def aA.s:SpL:=aA.d.e [] aA.F::aM.s
theorem aA.c:Ck aA.s ae.q:=gT.consS aM.c [] aA.en aA.ok
def aI.F:TS aI.d.si→Option (TS aI.d.so):=stk (aI.b (aA.r 64))
theorem aI.eq:aI.F=aI.b (aA.r 64):=aq _
theorem aI.ok:aI.d.ok PP aI.F:=by
 rw [aI.eq]
 exact aI.step _ (aA.r_ok 64)
def aI.s:SpL:=aI.d.e [] aI.F::aA.s
theorem aI.c:Ck aI.s ae.q:=gT.consS aA.c [] aI.en aI.ok
def dN.d:Fe:=⟨192,1,⟨[(0,.v false [.int .i64])],[],[],0,[]⟩,⟨[(0,.v false [.int .i64])],[],[],1000,[]⟩,(.s none .n (.s none (.s none .n (.b (.s (some ⟨[(4,.v false [.bool])],[],[3],0,[]⟩) .n (.c .n (.s (some ⟨[(7,.v false [.bool])],[],[3],0,[]⟩) .n .n))))) .n))⟩
def dN.B:Int×Unit→Option (Int×Unit):=fun (p0,_)=>
 jn (S:=Bool×Unit) (
 (bif (p0==(0:Int)) then
 il ((p0==(0:Int)),())
 else
 il ((p0==(1:Int)),()))) fun (x4_1,_)=>
 (bif x4_1 then
 some ((0:Int),())
 else
 jn (S:=Bool×Unit) (
 (bif (p0==(9:Int)) then
 il ((p0==(9:Int)),())
 else
 il ((p0==(10:Int)),()))) fun (x7_2,_)=>
 (bif x7_2 then
 some ((1:Int),())
 else
 (bif (p0==(2:Int)) then
 (bif (p0==(2:Int)) then
 some ((2:Int),())
 else
 some ((-1:Int),()))
 else
 (bif (p0==(3:Int)) then
 (bif (p0==(3:Int)) then
 some ((2:Int),())
 else
 some ((-1:Int),()))
 else
 (bif (p0==(4:Int)) then
 (bif (p0==(4:Int)) then
 some ((2:Int),())
 else
 some ((-1:Int),()))
 else
 (bif (p0==(5:Int)) then
 (bif (p0==(5:Int)) then
 some ((2:Int),())
 else
 some ((-1:Int),()))
 else
 (bif (p0==(6:Int)) then
 (bif (p0==(6:Int)) then
 some ((2:Int),())
 else
 some ((-1:Int),()))
 else
 (bif (p0==(7:Int)) then
 (bif (p0==(7:Int)) then
 some ((2:Int),())
 else
 some ((-1:Int),()))
 else
 (bif (p0==(8:Int)) then
 some ((2:Int),())
 else
 some ((-1:Int),()))))))))))
def dN.F:=stk dN.B
theorem dN.eq:dN.F=dN.B:=aq _
theorem dN.k:Kk aI.s ae.q [] Tryz.f192 dN.d dN.B:={}
def dN.s:SpL:=dN.d.e [] dN.F::aI.s
theorem dN.c:Ck dN.s ae.q:=cS aI.c dN.k
def bx.d:Fe:=⟨276,1,⟨[(0,.v false [.ptr 0 0])],[(0,true,.box 284 [.ref 1,.bool,.sl 3 (.int .i64)]),(1,true,.arr 3 (.int .i64))],[],2,[]⟩,⟨[(0,.v false [.int .i64])],[(0,true,.box 284 [.ref 1001,.bool,.sl 3 (.int .i64)]),(1001,false,.arr 3 (.int .i64))],[],1002,[(0,0)]⟩,.n⟩
def bx.B:Bool×(List Int)×(List Int)×Unit→Option (Int×Bool×(List Int)×(List Int)×Unit):=fun (o0_1,o0_2,o0_0,_)=>
 (bif ((o0_0.length:Int)==(0:Int)) then
 some ((0:Int),false,o0_2,o0_0,())
 else
 let e1:Int:=(wr ((o0_0.length:Int)-(1:Int)))
 ck (ib e1 o0_0.length)<|
 let e2:Int:=(List.getD o0_0 (Int.toNat e1) (0:Int))
 let e3:Int:=(wr ((o0_0.length:Int)-(1:Int)))
 ck (sb (0:Int) e3 o0_0.length)<|
 some (e2,o0_1,o0_2,(List.take (Int.toNat e3) o0_0),()))
def bx.F:=stk bx.B
theorem bx.eq:bx.F=bx.B:=aq _
theorem bx.k:Kk dN.s ae.q [] Tryz.f276 bx.d bx.B:={}
def bx.s:SpL:=bx.d.e [] bx.F::dN.s
theorem bx.c:Ck bx.s ae.q:=cS dN.c bx.k
def br.d:Fe:=⟨277,2,⟨[(0,.v false [.ptr 0 0]),(1,.v false [.int .i64])],[(0,true,.box 284 [.ref 1,.bool,.sl 3 (.int .i64)]),(1,true,.arr 3 (.int .i64))],[],2,[]⟩,⟨[(0,.tup [])],[(0,true,.box 284 [.ref 1001,.bool,.sl 3 (.int .i64)]),(1001,false,.arr 3 (.int .i64))],[],1002,[(0,0)]⟩,.n⟩
def br.B:Int×Bool×(List Int)×(List Int)×Unit→Option (Bool×(List Int)×(List Int)×Unit):=fun (p1,o0_1,o0_2,o0_0,_)=>
 ck (Nat.ble (o0_0.length+ [p1].length) 17592186044416)<|
 some (o0_1,o0_2,(o0_0++ [p1]),())
def br.F:=stk br.B
theorem br.eq:br.F=br.B:=aq _
theorem br.k:Kk bx.s ae.q [] Tryz.f277 br.d br.B:={}
def br.s:SpL:=br.d.e [] br.F::bx.s
theorem br.c:Ck br.s ae.q:=cS bx.c br.k
def eF.d:Fe:=⟨213,2,⟨[(0,.v false [.int .i64]),(1,.v false [.sl 3 (.int .i64)])],[],[],0,[]⟩,⟨[(0,.v false [.bool])],[],[],1000,[]⟩,(.s none .n (.s none (.s none .n (.b (.l ⟨[(9,.v false [.int .i64])],[],[0,7,8],0,[]⟩ .n))) .n))⟩
def eF.B:Int×(List Int)×Unit→Option (Bool×Unit):=fun (p0,p1,_)=>
 aN (S:=Int×Unit) (fun (x9,_)=>
 (bif (decide (x9<(p1.length:Int))) then
 ck (ib x9 p1.length)<|
 let e1:Int:=(gt p1 x9 (0:Int))
 (bif (e1 !=p0) then
 (bif (e1 !=(0:Int)) then
 ir (false,())
 else
 let e2:Int:=(wr (x9+(1:Int)))
 il (e2,()))
 else
 let e3:Int:=(wr (x9+(1:Int)))
 il (e3,()))
 else
 ir (true,()))) ((0:Int),())
def eF.F:=stk eF.B
theorem eF.eq:eF.F=eF.B:=aq _
theorem eF.k:Kk br.s ae.q [] Tryz.f213 eF.d eF.B:={}
def eF.s:SpL:=eF.d.e [] eF.F::br.s
theorem eF.c:Ck eF.s ae.q:=cS br.c eF.k
def cE.d:Fe:=⟨195,2,⟨[(0,.v false [.int .i64]),(1,.v false [.sl 3 (.int .i64)])],[],[],0,[]⟩,⟨[(0,.tup [(false,[.int .i64]),(false,[.bool])])],[],[],1000,[]⟩,(.s none .n (.s none (.s none .n (.b (.s (some ⟨[(7,.v false [.bool])],[],[1,6],0,[]⟩) .n (.c .n (.s (some ⟨[(13,.v false [.bool])],[],[1,6],0,[]⟩) .n .n))))) .n))⟩
def cE.B:Int×(List Int)×Unit→Option (Int×Bool×Unit):=fun (p0,p1,_)=>
 jn (S:=Bool×Unit) (
 (bif (p0==(2:Int)) then
 il ((p0==(2:Int)),())
 else
 (bif (p0==(3:Int)) then
 il ((p0==(3:Int)),())
 else
 il ((p0==(4:Int)),())))) fun (x7_1,_)=>
 (bif x7_1 then
 (eF.F ((2:Int),p1,())).bind fun y2=>
 some ((2:Int),y2.1,())
 else
 jn (S:=Bool×Unit) (
 (bif (p0==(5:Int)) then
 il ((p0==(5:Int)),())
 else
 il ((p0==(6:Int)),()))) fun (x13_3,_)=>
 (bif x13_3 then
 ck (ib (0:Int) p1.length)<|
 let e4:Int:=(List.getD p1 0 (0:Int))
 ck (ib (1:Int) p1.length)<|
 let e5:Int:=(List.getD p1 1 (0:Int))
 (bif (e4==e5) then
 some ((1:Int),true,())
 else
 ck (ib (0:Int) p1.length)<|
 let e6:Int:=(List.getD p1 0 (0:Int))
 (bif (e6==(0:Int)) then
 some ((1:Int),true,())
 else
 ck (ib (1:Int) p1.length)<|
 let e7:Int:=(List.getD p1 1 (0:Int))
 some ((1:Int),(e7==(0:Int)),())))
 else
 (bif (p0==(7:Int)) then
 (bif (p0==(7:Int)) then
 (eF.F ((1:Int),p1,())).bind fun y8=>
 some ((1:Int),y8.1,())
 else
 some ((1:Int),true,()))
 else
 (bif (p0==(8:Int)) then
 (bif (p0==(8:Int)) then
 (eF.F ((1:Int),p1,())).bind fun y9=>
 some ((1:Int),y9.1,())
 else
 some ((1:Int),true,()))
 else
 (bif (p0==(9:Int)) then
 (eF.F ((1:Int),p1,())).bind fun y10=>
 some ((1:Int),y10.1,())
 else
 some ((1:Int),true,()))))))
def cE.F:=stk cE.B
theorem cE.eq:cE.F=cE.B:=aq _
theorem cE.k:Kk eF.s ae.q [] Tryz.f195 cE.d cE.B:={}
def cE.s:SpL:=cE.d.e [] cE.F::eF.s
theorem cE.c:Ck cE.s ae.q:=cS eF.c cE.k
def cg.d:Fe:=⟨249,2,⟨[(0,.v false [.ptr 0 0]),(1,.v true [.int .i64,.int .i64,.int .i64,.int .i64,.str])],[(0,true,.box 284 [.ref 1,.bool,.sl 3 (.int .i64)]),(1,true,.arr 3 (.int .i64))],[],2,[]⟩,⟨[(0,.v false [.bool])],[(0,true,.box 284 [.ref 1001,.bool,.sl 3 (.int .i64)]),(1001,false,.arr 3 (.int .i64))],[],1002,[(0,0)]⟩,(.s none .n (.s none .n (.s (some ⟨[(0,.v false [.ptr 1 0]),(5,.v false [.ref 0])],[(0,false,.arr 3 (.int .i64)),(1,true,.box 284 [.ref 2,.bool,.sl 3 (.int .i64)]),(2,false,.arr 3 (.int .i64))],[3],3,[]⟩) (.s none .n (.b (.l ⟨[(0,.v false [.ptr 1 0]),(5,.v false [.ref 0]),(11,.v false [.int .i64])],[(0,false,.arr 3 (.int .i64)),(1,true,.box 284 [.ref 2,.bool,.sl 3 (.int .i64)]),(2,false,.arr 3 (.int .i64))],[3,10],3,[]⟩ .n))) (.s none (.b (.s (some ⟨[(21,.v false [.bool])],[],[0,3,5],0,[]⟩) .n (.c .n (.s none .n (.c (.s none (.s (some ⟨[(72,.v false [.bool])],[],[0,3],0,[]⟩) .n .n) .n) .n))))) .n))))⟩
def cg.B:Int×Int×Int×Int×ByteArray×Bool×(List Int)×(List Int)×Unit→Option (Bool×Bool×(List Int)×(List Int)×Unit):=fun (p1_0,p1_1,p1_2,p1_3,p1_4,o0_1,o0_2,o0_0,_)=>
 jn (S:=(List Int)×Bool×(List Int)×(List Int)×Unit) (
 (dN.F (p1_0,())).bind fun y1=>
 aN (S:=Int×(List Int)×Bool×(List Int)×(List Int)×Unit) (fun (x11,o5_0,o0_0_1,o0_0_2,o0_0_0,_)=>
 (bif (decide (x11<y1.1)) then
 (bx.F (o0_0_1,o0_0_2,o0_0_0,())).bind fun y2=>
 ck (Nat.ble (o5_0.length+ [y2.1].length) 17592186044416)<|
 let e3:Int:=(wr (x11+(1:Int)))
 il (e3,(o5_0++ [y2.1]),y2.2.1,y2.2.2.1,y2.2.2.2.1,())
 else
 ir (.inl (o5_0,o0_0_1,o0_0_2,o0_0_0,())))) ((0:Int),[],o0_1,o0_2,o0_0,())) fun (o5_0_4,o0_0_1_4,o0_0_2_4,o0_0_0_4,_)=>
 jn (S:=Bool×Unit) (
 (bif (!o0_0_1_4) then
 il (true,())
 else
 (dN.F (p1_0,())).bind fun y5=>
 il ((decide (y5.1<(0:Int))),()))) fun (x21_6,_)=>
 (bif x21_6 then
 some (false,o0_0_1_4,o0_0_2_4,o0_0_0_4,())
 else
 (bif (p1_0==(0:Int)) then
 jn (S:=Bool×Unit) (
 (bif (decide (p1_1<(0:Int))) then
 il (true,())
 else
 (bif (decide (p1_1≥(o0_0_2_4.length:Int))) then
 il (true,())
 else
 ck (ib p1_1 o0_0_2_4.length)<|
 let e7:Int:=(gt o0_0_2_4 p1_1 (0:Int))
 (bif (decide (e7<(1:Int))) then
 il (true,())
 else
 ck (ib p1_1 o0_0_2_4.length)<|
 let e8:Int:=(gt o0_0_2_4 p1_1 (0:Int))
 il ((decide (e8>(3:Int))),()))))) fun (x72_9,_)=>
 (bif x72_9 then
 some (false,o0_0_1_4,o0_0_2_4,o0_0_0_4,())
 else
 ck (ib p1_1 o0_0_2_4.length)<|
 let e10:Int:=(gt o0_0_2_4 p1_1 (0:Int))
 (br.F (e10,o0_0_1_4,o0_0_2_4,o0_0_0_4,())).bind fun y11=>
 some (true,y11.1,y11.2.1,y11.2.2.1,()))
 else
 (bif (p1_0==(1:Int)) then
 (br.F (p1_2,o0_0_1_4,o0_0_2_4,o0_0_0_4,())).bind fun y12=>
 (dz.F (p1_2,p1_3,p1_4,())).bind fun y13=>
 some (y13.1,y12.1,y12.2.1,y12.2.2.1,())
 else
 (cE.F (p1_0,o5_0_4,())).bind fun y14=>
 (br.F (y14.1,o0_0_1_4,o0_0_2_4,o0_0_0_4,())).bind fun y15=>
 some (y14.2.1,y15.1,y15.2.1,y15.2.2.1,()))))
def cg.F:=stk cg.B
theorem cg.eq:cg.F=cg.B:=aq _
theorem cg.k:Kk cE.s ae.q [] Tryz.f249 cg.d cg.B:={}
def cg.s:SpL:=cg.d.e [] cg.F::cE.s
theorem cg.c:Ck cg.s ae.q:=cS cE.c cg.k
def b7.d:Fe:=⟨250,1,⟨[(0,.v false [.ptr 0 0])],[(0,true,.box 284 [.ref 1,.bool,.sl 3 (.int .i64)]),(1,true,.arr 3 (.int .i64))],[],2,[]⟩,⟨[(0,.tup [(false,[.int .i64]),(false,[.bool])])],[(0,true,.box 284 [.ref 1001,.bool,.sl 3 (.int .i64)]),(1001,false,.arr 3 (.int .i64))],[],1002,[(0,0)]⟩,.n⟩
def b7.B:Bool×(List Int)×(List Int)×Unit→Option (Int×Bool×Bool×(List Int)×(List Int)×Unit):=fun (o0_1,o0_2,o0_0,_)=>
 (bif (!o0_1) then
 some ((0:Int),false,o0_1,o0_2,o0_0,())
 else
 (bif ((o0_0.length:Int) !=(1:Int)) then
 some ((0:Int),false,o0_1,o0_2,o0_0,())
 else
 ck (ib (0:Int) o0_0.length)<|
 let e1:Int:=(List.getD o0_0 0 (0:Int))
 some (e1,true,o0_1,o0_2,o0_0,())))
def b7.F:=stk b7.B
theorem b7.eq:b7.F=b7.B:=aq _
theorem b7.k:Kk cg.s ae.q [] Tryz.f250 b7.d b7.B:={}
def b7.s:SpL:=b7.d.e [] b7.F::cg.s
theorem b7.c:Ck b7.s ae.q:=cS cg.c b7.k
def eU.d:Fe:=⟨211,2,⟨[(0,.v false [.sl 126 bN]),(1,.v false [.sl 3 (.int .i64)])],[],[],0,[]⟩,⟨[(0,.tup [(false,[.int .i64]),(false,[.int .i64])])],[],[],1000,[]⟩,(.s none .n (.s none .n (.s none .n (.s none .n (.s (some ⟨[(6,.v false [.ptr 0 0])],[(0,true,.box 284 [.ref 1,.bool,.sl 3 (.int .i64)]),(1,false,.arr 3 (.int .i64))],[],2,[]⟩) (.s none .n (.b (.l ⟨[(6,.v false [.ptr 0 0]),(23,.v false [.int .i64])],[(0,true,.box 284 [.ref 1,.bool,.sl 3 (.int .i64)]),(1,false,.arr 3 (.int .i64))],[21,22],2,[]⟩ .n))) .n)))))⟩
def eU.B:(List ak)×(List Int)×Unit→Option (Int×Int×Unit):=fun (p0,p1,_)=>
 (bif (decide ((p0.length:Int)>(100:Int))) then
 some ((0:Int),(1:Int),())
 else
 jn (S:=Bool×(List Int)×(List Int)×Unit) (
 aN (S:=Int×Bool×(List Int)×(List Int)×Unit) (fun (x23,o6_0_1,o6_0_2,o6_0_0,_)=>
 (bif (decide (x23<(p0.length:Int))) then
 ck (ib x23 p0.length)<|
 let e1:ak:=(gt p0 x23 bN.z)
 (cg.F (e1.1,e1.2.1,e1.2.2.1,e1.2.2.2.1,e1.2.2.2.2,o6_0_1,o6_0_2,o6_0_0,())).bind fun y2=>
 (bif (!y2.1) then
 ir (.inr ((0:Int),(30:Int),()))
 else
 let e3:Int:=(wr (x23+(1:Int)))
 il (e3,y2.2.1,y2.2.2.1,y2.2.2.2.1,()))
 else
 ir (.inl (o6_0_1,o6_0_2,o6_0_0,())))) ((0:Int),true,p1,[],())) fun (o6_0_1_4,o6_0_2_4,o6_0_0_4,_)=>
 (b7.F (o6_0_1_4,o6_0_2_4,o6_0_0_4,())).bind fun y5=>
 (bif y5.2.1 then
 some (y5.1,(0:Int),())
 else
 some ((0:Int),(30:Int),())))
def eU.F:=stk eU.B
theorem eU.eq:eU.F=eU.B:=aq _
theorem eU.k:Kk b7.s ae.q [] Tryz.f211 eU.d eU.B:={}
def eU.s:SpL:=eU.d.e [] eU.F::b7.s
theorem eU.c:Ck eU.s ae.q:=cS b7.c eU.k
def dh.d:Fe:=⟨185,2,⟨[(0,.v false [.sl 126 bN]),(1,.v false [.sl 3 (.int .i64)])],[],[],0,[]⟩,⟨[(0,.v false [.bool])],[],[],1000,[]⟩,.n⟩
def dh.B:(List ak)×(List Int)×Unit→Option (Bool×Unit):=fun (p0,p1,_)=>
 (eU.F (p0,p1,())).bind fun y1=>
 (bif (y1.2.1==(0:Int)) then
 (bif (y1.1==(1:Int)) then
 some (true,())
 else
 some ((y1.1==(0:Int)),()))
 else
 some (false,()))
def dh.F:=stk dh.B
theorem dh.eq:dh.F=dh.B:=aq _
theorem dh.k:Kk eU.s ae.q [] Tryz.f185 dh.d dh.B:={}
def dh.s:SpL:=dh.d.e [] dh.F::eU.s
theorem dh.c:Ck dh.s ae.q:=cS eU.c dh.k
def c8.d:Fe:=⟨139,2,⟨[(0,.v false [.sl 84 gF]),(1,.v true [.str,.sl 75 aV,.sl 78 (.sl 126 bN)])],[],[],0,[]⟩,⟨[(0,.v false [.int .i64])],[],[],1000,[]⟩,(.s none .n (.s none .n (.s (some ⟨[],[],[0,3,5],0,[]⟩) (.s none .n (.b (.l ⟨[(24,.v false [.int .i64])],[],[0,3,5,22,23],0,[]⟩ (.s none .n (.s none .n (.s none (.b (.s none .n (.s none .n (.s (some ⟨[(53,.v false [.bool])],[],[0,3,5,22,23,24],0,[]⟩) .n .n)))) .n)))))) (.s (some ⟨[],[],[3,5],0,[]⟩) (.s none .n (.b (.l ⟨[(58,.v false [.int .i64])],[],[0,3,5,56,57],0,[]⟩ (.s none .n (.s none .n (.s none (.b (.s none .n (.s none .n (.s none .n (.s (some ⟨[(12,.v false [.ptr 0 0])],[(0,true,.box 40 [.str,.sl 75 aV,.sl 78 (.sl 126 bN)])],[0,3,5,11,56,57,58],1,[]⟩) .n .n))))) .n)))))) .n))))⟩
def c8.l:InT:=[(181,[],Tryz.f181,.n),(182,[(1,181)],Tryz.f182,(.s none .n (.s none (.s none .n (.b (.l ⟨[(8,.v false [.int .i64])],[],[0,1,7],0,[]⟩ (.s none .n (.s none .n (.s none (.b (.s none .n (.s (some ⟨[(16,.v false [.bool])],[],[0,1,5,7,8],0,[]⟩) .n .n))) .n)))))) .n))),(183,[(1,184)],Tryz.f183,.n),(184,[],Tryz.f184,.n),(210,[(1,184)],Tryz.f210,(.s none .n (.s none (.s none .n (.b (.l ⟨[(8,.v false [.int .i64])],[(0,true,.box 79 [.sl 3 (.int .i64)])],[0,1,7],1,[(0,1003)]⟩ (.s none .n (.s none .n (.s none (.b (.s none .n (.s (some ⟨[(16,.v false [.bool])],[(0,true,.box 79 [.sl 3 (.int .i64)])],[0,1,5,7,8],1,[(0,1003)]⟩) .n .n))) .n)))))) .n)))]
def c8.B:(List bL)×ByteArray×(List aB)×(List (List ak))×Unit→Option (Int×Unit):=fun (p0,p1_0,p1_1,p1_2,_)=>
 (aA.F (p0,(0:Int),p1_0,p1_1,p1_2,(⟨#[]⟩:ByteArray),(⟨#[]⟩:ByteArray),(⟨#[]⟩:ByteArray),(0:Int),(0:Int),([]:List ak),([]:List Int),false,([]:List cU),())).bind fun y1=>
 jn (S:=Unit) (
 aN (S:=Int×Unit) (fun (x24,_)=>
 (bif (decide (x24<(p1_1.length:Int))) then
 ck (ib x24 p1_1.length)<|
 let e2:aB:=(gt p1_1 x24 aV.z)
 jn (S:=Bool×Unit) (
 aN (S:=Int×Unit) (fun (x8',_)=>
 (bif (decide (x8'<(p1_1.length:Int))) then
 jn (S:=Bool×Unit) (
 ck (ib x8' p1_1.length)<|
 let e3:aB:=(gt p1_1 x8' aV.z)
 il ((sq e3.1 e2.1),())) fun (x16_4,_)=>
 (bif x16_4 then
 Option.map Sum.inr ((bif (x8' !=x24) then
 il (true,())
 else
 (bif (x24==(0:Int)) then
 (bif e2.2.2.1 then
 il (true,())
 else
 (bif (e2.2.1==(1:Int)) then
 il (true,())
 else
 il ((!sq e2.2.2.2.2.1 (⟨#[]⟩:ByteArray)),())))
 else
 il (false,()))))
 else
 let e5:Int:=(wr (x8'+(1:Int)))
 il (e5,()))
 else
 Option.map Sum.inr ((bif ((-1:Int) !=x24) then
 il (true,())
 else
 (bif (x24==(0:Int)) then
 (bif e2.2.2.1 then
 il (true,())
 else
 (bif (e2.2.1==(1:Int)) then
 il (true,())
 else
 il ((!sq e2.2.2.2.2.1 (⟨#[]⟩:ByteArray)),())))
 else
 il (false,())))))) ((0:Int),())) fun (x53_6,_)=>
 (bif x53_6 then
 ir (.inr ((91:Int),()))
 else
 let e7:Int:=(wr (x24+(1:Int)))
 il (e7,()))
 else
 ir (.inl (())))) ((0:Int),())) fun (_)=>
 jn (S:=Unit) (
 aN (S:=Int×Unit) (fun (x58,_)=>
 (bif (decide (x58<(p1_1.length:Int))) then
 ck (ib x58 p1_1.length)<|
 let e9:aB:=(gt p1_1 x58 aV.z)
 (bif (sq e9.2.2.2.2.1 (⟨#[]⟩:ByteArray)) then
 let e10:Int:=(wr (x58+(1:Int)))
 il (e10,())
 else
 jn (S:=ByteArray×(List aB)×(List (List ak))×Unit) (
 (bif (!sq e9.2.2.2.2.1 p1_0) then
 (cK.F (p0,e9.2.2.2.2.1,())).bind fun y11=>
 (bif (decide (y11.1<(0:Int))) then
 ir (.inr (.inr ((92:Int),())))
 else
 ck (ib y11.1 p0.length)<|
 let e12:bL:=(gt p0 y11.1 gF.z)
 (bif (e12.1 !=(0:Int)) then
 ir (.inr (.inr ((92:Int),())))
 else
 ck (ib y11.1 p0.length)<|
 let e13:bL:=(gt p0 y11.1 gF.z)
 il (e13.2.1.1,e13.2.1.2.1,e13.2.1.2.2,())))
 else
 il (p1_0,p1_1,p1_2,()))) fun (o12_0_0_14,o12_0_1_14,o12_0_2_14,_)=>
 ck (ib (0:Int) o12_0_1_14.length)<|
 let e15:aB:=(List.getD o12_0_1_14 0 aV.z)
 (bif (e15.2.1 !=e9.2.1) then
 ir (.inr ((92:Int),()))
 else
 (bif (e9.2.2.2.2.2==(2:Int)) then
 (bif (!e9.2.2.1) then
 ir (.inr ((92:Int),()))
 else
 let e16:Int:=(wr (x58+(1:Int)))
 il (e16,()))
 else
 let e17:Int:=(wr (x58+(1:Int)))
 il (e17,()))))
 else
 ir (.inl (())))) ((0:Int),())) fun (_)=>
 aN (S:=Int×(List Int)×Unit) (fun (x8,ok_1_0,_)=>
 (bif (decide (x8<(p1_2.length:Int))) then
 jn (S:=Bool×(List Int)×Unit) (
 ck (ib x8 p1_2.length)<|
 let e19:(List ak):=(gt p1_2 x8 [])
 (dh.F (e19,ok_1_0,())).bind fun y20=>
 il ((!y20.1),ok_1_0,())) fun (x16_21,ok_1_0_21,_)=>
 (bif x16_21 then
 Option.map Sum.inr ((bif (decide (x8≥(0:Int))) then
 some ((93:Int),())
 else
 some ((0:Int),())))
 else
 let e22:Int:=(wr (x8+(1:Int)))
 il (e22,ok_1_0_21,()))
 else
 Option.map Sum.inr ((bif (decide ((-1:Int)≥(0:Int))) then
 some ((93:Int),())
 else
 some ((0:Int),()))))) ((0:Int),y1.1,())
def c8.F:=stk c8.B
theorem c8.eq:c8.F=c8.B:=aq _
theorem c8.k:Kk dh.s ae.q c8.l Tryz.f139 c8.d c8.B:={}
def c8.s:SpL:=c8.d.e [] c8.F::dh.s
theorem c8.c:Ck c8.s ae.q:=cS dh.c c8.k
def dE.d:Fe:=⟨140,2,⟨[(0,.v false [.sl 84 gF]),(1,.v true [.str,.str,.str,.int .i64,.int .i64,.sl 126 bN,.sl 3 (.int .i64),.bool,.sl 156 ep])],[],[],0,[]⟩,⟨[(0,.v false [.bool])],[],[],1000,[]⟩,(.s none .n (.s (some ⟨[],[],[0,3],0,[]⟩) .n (.s none .n (.s none .n (.s none .n (.s none (.s (some ⟨[(83,.v false [.bool])],[],[3,7],0,[]⟩) .n .n) (.s (some ⟨[(7,.v false [.sl 3 (.int .i64)])],[],[3],0,[]⟩) .n (.s (some ⟨[],[],[3,7],0,[]⟩) (.s none .n (.b (.l ⟨[(98,.v false [.int .i64])],[],[3,7,96,97],0,[]⟩ .n))) (.s (some ⟨[],[],[3],0,[]⟩) (.s none .n (.b (.l ⟨[(110,.v false [.int .i64])],[],[3,7,108,109],0,[]⟩ (.s none .n (.s none .n (.s none (.b (.s none .n (.s (some ⟨[(136,.v false [.bool])],[],[3,7,108,109,110],0,[]⟩) .n .n))) .n)))))) .n)))))))))⟩
def dE.B:(List bL)×ByteArray×ByteArray×ByteArray×Int×Int×(List ak)×(List Int)×Bool×(List cU)×Unit→Option (Bool×Unit):=fun (p0,p1_0,p1_1,p1_2,p1_3,p1_4,p1_5,p1_6,p1_7,p1_8,_)=>
 jn (S:=Unit) (
 (cK.F (p0,p1_1,())).bind fun y1=>
 (bif (decide (y1.1<(0:Int))) then
 ir (false,())
 else
 (bif (!sq p1_2 (⟨#[]⟩:ByteArray)) then
 (cK.F (p0,p1_2,())).bind fun y2=>
 (bif (decide (y2.1<(0:Int))) then
 ir (false,())
 else
 il (()))
 else
 il (())))) fun (_)=>
 (cK.F (p0,p1_1,())).bind fun y4=>
 ck (ib y4.1 p0.length)<|
 let e5:bL:=(gt p0 y4.1 gF.z)
 (aA.F (p0,e5.1,e5.2.1.1,e5.2.1.2.1,e5.2.1.2.2,e5.2.2.1,e5.2.2.2.1,e5.2.2.2.2.1,e5.2.2.2.2.2.1.1,e5.2.2.2.2.2.1.2,e5.2.2.2.2.2.2.1,e5.2.2.2.2.2.2.2.1,e5.2.2.2.2.2.2.2.2.1,e5.2.2.2.2.2.2.2.2.2,())).bind fun y6=>
 (aI.F (p0,p1_0,p1_1,p1_2,p1_3,p1_4,p1_5,p1_6,p1_7,p1_8,())).bind fun y7=>
 ck (sb (y6.1.length:Int) (y7.1.length:Int) y7.1.length)<|
 jn (S:=Bool×Unit) (
 (bif (!sq p1_2 (⟨#[]⟩:ByteArray)) then
 ck (ib (0:Int) 2)<|
 (bif (decide (p1_3≥(y6.1.length:Int))) then
 il (true,())
 else
 ck (ib (1:Int) 2)<|
 (bif (decide (p1_4≥((Int.toNat (y7.1.length:Int)-Int.toNat (y6.1.length:Int):Nat):Int))) then
 il (true,())
 else
 ck (ib (0:Int) 2)<|
 ck (ib p1_3 y6.1.length)<|
 let e8:Int:=(List.getD y6.1 (Int.toNat p1_3) (0:Int))
 ck (ib (1:Int) 2)<|
 ck (ib p1_4 (Int.toNat (y7.1.length:Int)-Int.toNat (y6.1.length:Int):Nat))<|
 let e9:Int:=(List.getD y7.1 ((Int.toNat (y6.1.length:Int))+(Int.toNat p1_4):Nat) (0:Int))
 il ((e8 !=e9),())))
 else
 il (false,()))) fun (x83_10,_)=>
 (bif x83_10 then
 some (false,())
 else
 jn (S:=(List Int)×Unit) (
 (bif (decide ((p1_5.length:Int)>(0:Int))) then
 (dh.F (p1_5,y7.1,())).bind fun y11=>
 (bif (!y11.1) then
 ir (false,())
 else
 il (y7.1,()))
 else
 il (y7.1,()))) fun (x7_12,_)=>
 jn (S:=Unit) (
 aN (S:=Int×Unit) (fun (x98,_)=>
 (bif (decide (x98<(p1_6.length:Int))) then
 ck (ib x98 p1_6.length)<|
 let e13:Int:=(gt p1_6 x98 (0:Int))
 (bif (decide (e13≥(x7_12.length:Int))) then
 ir (.inr (false,()))
 else
 let e14:Int:=(wr (x98+(1:Int)))
 il (e14,()))
 else
 ir (.inl (())))) ((0:Int),())) fun (_)=>
 jn (S:=Unit) (
 aN (S:=Int×Unit) (fun (x110,_)=>
 (bif (decide (x110<(p1_8.length:Int))) then
 ck (ib x110 p1_8.length)<|
 let e16:cU:=(gt p1_8 x110 ep.z)
 jn (S:=Bool×Unit) (
 (bif (e16.1 !=(0:Int)) then
 (bif (decide (e16.2≥(x7_12.length:Int))) then
 il (true,())
 else
 (bif (e16.1==(1:Int)) then
 ck (ib e16.2 x7_12.length)<|
 let e17:Int:=(gt x7_12 e16.2 (0:Int))
 il ((e17 !=(2:Int)),())
 else
 il (false,())))
 else
 (bif (e16.1==(1:Int)) then
 ck (ib e16.2 x7_12.length)<|
 let e18:Int:=(gt x7_12 e16.2 (0:Int))
 il ((e18 !=(2:Int)),())
 else
 il (false,())))) fun (x136_19,_)=>
 (bif x136_19 then
 ir (.inr (false,()))
 else
 let e20:Int:=(wr (x110+(1:Int)))
 il (e20,()))
 else
 ir (.inl (())))) ((0:Int),())) fun (_)=>
 let e22:Int:=(wr ((p1_6.length:Int)+(p1_8.length:Int)))
 (bif p1_7 then
 (bif (decide (e22≥(1:Int))) then
 some ((decide (e22≤(40:Int))),())
 else
 some (false,()))
 else
 (bif ((p1_8.length:Int)==(0:Int)) then
 (bif (decide (e22≥(1:Int))) then
 some ((decide (e22≤(40:Int))),())
 else
 some (false,()))
 else
 some (false,()))))
def dE.F:=stk dE.B
theorem dE.eq:dE.F=dE.B:=aq _
theorem dE.k:Kk c8.s ae.q [] Tryz.f140 dE.d dE.B:={}
def dE.s:SpL:=dE.d.e [] dE.F::c8.s
theorem dE.c:Ck dE.s ae.q:=cS c8.c dE.k
def dV.d:Fe:=⟨103,2,⟨[(0,.v false [.sl 84 gF]),(1,.v true [.int .i64,.str,.sl 75 aV,.sl 78 (.sl 126 bN),.str,.str,.str,.int .i64,.int .i64,.sl 126 bN,.sl 3 (.int .i64),.bool,.sl 156 ep])],[],[],0,[]⟩,⟨[(0,.v false [.int .i64])],[],[],1000,[]⟩,.n⟩
def dV.B:(List bL)×Int×ByteArray×(List aB)×(List (List ak))×ByteArray×ByteArray×ByteArray×Int×Int×(List ak)×(List Int)×Bool×(List cU)×Unit→Option (Int×Unit):=fun (p0,p1_0,p1_1,p1_2,p1_3,p1_4,p1_5,p1_6,p1_7,p1_8,p1_9,p1_10,p1_11,p1_12,_)=>
 (gO.F (p1_0,p1_1,p1_2,p1_3,p1_4,p1_5,p1_6,p1_7,p1_8,p1_9,p1_10,p1_11,p1_12,())).bind fun y1=>
 (bif (!y1.1) then
 some ((1:Int),())
 else
 (bif (decide ((p0.length:Int)≥(20:Int))) then
 some ((95:Int),())
 else
 (dU.F (p1_0,p1_1,p1_2,p1_3,p1_4,p1_5,p1_6,p1_7,p1_8,p1_9,p1_10,p1_11,p1_12,())).bind fun y2=>
 (cK.F (p0,y2.1,())).bind fun y3=>
 (bif (decide (y3.1≥(0:Int))) then
 some ((90:Int),())
 else
 (bif (p1_0==(0:Int)) then
 (c8.F (p0,p1_1,p1_2,p1_3,())).bind fun y4=>
 some (y4.1,())
 else
 (dE.F (p0,p1_4,p1_5,p1_6,p1_7,p1_8,p1_9,p1_10,p1_11,p1_12,())).bind fun y5=>
 (bif (!y5.1) then
 some ((94:Int),())
 else
 some ((0:Int),()))))))
def dV.F:=stk dV.B
theorem dV.eq:dV.F=dV.B:=aq _
theorem dV.k:Kk dE.s ae.q [] Tryz.f103 dV.d dV.B:={}
def dV.s:SpL:=dV.d.e [] dV.F::dE.s
theorem dV.c:Ck dV.s ae.q:=cS dE.c dV.k
def schema_May.d:Fe:=⟨66,1,⟨[(0,.v false [.sl 84 gF])],[],[],0,[]⟩,⟨[(0,.v false [.bool])],[],[],1000,[]⟩,(.s none .n (.s none (.s none .n (.b (.l ⟨[(7,.v false [.int .i64])],[],[0,5,6],0,[]⟩ .n))) .n))⟩
def schema_May.B:(List bL)×Unit→Option (Bool×Unit):=fun (p0,_)=>
 aN (S:=Int×Unit) (fun (x7,_)=>
 (bif (decide (x7<(p0.length:Int))) then
 ck (ib x7 p0.length)<|
 let e1:bL:=(gt p0 x7 gF.z)
 ck (sb (0:Int) x7 p0.length)<|
 let e2:List bL:=(List.drop (Int.toNat (0:Int)) (List.take (Int.toNat x7) p0))
 (dV.F (e2,e1.1,e1.2.1.1,e1.2.1.2.1,e1.2.1.2.2,e1.2.2.1,e1.2.2.2.1,e1.2.2.2.2.1,e1.2.2.2.2.2.1.1,e1.2.2.2.2.2.1.2,e1.2.2.2.2.2.2.1,e1.2.2.2.2.2.2.2.1,e1.2.2.2.2.2.2.2.2.1,e1.2.2.2.2.2.2.2.2.2,())).bind fun y3=>
 (bif (y3.1 !=(0:Int)) then
 ir (false,())
 else
 let e4:Int:=(wr (x7+(1:Int)))
 il (e4,()))
 else
 ir (true,()))) ((0:Int),())
def schema_May.F:=stk schema_May.B
theorem schema_May.eq:schema_May.F=schema_May.B:=aq _
theorem schema_May.k:Kk dV.s ae.q [] Tryz.f66 schema_May.d schema_May.B:={}
def schema_May.s:SpL:=schema_May.d.e [] schema_May.F::dV.s
theorem schema_May.c:Ck schema_May.s ae.q:=cS dV.c schema_May.k
def db.d:Fe:=⟨61,1,⟨[(0,.v false [.sl 84 gF])],[],[],0,[]⟩,⟨[(0,.v false [.ref 1000])],[(1000,false,.arr 40 iW)],[],1001,[]⟩,(.s none .n (.s none .n (.s none (.s none .n (.b (.l ⟨[(3,.v false [.ref 0]),(8,.v false [.int .i64])],[(0,false,.arr 40 iW)],[6,7],1,[]⟩ .n))) .n)))⟩
def db.B:(List bL)×Unit→Option ((List gD)×Unit):=fun (p0,_)=>
 aN (S:=Int×(List gD)×Unit) (fun (x8,o3_0,_)=>
 (bif (decide (x8<(p0.length:Int))) then
 ck (ib x8 p0.length)<|
 let e1:bL:=(gt p0 x8 gF.z)
 (bif (e1.1==(0:Int)) then
 ck (Nat.ble (o3_0.length+ [e1.2.1].length) 2199023255552)<|
 let e2:Int:=(wr (x8+(1:Int)))
 il (e2,(o3_0++ [e1.2.1]),())
 else
 let e3:Int:=(wr (x8+(1:Int)))
 il (e3,o3_0,()))
 else
 ir (o3_0,()))) ((0:Int),[],())
def db.F:=stk db.B
theorem db.eq:db.F=db.B:=aq _
theorem db.k:Kk schema_May.s ae.q [] Tryz.f61 db.d db.B:={}
def db.s:SpL:=db.d.e [] db.F::schema_May.s
theorem db.c:Ck db.s ae.q:=cS schema_May.c db.k
def fM.d:Fe:=⟨104,1,⟨[(0,.v false [.int .i64])],[],[],0,[]⟩,⟨[(0,.v false [.bool])],[],[],1000,[]⟩,.n⟩
def fM.B:Int×Unit→Option (Bool×Unit):=fun (p0,_)=>
 (bif (decide (p0≥(-1000000000:Int))) then
 some ((decide (p0≤(1000000000:Int))),())
 else
 some (false,()))
def fM.F:=stk fM.B
theorem fM.eq:fM.F=fM.B:=aq _
theorem fM.k:Kk db.s ae.q [] Tryz.f104 fM.d fM.B:={}
def fM.s:SpL:=fM.d.e [] fM.F::db.s
theorem fM.c:Ck fM.s ae.q:=cS db.c fM.k
def eX.d:Fe:=⟨95,1,⟨[(0,.v true [.int .i64,.int .i64,.str])],[],[],0,[]⟩,⟨[(0,.v false [.bool])],[],[],1000,[]⟩,.n⟩
def eX.B:Int×Int×ByteArray×Unit→Option (Bool×Unit):=fun (p0_0,p0_1,p0_2,_)=>
 (dz.F (p0_0,p0_1,p0_2,())).bind fun y1=>
 some ((!y1.1),())
def eX.F:=stk eX.B
theorem eX.eq:eX.F=eX.B:=aq _
theorem eX.k:Kk fM.s ae.q [] Tryz.f95 eX.d eX.B:={}
def eX.s:SpL:=eX.d.e [] eX.F::fM.s
theorem eX.c:Ck eX.s ae.q:=cS fM.c eX.k
def fX.d:Fe:=⟨55,1,⟨[(0,.v false [.sl 47 ar])],[],[],0,[]⟩,⟨[(0,.v false [.bool])],[],[],1000,[]⟩,.n⟩
def fX.l:InT:=[(94,[],Tryz.f94,.n),(134,[],Tryz.f134,(.s none .n (.s none (.s none .n (.b (.l ⟨[(8,.v false [.int .i64])],[],[0,1,7],0,[]⟩ (.s none .n (.s none .n (.s none (.b (.s none .n (.s (some ⟨[(16,.v false [.bool])],[],[0,1,5,7,8],0,[]⟩) .n .n))) .n)))))) .n)))]
def fX.B:(List ap)×Unit→Option (Bool×Unit):=fun (p0,_)=>
 (bif (decide ((p0.length:Int)≤(40:Int))) then
 aN (S:=Int×Unit) (fun (x8,_)=>
 (bif (decide (x8<(p0.length:Int))) then
 jn (S:=Bool×Unit) (
 ck (ib x8 p0.length)<|
 let e1:ap:=(gt p0 x8 ar.z)
 (eX.F (e1.1,e1.2.1,e1.2.2,())).bind fun y2=>
 il (y2.1,())) fun (x16_3,_)=>
 (bif x16_3 then
 ir ((!(decide (x8≥(0:Int)))),())
 else
 let e4:Int:=(wr (x8+(1:Int)))
 il (e4,()))
 else
 ir ((!(decide ((-1:Int)≥(0:Int)))),()))) ((0:Int),())
 else
 some (false,()))
def fX.F:=stk fX.B
theorem fX.eq:fX.F=fX.B:=aq _
theorem fX.k:Kk eX.s ae.q fX.l Tryz.f55 fX.d fX.B:={}
def fX.s:SpL:=fX.d.e [] fX.F::eX.s
theorem fX.c:Ck fX.s ae.q:=cS eX.c fX.k
def dm.d:Fe:=⟨200,1,⟨[(0,.v false [.int .i64])],[],[],0,[]⟩,⟨[(0,.v false [.bool])],[],[],1000,[]⟩,.n⟩
def dm.B:Int×Unit→Option (Bool×Unit):=fun (p0,_)=>
 some ((p0 !=p0),())
def dm.F:=stk dm.B
theorem dm.eq:dm.F=dm.B:=aq _
theorem dm.k:Kk fX.s ae.q [] Tryz.f200 dm.d dm.B:={}
def dm.s:SpL:=dm.d.e [] dm.F::fX.s
theorem dm.c:Ck dm.s ae.q:=cS fX.c dm.k
def cG.d:Fe:=⟨173,2,⟨[(0,.v false [.int .i64]),(1,.v false [.int .i64])],[],[],0,[]⟩,⟨[(0,.v false [.int .i64])],[],[],1000,[]⟩,.n⟩
def cG.B:Int×Int×Unit→Option (Int×Unit):=fun (p0,p1,_)=>
 (dm.F (p0,())).bind fun y1=>
 (dm.F (p1,())).bind fun y2=>
 (bif y1.1 then
 (bif y2.1 then
 some ((0:Int),())
 else
 some ((-1:Int),()))
 else
 (bif y2.1 then
 some ((1:Int),())
 else
 (bif (decide (p0<p1)) then
 some ((-1:Int),())
 else
 (bif (decide (p0>p1)) then
 some ((1:Int),())
 else
 some ((0:Int),())))))
def cG.F:=stk cG.B
theorem cG.eq:cG.F=cG.B:=aq _
theorem cG.k:Kk dm.s ae.q [] Tryz.f173 cG.d cG.B:={}
def cG.s:SpL:=cG.d.e [] cG.F::dm.s
theorem cG.c:Ck cG.s ae.q:=cS dm.c cG.k
def strings_Compare.d:Fe:=⟨174,2,⟨[(0,.v false [.str]),(1,.v false [.str])],[],[],0,[]⟩,⟨[(0,.v false [.int .i64])],[],[],1000,[]⟩,.n⟩
def strings_Compare.B:TS strings_Compare.d.si→Option (TS strings_Compare.d.so):=fun (a,b,_)=>some (uv a b,())
def strings_Compare.F:=stk strings_Compare.B
theorem strings_Compare.eq:strings_Compare.F=strings_Compare.B:=aq _
theorem strings_Compare.ok:fk PP 174 ⟨2,strings_Compare.d.si,strings_Compare.d.so,strings_Compare.F⟩:=by
 rw [strings_Compare.eq]
 exact uw
def strings_Compare.s:SpL:=strings_Compare.d.e [] strings_Compare.F::cG.s
theorem strings_Compare.c:Ck strings_Compare.s ae.q:=gT.consS cG.c [] ⟨_,Tryz.func174,by kernel_rfl,by decide⟩ strings_Compare.ok
def eG.d:Fe:=⟨172,1,⟨[(0,.v false [.sl 3 (.int .i64)])],[],[],0,[]⟩,⟨[(0,.v false [.int .i64])],[],[],1000,[]⟩,(.s none .n (.s none .n (.s none (.s none .n (.b (.l ⟨[(8,.v false [.int .i64])],[],[3,6,7],0,[]⟩ .n))) .n)))⟩
def eG.B:(List Int)×Unit→Option (Int×Unit):=fun (p0,_)=>
 aN (S:=Int×Unit) (fun (x8,_)=>
 (bif (decide (x8<(p0.length:Int))) then
 ck (ib x8 p0.length)<|
 let e1:Int:=(gt p0 x8 (0:Int))
 (bif (e1 !=(0:Int)) then
 ir (e1,())
 else
 let e2:Int:=(wr (x8+(1:Int)))
 il (e2,()))
 else
 ir ((0:Int),()))) ((0:Int),())
def eG.F:=stk eG.B
theorem eG.eq:eG.F=eG.B:=aq _
theorem eG.k:Kk strings_Compare.s ae.q [] Tryz.f172 eG.d eG.B:={}
def eG.s:SpL:=eG.d.e [] eG.F::strings_Compare.s
theorem eG.c:Ck eG.s ae.q:=cS strings_Compare.c eG.k
def dd.d:Fe:=⟨133,2,⟨[(0,.v true [.int .i64,.int .i64,.str]),(1,.v true [.int .i64,.int .i64,.str])],[],[],0,[]⟩,⟨[(0,.v false [.int .i64])],[],[],1000,[]⟩,.n⟩
def dd.B:Int×Int×ByteArray×Int×Int×ByteArray×Unit→Option (Int×Unit):=fun (p0_0,p0_1,p0_2,p1_0,p1_1,p1_2,_)=>
 (cG.F (p0_0,p1_0,())).bind fun y1=>
 (cG.F (p0_1,p1_1,())).bind fun y2=>
 (strings_Compare.F (p0_2,p1_2,())).bind fun y3=>
 (eG.F ([y1.1,y2.1,y3.1],())).bind fun y4=>
 some (y4.1,())
def dd.F:=stk dd.B
theorem dd.eq:dd.F=dd.B:=aq _
theorem dd.k:Kk eG.s ae.q [] Tryz.f133 dd.d dd.B:={}
def dd.s:SpL:=dd.d.e [] dd.F::eG.s
theorem dd.c:Ck dd.s ae.q:=cS eG.c dd.k
def dW.d:Fe:=⟨141,2,⟨[(0,.v false [.sl 47 ar]),(1,.v false [.sl 47 ar])],[],[],0,[]⟩,⟨[(0,.v false [.int .i64])],[],[],1000,[]⟩,.n⟩
def dW.l:InT:=[(187,[],Tryz.f187,(.s none .n (.s (some ⟨[],[],[0,1],0,[]⟩) (.s none .n (.b (.l ⟨[(13,.v false [.int .i64])],[],[0,1,2,11,12],0,[]⟩ (.s none .n (.s none .n (.s none (.b (.s none .n (.s none .n (.s none .n (.s (some ⟨[(10,.v false [.int .i64])],[],[0,1,2,11,12,13],0,[]⟩) .n .n))))) .n)))))) .n)))]
def dW.B:(List ap)×(List ap)×Unit→Option (Int×Unit):=fun (p0,p1,_)=>
 jn (S:=Unit) (
 aN (S:=Int×Unit) (fun (x13,_)=>
 (bif (decide (x13<(p0.length:Int))) then
 ck (ib x13 p0.length)<|
 let e1:ap:=(gt p0 x13 ar.z)
 (bif (decide (x13≥(p1.length:Int))) then
 ir (.inr ((1:Int),()))
 else
 ck (ib x13 p1.length)<|
 let e2:ap:=(gt p1 x13 ar.z)
 jn (S:=Int×Unit) (
 (dd.F (e1.1,e1.2.1,e1.2.2,e2.1,e2.2.1,e2.2.2,())).bind fun y3=>
 il (y3.1,())) fun (x10_4,_)=>
 (bif (x10_4 !=(0:Int)) then
 ir (.inr (x10_4,()))
 else
 let e5:Int:=(wr (x13+(1:Int)))
 il (e5,())))
 else
 ir (.inl (())))) ((0:Int),())) fun (_)=>
 (bif (decide ((p0.length:Int)<(p1.length:Int))) then
 some ((-1:Int),())
 else
 some ((0:Int),()))
def dW.F:=stk dW.B
theorem dW.eq:dW.F=dW.B:=aq _
theorem dW.k:Kk dd.s ae.q dW.l Tryz.f141 dW.d dW.B:={}
def dW.s:SpL:=dW.d.e [] dW.F::dd.s
theorem dW.c:Ck dW.s ae.q:=cS dd.c dW.k
def dX.d:Fe:=⟨105,2,⟨[(0,.v false [.sl 47 ar]),(1,.v false [.sl 47 ar])],[],[],0,[]⟩,⟨[(0,.v false [.int .i64])],[],[],1000,[]⟩,.n⟩
def dX.B:(List ap)×(List ap)×Unit→Option (Int×Unit):=fun (p0,p1,_)=>
 (dW.F (p0,p1,())).bind fun y1=>
 some (y1.1,())
def dX.F:=stk dX.B
theorem dX.eq:dX.F=dX.B:=aq _
theorem dX.k:Kk dW.s ae.q [] Tryz.f105 dX.d dX.B:={}
def dX.s:SpL:=dX.d.e [] dX.F::dW.s
theorem dX.c:Ck dX.s ae.q:=cS dW.c dX.k
def gx.d:Fe:=⟨67,1,⟨[(0,.v false [.sl 62 cX])],[],[],0,[]⟩,⟨[(0,.v false [.bool])],[],[],1000,[]⟩,(.s none .n (.s none (.s none .n (.b (.l ⟨[(7,.v false [.int .i64])],[],[0,5,6],0,[]⟩ (.s none .n (.s none .n (.s none (.b (.s none .n (.s (some ⟨[(42,.v false [.bool])],[],[0,5,6,7],0,[]⟩) .n .n))) .n)))))) .n))⟩
def gx.B:(List bO)×Unit→Option (Bool×Unit):=fun (p0,_)=>
 aN (S:=Int×Unit) (fun (x7,_)=>
 (bif (decide (x7<(p0.length:Int))) then
 ck (ib x7 p0.length)<|
 let e1:bO:=(gt p0 x7 cX.z)
 jn (S:=Bool×Unit) (
 (bif (e1.2==(0:Int)) then
 il (true,())
 else
 (fM.F (e1.2,())).bind fun y2=>
 (bif (!y2.1) then
 il (true,())
 else
 (fX.F (e1.1,())).bind fun y3=>
 (bif (!y3.1) then
 il (true,())
 else
 (bif (decide (x7>(0:Int))) then
 let e4:Int:=(wr (x7-(1:Int)))
 ck (ib e4 p0.length)<|
 let e5:bO:=(gt p0 e4 cX.z)
 (dX.F (e5.1,e1.1,())).bind fun y6=>
 il ((decide (y6.1≥(0:Int))),())
 else
 il (false,())))))) fun (x42_7,_)=>
 (bif x42_7 then
 ir (false,())
 else
 let e8:Int:=(wr (x7+(1:Int)))
 il (e8,()))
 else
 ir (true,()))) ((0:Int),())
def gx.F:=stk gx.B
theorem gx.eq:gx.F=gx.B:=aq _
theorem gx.k:Kk dX.s ae.q [] Tryz.f67 gx.d gx.B:={}
def gx.s:SpL:=gx.d.e [] gx.F::dX.s
theorem gx.c:Ck gx.s ae.q:=cS dX.c gx.k
def di.d:Fe:=⟨25,2,⟨[(0,.v false [.sl 84 gF]),(1,.v false [.sl 44 eB])],[],[],0,[]⟩,⟨[(0,.v false [.bool])],[],[],1000,[]⟩,(.s none .n (.s none .n (.s none .n (.s none .n (.s none (.s none .n (.b (.l ⟨[(22,.v false [.int .i64])],[],[5,20,21],0,[]⟩ (.s none .n (.s none .n (.s (some ⟨[],[],[5,20,21,22],0,[]⟩) (.b (.s none .n (.s (some ⟨[],[],[5,6,7,20,21,22],0,[]⟩) .n (.s none .n (.b (.l ⟨[(44,.v false [.int .i64])],[],[5,6,7,20,21,22,42,43],0,[]⟩ (.s none .n (.s none .n (.s none (.b (.s none .n (.s (some ⟨[(91,.v false [.bool])],[],[5,6,7,20,21,22,42,43,44],0,[]⟩) .n .n))) .n))))))))) .n)))))) .n)))))⟩
def di.B:(List bL)×(List bF)×Unit→Option (Bool×Unit):=fun (p0,p1,_)=>
 (schema_May.F (p0,())).bind fun y1=>
 (bif (!y1.1) then
 some (false,())
 else
 (db.F (p0,())).bind fun y2=>
 (bif ((y2.1.length:Int) !=(p1.length:Int)) then
 some (false,())
 else
 aN (S:=Int×Unit) (fun (x22,_)=>
 (bif (decide (x22<(p1.length:Int))) then
 jn (S:=Unit) (
 ck (ib x22 p1.length)<|
 let e3:bF:=(gt p1 x22 eB.z)
 jn (S:=Unit) (
 ck (ib x22 y2.1.length)<|
 let e4:gD:=(List.getD y2.1 (Int.toNat x22) iW.z)
 (bif (!sq e3.1 e4.1) then
 ir (.inr (.inr (false,())))
 else
 (gx.F (e3.2,())).bind fun y5=>
 (bif (!y5.1) then
 ir (.inr (.inr (false,())))
 else
 il (())))) fun (_)=>
 aN (S:=Int×Unit) (fun (x44',_)=>
 (bif (decide (x44'<(e3.2.length:Int))) then
 ck (ib x44' e3.2.length)<|
 let e7:bO:=(gt e3.2 x44' cX.z)
 jn (S:=Bool×Unit) (
 (bif (e7.2 !=(1:Int)) then
 il (true,())
 else
 ck (ib x22 y2.1.length)<|
 let e8:gD:=(List.getD y2.1 (Int.toNat x22) iW.z)
 (bif ((e7.1.length:Int) !=(e8.2.1.length:Int)) then
 il (true,())
 else
 ck (ib (0:Int) e7.1.length)<|
 let e9:ap:=(List.getD e7.1 0 ar.z)
 (bif (e9.1==(0:Int)) then
 il (true,())
 else
 (bif (decide (x44'>(0:Int))) then
 let e10:Int:=(wr (x44'-(1:Int)))
 ck (ib e10 e3.2.length)<|
 let e11:bO:=(gt e3.2 e10 cX.z)
 ck (ib (0:Int) e11.1.length)<|
 let e12:ap:=(List.getD e11.1 0 ar.z)
 ck (ib (0:Int) e7.1.length)<|
 let e13:ap:=(List.getD e7.1 0 ar.z)
 il ((Ty.eq ar e12 e13),())
 else
 il (false,())))))) fun (x91_14,_)=>
 (bif x91_14 then
 ir (.inr (.inr (false,())))
 else
 let e15:Int:=(wr (x44'+(1:Int)))
 il (e15,()))
 else
 ir (.inl (())))) ((0:Int),())) fun (_)=>
 let e17:Int:=(wr (x22+(1:Int)))
 il (e17,())
 else
 ir (true,()))) ((0:Int),())))
def di.F:=stk di.B
theorem di.eq:di.F=di.B:=aq _
theorem di.k:Kk gx.s ae.q [] Tryz.f25 di.d di.B:={}
def di.s:SpL:=di.d.e [] di.F::gx.s
theorem di.c:Ck di.s ae.q:=cS gx.c di.k
def eV.d:Fe:=⟨77,2,⟨[(0,.v false [.sl 44 eB]),(1,.v false [.str])],[],[],0,[]⟩,⟨[(0,.v false [.sl 62 cX])],[],[],1000,[]⟩,.n⟩
def eV.l:InT:=[(116,[(1,117)],Tryz.f116,(.s none .n (.s none (.s none .n (.b (.l ⟨[(8,.v false [.int .i64])],[],[0,1,7],0,[]⟩ (.s none .n (.s none .n (.s none (.b (.s none .n (.s (some ⟨[(16,.v false [.bool])],[],[0,1,5,7,8],0,[]⟩) .n .n))) .n)))))) .n))),(117,[],Tryz.f117,.n)]
def eV.B:(List bF)×ByteArray×Unit→Option ((List bO)×Unit):=fun (p0,p1,_)=>
 aN (S:=Int×Unit) (fun (x8,_)=>
 (bif (decide (x8<(p0.length:Int))) then
 jn (S:=Bool×Unit) (
 ck (ib x8 p0.length)<|
 let e1:bF:=(gt p0 x8 eB.z)
 il ((sq e1.1 p1),())) fun (x16_2,_)=>
 (bif x16_2 then
 Option.map Sum.inr ((bif (decide (x8<(0:Int))) then
 some (([]:List bO),())
 else
 ck (ib x8 p0.length)<|
 let e3:bF:=(gt p0 x8 eB.z)
 some (e3.2,())))
 else
 let e4:Int:=(wr (x8+(1:Int)))
 il (e4,()))
 else
 Option.map Sum.inr ((bif (decide ((-1:Int)<(0:Int))) then
 some (([]:List bO),())
 else
 ck (ib (-1:Int) p0.length)<|
 let e5:bF:=(gt p0 (-1:Int) eB.z)
 some (e5.2,()))))) ((0:Int),())
def eV.F:=stk eV.B
theorem eV.eq:eV.F=eV.B:=aq _
theorem eV.k:Kk di.s ae.q eV.l Tryz.f77 eV.d eV.B:={}
def eV.s:SpL:=eV.d.e [] eV.F::di.s
theorem eV.c:Ck eV.s ae.q:=cS di.c eV.k
def bK.d:Fe:=⟨78,1,⟨[(0,.v true [.str,.sl 75 aV,.sl 78 (.sl 126 bN),.sl 62 cX,.sl 44 eB])],[],[],0,[]⟩,⟨[(0,.v false [.int .i64])],[],[],1000,[]⟩,(.s none .n (.s none (.s none .n (.b (.l ⟨[(11,.v false [.int .i64])],[],[1,9,10],0,[]⟩ (.s none .n (.s none .n (.s (some ⟨[],[],[1,9,10,11],0,[]⟩) (.b (.s none .n (.s none .n (.b (.l ⟨[(18,.v false [.int .i64])],[],[1,9,10,11,16,17],0,[]⟩ .n))))) .n)))))) .n))⟩
def bK.B:ByteArray×(List aB)×(List (List ak))×(List bO)×(List bF)×Unit→Option (Int×Unit):=fun (p0_0,p0_1,p0_2,p0_3,p0_4,_)=>
 aN (S:=Int×Unit) (fun (x11,_)=>
 (bif (decide (x11<(p0_3.length:Int))) then
 jn (S:=Unit) (
 ck (ib x11 p0_3.length)<|
 let e1:bO:=(gt p0_3 x11 cX.z)
 aN (S:=Int×Unit) (fun (x18',_)=>
 (bif (decide (x18'<(e1.1.length:Int))) then
 ck (ib x18' e1.1.length)<|
 let e2:ap:=(gt e1.1 x18' ar.z)
 ck (ib x18' p0_1.length)<|
 let e3:aB:=(gt p0_1 x18' aV.z)
 (bif (e2.1 !=e3.2.1) then
 (bif e3.2.2.1 then
 (bif (!(e2.1==(0:Int))) then
 ir (.inr (.inr (x18',())))
 else
 let e4:Int:=(wr (x18'+(1:Int)))
 il (e4,()))
 else
 ir (.inr (.inr (x18',()))))
 else
 let e5:Int:=(wr (x18'+(1:Int)))
 il (e5,()))
 else
 ir (.inl (())))) ((0:Int),())) fun (_)=>
 let e7:Int:=(wr (x11+(1:Int)))
 il (e7,())
 else
 ir ((-1:Int),()))) ((0:Int),())
def bK.F:=stk bK.B
theorem bK.eq:bK.F=bK.B:=aq _
theorem bK.k:Kk eV.s ae.q [] Tryz.f78 bK.d bK.B:={}
def bK.s:SpL:=bK.d.e [] bK.F::eV.s
theorem bK.c:Ck bK.s ae.q:=cS eV.c bK.k
def bD.d:Fe:=⟨79,1,⟨[(0,.v true [.str,.sl 75 aV,.sl 78 (.sl 126 bN),.sl 62 cX,.sl 44 eB])],[],[],0,[]⟩,⟨[(0,.v false [.int .i64])],[],[],1000,[]⟩,(.s none .n (.s none (.s none .n (.b (.l ⟨[(13,.v false [.int .i64])],[],[1,11,12],0,[]⟩ (.s none .n (.s none .n (.s (some ⟨[],[],[1,11,12,13],0,[]⟩) (.b (.s none .n (.s none .n (.s none .n (.s none .n (.b (.l ⟨[(5,.v false [.ref 0]),(25,.v false [.int .i64])],[(0,true,.mp (false,true) .bool)],[1,3,11,12,13,23,24],1,[]⟩ .n))))))) .n)))))) .n))⟩
def bD.B:ByteArray×(List aB)×(List (List ak))×(List bO)×(List bF)×Unit→Option (Int×Unit):=fun (p0_0,p0_1,p0_2,p0_3,p0_4,_)=>
 aN (S:=Int×Unit) (fun (x13,_)=>
 (bif (decide (x13<(p0_1.length:Int))) then
 jn (S:=Unit) (
 ck (ib x13 p0_1.length)<|
 let e1:aB:=(gt p0_1 x13 aV.z)
 (bif (!e1.2.2.2.1) then
 il (())
 else
 aN (S:=Int×(List (Value×Bool))×Unit) (fun (x25',o5_0',_)=>
 (bif (decide (x25'<(p0_3.length:Int))) then
 ck (ib x25' p0_3.length)<|
 let e2:bO:=(gt p0_3 x25' cX.z)
 ck (ib x13 e2.1.length)<|
 let e3:ap:=(gt e2.1 x13 ar.z)
 (bif (e3.1 !=(0:Int)) then
 let e4:Bool:=(Option.getD (getKV (kV e3.1 e3.2.1 e3.2.2) o5_0') false)
 (bif e4 then
 ir (.inr (.inr (x13,())))
 else
 let e5:Int:=(wr (x25'+(1:Int)))
 il (e5,(fe (kV e3.1 e3.2.1 e3.2.2) true o5_0'),()))
 else
 let e6:Int:=(wr (x25'+(1:Int)))
 il (e6,(fe (kV e3.1 e3.2.1 e3.2.2) true o5_0'),()))
 else
 ir (.inl (())))) ((0:Int),([]:List (Value×Bool)),()))) fun (_)=>
 let e8:Int:=(wr (x13+(1:Int)))
 il (e8,())
 else
 ir ((-1:Int),()))) ((0:Int),())
def bD.F:=stk bD.B
theorem bD.eq:bD.F=bD.B:=aq _
theorem bD.k:Kk bK.s ae.q [] Tryz.f79 bD.d bD.B:={}
def bD.s:SpL:=bD.d.e [] bD.F::bK.s
theorem bD.c:Ck bD.s ae.q:=cS bK.c bD.k
def bU.d:Fe:=⟨80,1,⟨[(0,.v true [.str,.sl 75 aV,.sl 78 (.sl 126 bN),.sl 62 cX,.sl 44 eB])],[],[],0,[]⟩,⟨[(0,.v false [.int .i64])],[],[],1000,[]⟩,(.s none .n (.s none (.s none .n (.b (.l ⟨[(14,.v false [.int .i64])],[],[1,12,13],0,[]⟩ (.s none .n (.s none .n (.s (some ⟨[],[],[1,12,13,14],0,[]⟩) (.b (.s none .n (.s none .n (.s none .n (.s (some ⟨[(5,.v false [.ref 0])],[(0,true,.mp (false,true) .bool)],[1,3,12,13,14],1,[]⟩) (.s none .n (.b (.l ⟨[(5,.v false [.ref 0]),(31,.v false [.int .i64])],[(0,true,.mp (false,true) .bool)],[1,3,12,13,14,29,30],1,[]⟩ .n))) (.s none .n (.b (.l ⟨[(44,.v false [.int .i64])],[],[1,3,5,12,13,14,42,43],0,[]⟩ .n)))))))) .n)))))) .n))⟩
def bU.B:ByteArray×(List aB)×(List (List ak))×(List bO)×(List bF)×Unit→Option (Int×Unit):=fun (p0_0,p0_1,p0_2,p0_3,p0_4,_)=>
 aN (S:=Int×Unit) (fun (x14,_)=>
 (bif (decide (x14<(p0_1.length:Int))) then
 jn (S:=Unit) (
 ck (ib x14 p0_1.length)<|
 let e1:aB:=(gt p0_1 x14 aV.z)
 (bif (sq e1.2.2.2.2.1 (⟨#[]⟩:ByteArray)) then
 il (())
 else
 jn (S:=(List (Value×Bool))×Unit) (
 (eV.F (p0_4,e1.2.2.2.2.1,())).bind fun y2=>
 aN (S:=Int×(List (Value×Bool))×Unit) (fun (x31',o5_0',_)=>
 (bif (decide (x31'<(y2.1.length:Int))) then
 ck (ib x31' y2.1.length)<|
 let e3:bO:=(gt y2.1 x31' cX.z)
 ck (ib (0:Int) e3.1.length)<|
 let e4:ap:=(List.getD e3.1 0 ar.z)
 let e5:Int:=(wr (x31'+(1:Int)))
 il (e5,(fe (kV e4.1 e4.2.1 e4.2.2) true o5_0'),())
 else
 ir (.inl (o5_0',())))) ((0:Int),(fe (kV (0:Int) (0:Int) (⟨#[]⟩:ByteArray)) true ([]:List (Value×Bool))),())) fun (o5_0_6,_)=>
 aN (S:=Int×Unit) (fun (x44',_)=>
 (bif (decide (x44'<(p0_3.length:Int))) then
 ck (ib x44' p0_3.length)<|
 let e7:bO:=(gt p0_3 x44' cX.z)
 ck (ib x14 e7.1.length)<|
 let e8:ap:=(gt e7.1 x14 ar.z)
 let e9:Bool:=(Option.getD (getKV (kV e8.1 e8.2.1 e8.2.2) o5_0_6) false)
 (bif (!e9) then
 ir (.inr (.inr (x14,())))
 else
 let e10:Int:=(wr (x44'+(1:Int)))
 il (e10,()))
 else
 ir (.inl (())))) ((0:Int),()))) fun (_)=>
 let e12:Int:=(wr (x14+(1:Int)))
 il (e12,())
 else
 ir ((-1:Int),()))) ((0:Int),())
def bU.F:=stk bU.B
theorem bU.eq:bU.F=bU.B:=aq _
theorem bU.k:Kk bD.s ae.q [] Tryz.f80 bU.d bU.B:={}
def bU.s:SpL:=bU.d.e [] bU.F::bD.s
theorem bU.c:Ck bU.s ae.q:=cS bD.c bU.k
def aG.d:Fe:=⟨193,1,⟨[(0,.v false [.ptr 0 0])],[(0,true,.box 212 [.ref 1,.bool,.sl 47 ar]),(1,true,.arr 47 ar)],[],2,[]⟩,⟨[(0,.v true [.int .i64,.int .i64,.str])],[(0,true,.box 212 [.ref 1001,.bool,.sl 47 ar]),(1001,false,.arr 47 ar)],[],1002,[(0,0)]⟩,.n⟩
def aG.B:Bool×(List ap)×(List ap)×Unit→Option (Int×Int×ByteArray×Bool×(List ap)×(List ap)×Unit):=fun (o0_1,o0_2,o0_0,_)=>
 (bif ((o0_0.length:Int)==(0:Int)) then
 some ((0:Int),(0:Int),(⟨#[]⟩:ByteArray),false,o0_2,o0_0,())
 else
 let e1:Int:=(wr ((o0_0.length:Int)-(1:Int)))
 ck (ib e1 o0_0.length)<|
 let e2:ap:=(List.getD o0_0 (Int.toNat e1) ar.z)
 let e3:Int:=(wr ((o0_0.length:Int)-(1:Int)))
 ck (sb (0:Int) e3 o0_0.length)<|
 some (e2.1,e2.2.1,e2.2.2,o0_1,o0_2,(List.take (Int.toNat e3) o0_0),()))
def aG.F:=stk aG.B
theorem aG.eq:aG.F=aG.B:=aq _
theorem aG.k:Kk bU.s ae.q [] Tryz.f193 aG.d aG.B:={}
def aG.s:SpL:=aG.d.e [] aG.F::bU.s
theorem aG.c:Ck aG.s ae.q:=cS bU.c aG.k
def aK.d:Fe:=⟨194,2,⟨[(0,.v false [.ptr 0 0]),(1,.v true [.int .i64,.int .i64,.str])],[(0,true,.box 212 [.ref 1,.bool,.sl 47 ar]),(1,true,.arr 47 ar)],[],2,[]⟩,⟨[(0,.tup [])],[(0,true,.box 212 [.ref 1001,.bool,.sl 47 ar]),(1001,false,.arr 47 ar)],[],1002,[(0,0)]⟩,.n⟩
def aK.B:Int×Int×ByteArray×Bool×(List ap)×(List ap)×Unit→Option (Bool×(List ap)×(List ap)×Unit):=fun (p1_0,p1_1,p1_2,o0_1,o0_2,o0_0,_)=>
 ck (Nat.ble (o0_0.length+ [(p1_0,(p1_1,p1_2))].length) 4398046511104)<|
 some (o0_1,o0_2,(o0_0++ [(p1_0,(p1_1,p1_2))]),())
def aK.F:=stk aK.B
theorem aK.eq:aK.F=aK.B:=aq _
theorem aK.k:Kk aG.s ae.q [] Tryz.f194 aK.d aK.B:={}
def aK.s:SpL:=aK.d.e [] aK.F::aG.s
theorem aK.c:Ck aK.s ae.q:=cS aG.c aK.k
def dH.d:Fe:=⟨252,2,⟨[(0,.v false [.int .i64]),(1,.v false [.int .i64])],[],[],0,[]⟩,⟨[(0,.tup [(false,[.int .i64]),(false,[.bool])])],[],[],1000,[]⟩,.n⟩
def dH.B:Int×Int×Unit→Option (Int×Bool×Unit):=fun (p0,p1,_)=>
 let e1:Int:=(wr (p0+p1))
 (bif ((decide (e1>p0))==(decide (p1>(0:Int)))) then
 some (e1,true,())
 else
 some (e1,(p1==(0:Int)),()))
def dH.F:=stk dH.B
theorem dH.eq:dH.F=dH.B:=aq _
theorem dH.k:Kk aK.s ae.q [] Tryz.f252 dH.d dH.B:={}
def dH.s:SpL:=dH.d.e [] dH.F::aK.s
theorem dH.c:Ck dH.s ae.q:=cS aK.c dH.k
def ef.d:Fe:=⟨214,2,⟨[(0,.v true [.int .i64,.int .i64,.str]),(1,.v true [.int .i64,.int .i64,.str])],[],[],0,[]⟩,⟨[(0,.tup [(true,[.int .i64,.int .i64,.str]),(false,[.bool])])],[],[],1000,[]⟩,.n⟩
def ef.l:InT:=[(251,[],Tryz.f251,(.s none .n (.s (some ⟨[],[],[2,3,4,6],0,[]⟩) (.b (.s (some ⟨[(10,.v false [.bool])],[],[2,3,4,6],0,[]⟩) .n .n)) (.s (some ⟨[(8,.v false [.int .i64]),(9,.v false [.bool])],[],[6],0,[]⟩) .n .n))))]
def ef.B:Int×Int×ByteArray×Int×Int×ByteArray×Unit→Option (Int×Int×ByteArray×Bool×Unit):=fun (p0_0,p0_1,p0_2,p1_0,p1_1,p1_2,_)=>
 jn (S:=Unit) (
 jn (S:=Bool×Unit) (
 (bif (p0_0==(0:Int)) then
 il (true,())
 else
 il ((p1_0==(0:Int)),()))) fun (x10_1,_)=>
 (bif x10_1 then
 ir ((0:Int),(0:Int),(⟨#[]⟩:ByteArray),true,())
 else
 (bif (p0_0 !=(2:Int)) then
 ir ((0:Int),(0:Int),(⟨#[]⟩:ByteArray),false,())
 else
 (bif (p1_0 !=(2:Int)) then
 ir ((0:Int),(0:Int),(⟨#[]⟩:ByteArray),false,())
 else
 il (()))))) fun (_)=>
 jn (S:=Int×Bool×Unit) (
 (dH.F (p0_1,p1_1,())).bind fun y3=>
 il (y3.1,y3.2.1,())) fun (x8_4,x9_4,_)=>
 (bif (!x9_4) then
 some ((0:Int),(0:Int),(⟨#[]⟩:ByteArray),false,())
 else
 some ((2:Int),x8_4,(⟨#[]⟩:ByteArray),true,()))
def ef.F:=stk ef.B
theorem ef.eq:ef.F=ef.B:=aq _
theorem ef.k:Kk dH.s ae.q ef.l Tryz.f214 ef.d ef.B:={}
def ef.s:SpL:=ef.d.e [] ef.F::dH.s
theorem ef.c:Ck ef.s ae.q:=cS dH.c ef.k
def dI.d:Fe:=⟨253,2,⟨[(0,.v false [.int .i64]),(1,.v false [.int .i64])],[],[],0,[]⟩,⟨[(0,.tup [(false,[.int .i64]),(false,[.bool])])],[],[],1000,[]⟩,.n⟩
def dI.B:Int×Int×Unit→Option (Int×Bool×Unit):=fun (p0,p1,_)=>
 let e1:Int:=(wr (p0-p1))
 (bif ((decide (e1<p0))==(decide (p1>(0:Int)))) then
 some (e1,true,())
 else
 some (e1,(p1==(0:Int)),()))
def dI.F:=stk dI.B
theorem dI.eq:dI.F=dI.B:=aq _
theorem dI.k:Kk ef.s ae.q [] Tryz.f253 dI.d dI.B:={}
def dI.s:SpL:=dI.d.e [] dI.F::ef.s
theorem dI.c:Ck dI.s ae.q:=cS ef.c dI.k
def eg.d:Fe:=⟨215,2,⟨[(0,.v true [.int .i64,.int .i64,.str]),(1,.v true [.int .i64,.int .i64,.str])],[],[],0,[]⟩,⟨[(0,.tup [(true,[.int .i64,.int .i64,.str]),(false,[.bool])])],[],[],1000,[]⟩,.n⟩
def eg.l:InT:=[(251,[],Tryz.f251,(.s none .n (.s (some ⟨[],[],[2,3,4,6],0,[]⟩) (.b (.s (some ⟨[(10,.v false [.bool])],[],[2,3,4,6],0,[]⟩) .n .n)) (.s (some ⟨[(8,.v false [.int .i64]),(9,.v false [.bool])],[],[6],0,[]⟩) .n .n))))]
def eg.B:Int×Int×ByteArray×Int×Int×ByteArray×Unit→Option (Int×Int×ByteArray×Bool×Unit):=fun (p0_0,p0_1,p0_2,p1_0,p1_1,p1_2,_)=>
 jn (S:=Unit) (
 jn (S:=Bool×Unit) (
 (bif (p0_0==(0:Int)) then
 il (true,())
 else
 il ((p1_0==(0:Int)),()))) fun (x10_1,_)=>
 (bif x10_1 then
 ir ((0:Int),(0:Int),(⟨#[]⟩:ByteArray),true,())
 else
 (bif (p0_0 !=(2:Int)) then
 ir ((0:Int),(0:Int),(⟨#[]⟩:ByteArray),false,())
 else
 (bif (p1_0 !=(2:Int)) then
 ir ((0:Int),(0:Int),(⟨#[]⟩:ByteArray),false,())
 else
 il (()))))) fun (_)=>
 jn (S:=Int×Bool×Unit) (
 (dI.F (p0_1,p1_1,())).bind fun y3=>
 il (y3.1,y3.2.1,())) fun (x8_4,x9_4,_)=>
 (bif (!x9_4) then
 some ((0:Int),(0:Int),(⟨#[]⟩:ByteArray),false,())
 else
 some ((2:Int),x8_4,(⟨#[]⟩:ByteArray),true,()))
def eg.F:=stk eg.B
theorem eg.eq:eg.F=eg.B:=aq _
theorem eg.k:Kk dI.s ae.q eg.l Tryz.f215 eg.d eg.B:={}
def eg.s:SpL:=eg.d.e [] eg.F::dI.s
theorem eg.c:Ck eg.s ae.q:=cS dI.c eg.k
def dj.d:Fe:=⟨256,1,⟨[(0,.v false [.int .i64])],[],[],0,[]⟩,⟨[(0,.v false [.int .u64])],[],[],1000,[]⟩,.n⟩
def dj.B:Int×Unit→Option (Int×Unit):=fun (p0,_)=>
 (bif (decide (p0<(0:Int))) then
 some ((IntKind.u64.wrap (0-(IntKind.u64.wrap (p0)))),())
 else
 some ((IntKind.u64.wrap (p0)),()))
def dj.F:=stk dj.B
theorem dj.eq:dj.F=dj.B:=aq _
theorem dj.k:Kk eg.s ae.q [] Tryz.f256 dj.d dj.B:={}
def dj.s:SpL:=dj.d.e [] dj.F::eg.s
theorem dj.c:Ck dj.s ae.q:=cS eg.c dj.k
def dJ.d:Fe:=⟨254,2,⟨[(0,.v false [.int .i64]),(1,.v false [.int .i64])],[],[],0,[]⟩,⟨[(0,.tup [(false,[.int .i64]),(false,[.bool])])],[],[],1000,[]⟩,.n⟩
def dJ.B:Int×Int×Unit→Option (Int×Bool×Unit):=fun (p0,p1,_)=>
 (dj.F (p0,())).bind fun y1=>
 (dj.F (p1,())).bind fun y2=>
 (bX.F (y1.1,y2.1,())).bind fun y3=>
 let e4:Int:=(wr (p0*p1))
 (bif (y3.1==(0:Int)) then
 (bif (decide (y3.2.1<(9223372036854775808:Int))) then
 some (e4,true,())
 else
 (bif (y3.2.1==(9223372036854775808:Int)) then
 some (e4,(!((decide (p0<(0:Int)))==(decide (p1<(0:Int))))),())
 else
 some (e4,false,())))
 else
 some (e4,false,()))
def dJ.F:=stk dJ.B
theorem dJ.eq:dJ.F=dJ.B:=aq _
theorem dJ.k:Kk dj.s ae.q [] Tryz.f254 dJ.d dJ.B:={}
def dJ.s:SpL:=dJ.d.e [] dJ.F::dj.s
theorem dJ.c:Ck dJ.s ae.q:=cS dj.c dJ.k
def eh.d:Fe:=⟨216,2,⟨[(0,.v true [.int .i64,.int .i64,.str]),(1,.v true [.int .i64,.int .i64,.str])],[],[],0,[]⟩,⟨[(0,.tup [(true,[.int .i64,.int .i64,.str]),(false,[.bool])])],[],[],1000,[]⟩,.n⟩
def eh.l:InT:=[(251,[],Tryz.f251,(.s none .n (.s (some ⟨[],[],[2,3,4,6],0,[]⟩) (.b (.s (some ⟨[(10,.v false [.bool])],[],[2,3,4,6],0,[]⟩) .n .n)) (.s (some ⟨[(8,.v false [.int .i64]),(9,.v false [.bool])],[],[6],0,[]⟩) .n .n))))]
def eh.B:Int×Int×ByteArray×Int×Int×ByteArray×Unit→Option (Int×Int×ByteArray×Bool×Unit):=fun (p0_0,p0_1,p0_2,p1_0,p1_1,p1_2,_)=>
 jn (S:=Unit) (
 jn (S:=Bool×Unit) (
 (bif (p0_0==(0:Int)) then
 il (true,())
 else
 il ((p1_0==(0:Int)),()))) fun (x10_1,_)=>
 (bif x10_1 then
 ir ((0:Int),(0:Int),(⟨#[]⟩:ByteArray),true,())
 else
 (bif (p0_0 !=(2:Int)) then
 ir ((0:Int),(0:Int),(⟨#[]⟩:ByteArray),false,())
 else
 (bif (p1_0 !=(2:Int)) then
 ir ((0:Int),(0:Int),(⟨#[]⟩:ByteArray),false,())
 else
 il (()))))) fun (_)=>
 jn (S:=Int×Bool×Unit) (
 (dJ.F (p0_1,p1_1,())).bind fun y3=>
 il (y3.1,y3.2.1,())) fun (x8_4,x9_4,_)=>
 (bif (!x9_4) then
 some ((0:Int),(0:Int),(⟨#[]⟩:ByteArray),false,())
 else
 some ((2:Int),x8_4,(⟨#[]⟩:ByteArray),true,()))
def eh.F:=stk eh.B
theorem eh.eq:eh.F=eh.B:=aq _
theorem eh.k:Kk dJ.s ae.q eh.l Tryz.f216 eh.d eh.B:={}
def eh.s:SpL:=eh.d.e [] eh.F::dJ.s
theorem eh.c:Ck eh.s ae.q:=cS dJ.c eh.k
def cj.d:Fe:=⟨119,1,⟨[(0,.v false [.bool])],[],[],0,[]⟩,⟨[(0,.v true [.int .i64,.int .i64,.str])],[],[],1000,[]⟩,.n⟩
def cj.B:Bool×Unit→Option (Int×Int×ByteArray×Unit):=fun (p0,_)=>
 (bif p0 then
 some ((1:Int),(1:Int),(⟨#[]⟩:ByteArray),())
 else
 some ((1:Int),(0:Int),(⟨#[]⟩:ByteArray),()))
def cj.F:=stk cj.B
theorem cj.eq:cj.F=cj.B:=aq _
theorem cj.k:Kk eh.s ae.q [] Tryz.f119 cj.d cj.B:={}
def cj.s:SpL:=cj.d.e [] cj.F::eh.s
theorem cj.c:Ck cj.s ae.q:=cS eh.c cj.k
def ax.d:Fe:=⟨297,2,⟨[(0,.v false [.sl 47 ar]),(1,.v true [.int .i64,.int .i64,.str])],[],[],0,[]⟩,⟨[(0,.v false [.int .i64])],[],[],1000,[]⟩,(.s none .n (.s none (.s none .n (.b (.l ⟨[(8,.v false [.int .i64])],[],[0,3,7],0,[]⟩ .n))) .n))⟩
def ax.B:(List ap)×Int×Int×ByteArray×Unit→Option (Int×Unit):=fun (p0,p1_0,p1_1,p1_2,_)=>
 aN (S:=Int×Unit) (fun (x8,_)=>
 (bif (decide (x8<(p0.length:Int))) then
 ck (ib x8 p0.length)<|
 let e1:ap:=(gt p0 x8 ar.z)
 (bif (Ty.eq ar (p1_0,(p1_1,p1_2)) e1) then
 ir (x8,())
 else
 let e2:Int:=(wr (x8+(1:Int)))
 il (e2,()))
 else
 ir ((-1:Int),()))) ((0:Int),())
def ax.F:=stk ax.B
theorem ax.eq:ax.F=ax.B:=aq _
theorem ax.k:Kk cj.s ae.q [] Tryz.f297 ax.d ax.B:={}
def ax.s:SpL:=ax.d.e [] ax.F::cj.s
theorem ax.c:Ck ax.s ae.q:=cS cj.c ax.k
def ao.d:Fe:=⟨278,2,⟨[(0,.v false [.sl 47 ar]),(1,.v true [.int .i64,.int .i64,.str])],[],[],0,[]⟩,⟨[(0,.v false [.bool])],[],[],1000,[]⟩,.n⟩
def ao.B:(List ap)×Int×Int×ByteArray×Unit→Option (Bool×Unit):=fun (p0,p1_0,p1_1,p1_2,_)=>
 (ax.F (p0,p1_0,p1_1,p1_2,())).bind fun y1=>
 some ((decide (y1.1≥(0:Int))),())
def ao.F:=stk ao.B
theorem ao.eq:ao.F=ao.B:=aq _
theorem ao.k:Kk ax.s ae.q [] Tryz.f278 ao.d ao.B:={}
def ao.s:SpL:=ao.d.e [] ao.F::ax.s
theorem ao.c:Ck ao.s ae.q:=cS ax.c ao.k
def dF.d:Fe:=⟨257,2,⟨[(0,.v false [.bool]),(1,.v false [.sl 47 ar])],[],[],0,[]⟩,⟨[(0,.v true [.int .i64,.int .i64,.str])],[],[],1000,[]⟩,.n⟩
def dF.l:InT:=[(279,[(1,280)],Tryz.f279,.n),(280,[],Tryz.f280,.n),(298,[(1,280)],Tryz.f298,(.s none .n (.s none (.s none .n (.b (.l ⟨[(8,.v false [.int .i64])],[],[0,1,7],0,[]⟩ (.s none .n (.s none .n (.s none (.b (.s none .n (.s (some ⟨[(16,.v false [.bool])],[],[0,1,5,7,8],0,[]⟩) .n .n))) .n)))))) .n)))]
def dF.B:Bool×(List ap)×Unit→Option (Int×Int×ByteArray×Unit):=fun (p0,p1,_)=>
 (cj.F (p0,())).bind fun y1=>
 (cj.F ((!p0),())).bind fun y2=>
 (ao.F (p1,y1.1,y1.2.1,y1.2.2.1,())).bind fun y3=>
 (bif y3.1 then
 some (y1.1,y1.2.1,y1.2.2.1,())
 else
 aN (S:=Int×Unit) (fun (x8,_)=>
 (bif (decide (x8<(p1.length:Int))) then
 jn (S:=Bool×Unit) (
 ck (ib x8 p1.length)<|
 let e4:ap:=(gt p1 x8 ar.z)
 il ((!(Ty.eq ar e4 (y2.1,(y2.2.1,y2.2.2.1)))),())) fun (x16_5,_)=>
 (bif x16_5 then
 Option.map Sum.inr ((bif (decide (x8≥(0:Int))) then
 some ((0:Int),(0:Int),(⟨#[]⟩:ByteArray),())
 else
 some (y2.1,y2.2.1,y2.2.2.1,())))
 else
 let e6:Int:=(wr (x8+(1:Int)))
 il (e6,()))
 else
 Option.map Sum.inr ((bif (decide ((-1:Int)≥(0:Int))) then
 some ((0:Int),(0:Int),(⟨#[]⟩:ByteArray),())
 else
 some (y2.1,y2.2.1,y2.2.2.1,()))))) ((0:Int),()))
def dF.F:=stk dF.B
theorem dF.eq:dF.F=dF.B:=aq _
theorem dF.k:Kk ao.s ae.q dF.l Tryz.f257 dF.d dF.B:={}
def dF.s:SpL:=dF.d.e [] dF.F::ao.s
theorem dF.c:Ck dF.s ae.q:=cS ao.c dF.k
def eY.d:Fe:=⟨217,1,⟨[(0,.v false [.sl 47 ar])],[],[],0,[]⟩,⟨[(0,.v true [.int .i64,.int .i64,.str])],[],[],1000,[]⟩,.n⟩
def eY.B:(List ap)×Unit→Option (Int×Int×ByteArray×Unit):=fun (p0,_)=>
 (dF.F (false,p0,())).bind fun y1=>
 some (y1.1,y1.2.1,y1.2.2.1,())
def eY.F:=stk eY.B
theorem eY.eq:eY.F=eY.B:=aq _
theorem eY.k:Kk dF.s ae.q [] Tryz.f217 eY.d eY.B:={}
def eY.s:SpL:=eY.d.e [] eY.F::dF.s
theorem eY.c:Ck eY.s ae.q:=cS dF.c eY.k
def fU.d:Fe:=⟨218,1,⟨[(0,.v false [.sl 47 ar])],[],[],0,[]⟩,⟨[(0,.v true [.int .i64,.int .i64,.str])],[],[],1000,[]⟩,.n⟩
def fU.B:(List ap)×Unit→Option (Int×Int×ByteArray×Unit):=fun (p0,_)=>
 (dF.F (true,p0,())).bind fun y1=>
 some (y1.1,y1.2.1,y1.2.2.1,())
def fU.F:=stk fU.B
theorem fU.eq:fU.F=fU.B:=aq _
theorem fU.k:Kk eY.s ae.q [] Tryz.f218 fU.d fU.B:={}
def fU.s:SpL:=fU.d.e [] fU.F::eY.s
theorem fU.c:Ck fU.s ae.q:=cS eY.c fU.k
def eZ.d:Fe:=⟨219,1,⟨[(0,.v true [.int .i64,.int .i64,.str])],[],[],0,[]⟩,⟨[(0,.v true [.int .i64,.int .i64,.str])],[],[],1000,[]⟩,.n⟩
def eZ.B:Int×Int×ByteArray×Unit→Option (Int×Int×ByteArray×Unit):=fun (p0_0,p0_1,p0_2,_)=>
 (cj.F (true,())).bind fun y1=>
 (bif (Ty.eq ar (p0_0,(p0_1,p0_2)) (y1.1,(y1.2.1,y1.2.2.1))) then
 (cj.F (false,())).bind fun y2=>
 some (y2.1,y2.2.1,y2.2.2.1,())
 else
 (cj.F (false,())).bind fun y3=>
 (bif (Ty.eq ar (p0_0,(p0_1,p0_2)) (y3.1,(y3.2.1,y3.2.2.1))) then
 (cj.F (true,())).bind fun y4=>
 some (y4.1,y4.2.1,y4.2.2.1,())
 else
 some ((0:Int),(0:Int),(⟨#[]⟩:ByteArray),())))
def eZ.F:=stk eZ.B
theorem eZ.eq:eZ.F=eZ.B:=aq _
theorem eZ.k:Kk fU.s ae.q [] Tryz.f219 eZ.d eZ.B:={}
def eZ.s:SpL:=eZ.d.e [] eZ.F::fU.s
theorem eZ.c:Ck eZ.s ae.q:=cS fU.c eZ.k
def dw.d:Fe:=⟨220,3,⟨[(0,.v false [.int .i64]),(1,.v true [.int .i64,.int .i64,.str]),(2,.v true [.int .i64,.int .i64,.str])],[],[],0,[]⟩,⟨[(0,.v true [.int .i64,.int .i64,.str])],[],[],1000,[]⟩,(.s none .n (.s (some ⟨[],[],[0,4,5,6],0,[]⟩) .n .n))⟩
def dw.B:Int×Int×Int×ByteArray×Int×Int×ByteArray×Unit→Option (Int×Int×ByteArray×Unit):=fun (p0,p1_0,p1_1,p1_2,p2_0,p2_1,p2_2,_)=>
 jn (S:=Unit) (
 (bif (p1_0==(0:Int)) then
 ir ((0:Int),(0:Int),(⟨#[]⟩:ByteArray),())
 else
 (bif (p2_0==(0:Int)) then
 ir ((0:Int),(0:Int),(⟨#[]⟩:ByteArray),())
 else
 il (())))) fun (_)=>
 (dd.F (p1_0,p1_1,p1_2,p2_0,p2_1,p2_2,())).bind fun y2=>
 (bif (p0==(5:Int)) then
 (bif (y2.1==(0:Int)) then
 (cj.F (true,())).bind fun y3=>
 some (y3.1,y3.2.1,y3.2.2.1,())
 else
 (bif (p0==(6:Int)) then
 (cj.F ((decide (y2.1<(0:Int))),())).bind fun y4=>
 some (y4.1,y4.2.1,y4.2.2.1,())
 else
 (cj.F (false,())).bind fun y5=>
 some (y5.1,y5.2.1,y5.2.2.1,())))
 else
 (bif (p0==(6:Int)) then
 (cj.F ((decide (y2.1<(0:Int))),())).bind fun y6=>
 some (y6.1,y6.2.1,y6.2.2.1,())
 else
 (cj.F (false,())).bind fun y7=>
 some (y7.1,y7.2.1,y7.2.2.1,())))
def dw.F:=stk dw.B
theorem dw.eq:dw.F=dw.B:=aq _
theorem dw.k:Kk eZ.s ae.q [] Tryz.f220 dw.d dw.B:={}
def dw.s:SpL:=dw.d.e [] dw.F::eZ.s
theorem dw.c:Ck dw.s ae.q:=cS eZ.c dw.k
def gy.d:Fe:=⟨196,3,⟨[(0,.v false [.int .i64]),(1,.v true [.int .i64,.int .i64,.str]),(2,.v true [.int .i64,.int .i64,.str])],[],[],0,[]⟩,⟨[(0,.tup [(true,[.int .i64,.int .i64,.str]),(false,[.bool])])],[],[],1000,[]⟩,.n⟩
def gy.B:Int×Int×Int×ByteArray×Int×Int×ByteArray×Unit→Option (Int×Int×ByteArray×Bool×Unit):=fun (p0,p1_0,p1_1,p1_2,p2_0,p2_1,p2_2,_)=>
 (bif (p0==(2:Int)) then
 (ef.F (p1_0,p1_1,p1_2,p2_0,p2_1,p2_2,())).bind fun y1=>
 some (y1.1,y1.2.1,y1.2.2.1,y1.2.2.2.1,())
 else
 (bif (p0==(3:Int)) then
 (eg.F (p1_0,p1_1,p1_2,p2_0,p2_1,p2_2,())).bind fun y2=>
 some (y2.1,y2.2.1,y2.2.2.1,y2.2.2.2.1,())
 else
 (bif (p0==(4:Int)) then
 (eh.F (p1_0,p1_1,p1_2,p2_0,p2_1,p2_2,())).bind fun y3=>
 some (y3.1,y3.2.1,y3.2.2.1,y3.2.2.2.1,())
 else
 (bif (p0==(7:Int)) then
 (eY.F ([(p1_0,(p1_1,p1_2)),(p2_0,(p2_1,p2_2))],())).bind fun y4=>
 some (y4.1,y4.2.1,y4.2.2.1,true,())
 else
 (bif (p0==(8:Int)) then
 (fU.F ([(p1_0,(p1_1,p1_2)),(p2_0,(p2_1,p2_2))],())).bind fun y5=>
 some (y5.1,y5.2.1,y5.2.2.1,true,())
 else
 (bif (p0==(9:Int)) then
 (eZ.F (p2_0,p2_1,p2_2,())).bind fun y6=>
 some (y6.1,y6.2.1,y6.2.2.1,true,())
 else
 (bif (p0==(10:Int)) then
 (cj.F ((p2_0==(0:Int)),())).bind fun y7=>
 some (y7.1,y7.2.1,y7.2.2.1,true,())
 else
 (dw.F (p0,p1_0,p1_1,p1_2,p2_0,p2_1,p2_2,())).bind fun y8=>
 some (y8.1,y8.2.1,y8.2.2.1,true,()))))))))
def gy.F:=stk gy.B
theorem gy.eq:gy.F=gy.B:=aq _
theorem gy.k:Kk dw.s ae.q [] Tryz.f196 gy.d gy.B:={}
def gy.s:SpL:=gy.d.e [] gy.F::dw.s
theorem gy.c:Ck gy.s ae.q:=cS dw.c gy.k
def bz.d:Fe:=⟨160,2,⟨[(0,.v false [.ptr 0 0]),(1,.v true [.int .i64,.int .i64,.int .i64,.int .i64,.str])],[(0,true,.box 212 [.ref 1,.bool,.sl 47 ar]),(1,true,.arr 47 ar)],[],2,[]⟩,⟨[(0,.v false [.int .i64])],[(0,true,.box 212 [.ref 1001,.bool,.sl 47 ar]),(1001,false,.arr 47 ar)],[],1002,[(0,0)]⟩,(.s none .n (.s none .n (.s none .n (.s (some ⟨[(0,.v false [.ptr 0 0]),(6,.v false [.ptr 2 0])],[(0,true,.box 212 [.ref 1,.bool,.sl 47 ar]),(1,false,.arr 47 ar),(2,true,.box 47 [.int .i64,.int .i64,.str])],[3,5,7],3,[]⟩) .n (.s (some ⟨[(0,.v false [.ptr 0 0]),(5,.v false [.ptr 2 0])],[(0,true,.box 212 [.ref 1,.bool,.sl 47 ar]),(1,false,.arr 47 ar),(2,true,.box 47 [.int .i64,.int .i64,.str])],[3,6,7],3,[]⟩) .n (.s none (.b (.s (some ⟨[(28,.v false [.bool])],[],[0,3,5,6,7],0,[]⟩) .n .n)) .n))))))⟩
def bz.B:Int×Int×Int×Int×ByteArray×Bool×(List ap)×(List ap)×Unit→Option (Int×Bool×(List ap)×(List ap)×Unit):=fun (p1_0,p1_1,p1_2,p1_3,p1_4,o0_1,o0_2,o0_0,_)=>
 (dN.F (p1_0,())).bind fun y1=>
 jn (S:=Bool×(List ap)×(List ap)×Int×Int×ByteArray×Unit) (
 (bif (decide (y1.1>(0:Int))) then
 (aG.F (o0_1,o0_2,o0_0,())).bind fun y2=>
 il (y2.2.2.2.1,y2.2.2.2.2.1,y2.2.2.2.2.2.1,y2.1,y2.2.1,y2.2.2.1,())
 else
 il (o0_1,o0_2,o0_0,(0:Int),(0:Int),(⟨#[]⟩:ByteArray),()))) fun (o0_0_1_3,o0_0_2_3,o0_0_0_3,o6_0_0_3,o6_0_1_3,o6_0_2_3,_)=>
 jn (S:=Bool×(List ap)×(List ap)×Int×Int×ByteArray×Unit) (
 (bif (decide (y1.1>(1:Int))) then
 (aG.F (o0_0_1_3,o0_0_2_3,o0_0_0_3,())).bind fun y4=>
 il (y4.2.2.2.1,y4.2.2.2.2.1,y4.2.2.2.2.2.1,y4.1,y4.2.1,y4.2.2.1,())
 else
 il (o0_0_1_3,o0_0_2_3,o0_0_0_3,(0:Int),(0:Int),(⟨#[]⟩:ByteArray),()))) fun (o0_0_1_5,o0_0_2_5,o0_0_0_5,o5_0_0_5,o5_0_1_5,o5_0_2_5,_)=>
 jn (S:=Bool×Unit) (
 (bif (!o0_0_1_5) then
 il (true,())
 else
 il ((decide (y1.1<(0:Int))),()))) fun (x28_6,_)=>
 (bif x28_6 then
 some ((30:Int),o0_0_1_5,o0_0_2_5,o0_0_0_5,())
 else
 (bif (p1_0==(0:Int)) then
 (bif (decide (p1_1<(0:Int))) then
 some ((30:Int),o0_0_1_5,o0_0_2_5,o0_0_0_5,())
 else
 (bif (decide (p1_1≥(o0_0_2_5.length:Int))) then
 some ((30:Int),o0_0_1_5,o0_0_2_5,o0_0_0_5,())
 else
 ck (ib p1_1 o0_0_2_5.length)<|
 let e7:ap:=(gt o0_0_2_5 p1_1 ar.z)
 (aK.F (e7.1,e7.2.1,e7.2.2,o0_0_1_5,o0_0_2_5,o0_0_0_5,())).bind fun y8=>
 some ((0:Int),y8.1,y8.2.1,y8.2.2.1,())))
 else
 (bif (p1_0==(1:Int)) then
 (dz.F (p1_2,p1_3,p1_4,())).bind fun y9=>
 (bif (!y9.1) then
 some ((30:Int),o0_0_1_5,o0_0_2_5,o0_0_0_5,())
 else
 (aK.F (p1_2,p1_3,p1_4,o0_0_1_5,o0_0_2_5,o0_0_0_5,())).bind fun y10=>
 some ((0:Int),y10.1,y10.2.1,y10.2.2.1,()))
 else
 let e11:Int:=(wr ((2:Int)-y1.1))
 ck (sb e11 ([o5_0_0_5,o6_0_0_3].length:Int) [o5_0_0_5,o6_0_0_3].length)<|
 (cE.F (p1_0,(List.take (Int.toNat ([o5_0_0_5,o6_0_0_3].length:Int)-Int.toNat e11:Nat) (List.drop (Int.toNat e11) [o5_0_0_5,o6_0_0_3])),())).bind fun y12=>
 (bif (!y12.2.1) then
 some ((30:Int),o0_0_1_5,o0_0_2_5,o0_0_0_5,())
 else
 (gy.F (p1_0,o5_0_0_5,o5_0_1_5,o5_0_2_5,o6_0_0_3,o6_0_1_3,o6_0_2_3,())).bind fun y13=>
 (bif (!y13.2.2.2.1) then
 some ((31:Int),o0_0_1_5,o0_0_2_5,o0_0_0_5,())
 else
 (aK.F (y13.1,y13.2.1,y13.2.2.1,o0_0_1_5,o0_0_2_5,o0_0_0_5,())).bind fun y14=>
 some ((0:Int),y14.1,y14.2.1,y14.2.2.1,()))))))
def bz.F:=stk bz.B
theorem bz.eq:bz.F=bz.B:=aq _
theorem bz.k:Kk gy.s ae.q [] Tryz.f160 bz.d bz.B:={}
def bz.s:SpL:=bz.d.e [] bz.F::gy.s
theorem bz.c:Ck bz.s ae.q:=cS gy.c bz.k
def bj.d:Fe:=⟨161,1,⟨[(0,.v false [.ptr 0 0])],[(0,true,.box 212 [.ref 1,.bool,.sl 47 ar]),(1,true,.arr 47 ar)],[],2,[]⟩,⟨[(0,.tup [(true,[.int .i64,.int .i64,.str]),(false,[.bool])])],[(0,true,.box 212 [.ref 1001,.bool,.sl 47 ar]),(1001,false,.arr 47 ar)],[],1002,[(0,0)]⟩,.n⟩
def bj.B:Bool×(List ap)×(List ap)×Unit→Option (Int×Int×ByteArray×Bool×Bool×(List ap)×(List ap)×Unit):=fun (o0_1,o0_2,o0_0,_)=>
 (bif (!o0_1) then
 some ((0:Int),(0:Int),(⟨#[]⟩:ByteArray),false,o0_1,o0_2,o0_0,())
 else
 (bif ((o0_0.length:Int) !=(1:Int)) then
 some ((0:Int),(0:Int),(⟨#[]⟩:ByteArray),false,o0_1,o0_2,o0_0,())
 else
 ck (ib (0:Int) o0_0.length)<|
 let e1:ap:=(List.getD o0_0 0 ar.z)
 some (e1.1,e1.2.1,e1.2.2,true,o0_1,o0_2,o0_0,())))
def bj.F:=stk bj.B
theorem bj.eq:bj.F=bj.B:=aq _
theorem bj.k:Kk bz.s ae.q [] Tryz.f161 bj.d bj.B:={}
def bj.s:SpL:=bj.d.e [] bj.F::bz.s
theorem bj.c:Ck bj.s ae.q:=cS bz.c bj.k
def eM.d:Fe:=⟨118,2,⟨[(0,.v false [.sl 126 bN]),(1,.v false [.sl 47 ar])],[],[],0,[]⟩,⟨[(0,.tup [(true,[.int .i64,.int .i64,.str]),(false,[.int .i64])])],[],[],1000,[]⟩,(.s none .n (.s none .n (.s none .n (.s none .n (.s (some ⟨[(6,.v false [.ptr 0 0])],[(0,true,.box 212 [.ref 1,.bool,.sl 47 ar]),(1,false,.arr 47 ar)],[4],2,[]⟩) (.s none .n (.b (.l ⟨[(6,.v false [.ptr 0 0]),(25,.v false [.int .i64])],[(0,true,.box 212 [.ref 1,.bool,.sl 47 ar]),(1,false,.arr 47 ar)],[4,23,24],2,[]⟩ .n))) .n)))))⟩
def eM.B:(List ak)×(List ap)×Unit→Option (Int×Int×ByteArray×Int×Unit):=fun (p0,p1,_)=>
 (bif (decide ((p0.length:Int)>(100:Int))) then
 some ((0:Int),(0:Int),(⟨#[]⟩:ByteArray),(1:Int),())
 else
 jn (S:=Bool×(List ap)×(List ap)×Unit) (
 aN (S:=Int×Bool×(List ap)×(List ap)×Unit) (fun (x25,o6_0_1,o6_0_2,o6_0_0,_)=>
 (bif (decide (x25<(p0.length:Int))) then
 ck (ib x25 p0.length)<|
 let e1:ak:=(gt p0 x25 bN.z)
 (bz.F (e1.1,e1.2.1,e1.2.2.1,e1.2.2.2.1,e1.2.2.2.2,o6_0_1,o6_0_2,o6_0_0,())).bind fun y2=>
 (bif (y2.1 !=(0:Int)) then
 ir (.inr ((0:Int),(0:Int),(⟨#[]⟩:ByteArray),y2.1,()))
 else
 let e3:Int:=(wr (x25+(1:Int)))
 il (e3,y2.2.1,y2.2.2.1,y2.2.2.2.1,()))
 else
 ir (.inl (o6_0_1,o6_0_2,o6_0_0,())))) ((0:Int),true,p1,[],())) fun (o6_0_1_4,o6_0_2_4,o6_0_0_4,_)=>
 (bj.F (o6_0_1_4,o6_0_2_4,o6_0_0_4,())).bind fun y5=>
 (bif y5.2.2.2.1 then
 some (y5.1,y5.2.1,y5.2.2.1,(0:Int),())
 else
 some ((0:Int),(0:Int),(⟨#[]⟩:ByteArray),(30:Int),())))
def eM.F:=stk eM.B
theorem eM.eq:eM.F=eM.B:=aq _
theorem eM.k:Kk bj.s ae.q [] Tryz.f118 eM.d eM.B:={}
def eM.s:SpL:=eM.d.e [] eM.F::bj.s
theorem eM.c:Ck eM.s ae.q:=cS bj.c eM.k
def bE.d:Fe:=⟨81,1,⟨[(0,.v true [.str,.sl 75 aV,.sl 78 (.sl 126 bN),.sl 62 cX,.sl 44 eB])],[],[],0,[]⟩,⟨[(0,.tup [(false,[.int .i64]),(false,[.int .i64])])],[],[],1000,[]⟩,(.s none .n (.s none (.s none .n (.b (.l ⟨[(14,.v false [.int .i64])],[],[1,12,13],0,[]⟩ (.s none .n (.s none .n (.s (some ⟨[],[],[1,12,13,14],0,[]⟩) (.b (.s none .n (.s none .n (.b (.l ⟨[(22,.v false [.int .i64])],[],[1,4,5,12,13,14,20,21],0,[]⟩ .n))))) .n)))))) .n))⟩
def bE.B:ByteArray×(List aB)×(List (List ak))×(List bO)×(List bF)×Unit→Option (Int×Int×Unit):=fun (p0_0,p0_1,p0_2,p0_3,p0_4,_)=>
 aN (S:=Int×Unit) (fun (x14,_)=>
 (bif (decide (x14<(p0_2.length:Int))) then
 jn (S:=Unit) (
 ck (ib x14 p0_2.length)<|
 let e1:(List ak):=(gt p0_2 x14 [])
 aN (S:=Int×Unit) (fun (x22',_)=>
 (bif (decide (x22'<(p0_3.length:Int))) then
 ck (ib x22' p0_3.length)<|
 let e2:bO:=(gt p0_3 x22' cX.z)
 (eM.F (e1,e2.1,())).bind fun y3=>
 (bif (y3.2.2.2.1 !=(0:Int)) then
 ir (.inr (.inr (x14,y3.2.2.2.1,())))
 else
 (cj.F (false,())).bind fun y4=>
 (bif (Ty.eq ar (y3.1,(y3.2.1,y3.2.2.1)) (y4.1,(y4.2.1,y4.2.2.1))) then
 ir (.inr (.inr (x14,(183:Int),())))
 else
 let e5:Int:=(wr (x22'+(1:Int)))
 il (e5,())))
 else
 ir (.inl (())))) ((0:Int),())) fun (_)=>
 let e7:Int:=(wr (x14+(1:Int)))
 il (e7,())
 else
 ir ((-1:Int),(0:Int),()))) ((0:Int),())
def bE.F:=stk bE.B
theorem bE.eq:bE.F=bE.B:=aq _
theorem bE.k:Kk eM.s ae.q [] Tryz.f81 bE.d bE.B:={}
def bE.s:SpL:=bE.d.e [] bE.F::eM.s
theorem bE.c:Ck bE.s ae.q:=cS eM.c bE.k
def cN.d:Fe:=⟨43,2,⟨[(0,.v true [.str,.sl 75 aV,.sl 78 (.sl 126 bN)]),(1,.v false [.sl 44 eB])],[],[],0,[]⟩,⟨[(0,.v true [.int .i64,.str,.int .i64])],[],[],1000,[]⟩,(.s none .n (.s none .n (.s (some ⟨[],[],[2,4,5],0,[]⟩) (.s none .n (.b (.c (.s none .n (.s none .n (.s none (.b (.s none .n (.s (some ⟨[(8,.v false [.int .i64])],[],[2,4,5,7,27,28,29],0,[]⟩) .n .n))) .n))) (.c (.s none .n (.s none .n (.s none (.b (.s none .n (.s (some ⟨[(8,.v false [.int .i64])],[],[2,4,5,7,27,28,29],0,[]⟩) .n .n))) .n))) (.c (.s none .n (.s none .n (.s none (.b (.s none .n (.s (some ⟨[(8,.v false [.int .i64])],[],[2,4,5,7,27,28,29],0,[]⟩) .n .n))) .n))) (.c .n .n)))))) .n)))⟩
def cN.B:ByteArray×(List aB)×(List (List ak))×(List bF)×Unit→Option (Int×ByteArray×Int×Unit):=fun (p0_0,p0_1,p0_2,p1,_)=>
 (eV.F (p1,p0_0,())).bind fun y1=>
 jn (S:=Unit) (
 jn (S:=Int×Unit) (
 (bK.F (p0_0,p0_1,p0_2,y1.1,p1,())).bind fun y2=>
 il (y2.1,())) fun (x8_3,_)=>
 (bif (decide (x8_3≥(0:Int))) then
 ir ((180:Int),p0_0,x8_3,())
 else
 jn (S:=Int×Unit) (
 (bD.F (p0_0,p0_1,p0_2,y1.1,p1,())).bind fun y4=>
 il (y4.1,())) fun (x8_5,_)=>
 (bif (decide (x8_5≥(0:Int))) then
 ir ((181:Int),p0_0,x8_5,())
 else
 jn (S:=Int×Unit) (
 (bU.F (p0_0,p0_1,p0_2,y1.1,p1,())).bind fun y6=>
 il (y6.1,())) fun (x8_7,_)=>
 (bif (decide (x8_7≥(0:Int))) then
 ir ((182:Int),p0_0,x8_7,())
 else
 il (()))))) fun (_)=>
 (bE.F (p0_0,p0_1,p0_2,y1.1,p1,())).bind fun y9=>
 (bif (y9.2.1 !=(0:Int)) then
 some (y9.2.1,p0_0,y9.1,())
 else
 some ((0:Int),(⟨#[]⟩:ByteArray),(0:Int),()))
def cN.F:=stk cN.B
theorem cN.eq:cN.F=cN.B:=aq _
theorem cN.k:Kk bE.s ae.q [] Tryz.f43 cN.d cN.B:={}
def cN.s:SpL:=cN.d.e [] cN.F::bE.s
theorem cN.c:Ck cN.s ae.q:=cS bE.c cN.k
def cO.d:Fe:=⟨13,2,⟨[(0,.v false [.sl 84 gF]),(1,.v false [.sl 44 eB])],[],[],0,[]⟩,⟨[(0,.v true [.int .i64,.str,.int .i64])],[],[],1000,[]⟩,(.s none .n (.s none .n (.s (some ⟨[],[],[4],0,[]⟩) (.s none .n (.b (.l ⟨[(15,.v false [.int .i64])],[],[1,4,13,14],0,[]⟩ .n))) .n)))⟩
def cO.B:(List bL)×(List bF)×Unit→Option (Int×ByteArray×Int×Unit):=fun (p0,p1,_)=>
 (di.F (p0,p1,())).bind fun y1=>
 (bif (!y1.1) then
 some ((1:Int),(⟨#[]⟩:ByteArray),(0:Int),())
 else
 jn (S:=Unit) (
 aN (S:=Int×Unit) (fun (x15,_)=>
 (bif (decide (x15<(p0.length:Int))) then
 ck (ib x15 p0.length)<|
 let e2:bL:=(gt p0 x15 gF.z)
 (bif (e2.1 !=(0:Int)) then
 let e3:Int:=(wr (x15+(1:Int)))
 il (e3,())
 else
 (cN.F (e2.2.1.1,e2.2.1.2.1,e2.2.1.2.2,p1,())).bind fun y4=>
 (bif (y4.1 !=(0:Int)) then
 ir (.inr (y4.1,y4.2.1,y4.2.2.1,()))
 else
 let e5:Int:=(wr (x15+(1:Int)))
 il (e5,())))
 else
 ir (.inl (())))) ((0:Int),())) fun (_)=>
 some ((0:Int),(⟨#[]⟩:ByteArray),(0:Int),()))
def cO.F:=stk cO.B
theorem cO.eq:cO.F=cO.B:=aq _
theorem cO.k:Kk cN.s ae.q [] Tryz.f13 cO.d cO.B:={}
def cO.s:SpL:=cO.d.e [] cO.F::cN.s
theorem cO.c:Ck cO.s ae.q:=cS cN.c cO.k
def gP.d:Fe:=⟨41,0,⟨[],[],[],0,[]⟩,⟨[(0,.v false [.ref 1000])],[(1000,false,.arr 84 gF)],[],1001,[]⟩,.n⟩
def gP.B:Unit→Option ((List bL)×Unit):=fun (_)=>
 (d8.F ((9:Int),())).bind fun y1=>
 some ([((0:Int),(((⟨#[116]⟩:ByteArray),([((⟨#[107]⟩:ByteArray),((2:Int),(false,(false,((⟨#[]⟩:ByteArray),(0:Int))))))],([]:List (List ak)))),((⟨#[]⟩:ByteArray),((⟨#[]⟩:ByteArray),((⟨#[]⟩:ByteArray),(((0:Int),(0:Int)),(([]:List ak),(([]:List Int),(false,([]:List cU)))))))))),((0:Int),(((⟨#[117]⟩:ByteArray),([((⟨#[107]⟩:ByteArray),((2:Int),(false,(false,((⟨#[]⟩:ByteArray),(0:Int)))))),((⟨#[97]⟩:ByteArray),((2:Int),(true,(true,((⟨#[116]⟩:ByteArray),(0:Int))))))],[[((0:Int),((0:Int),((0:Int),((0:Int),(⟨#[]⟩:ByteArray))))),((1:Int),((0:Int),(y1.1,(y1.2.1,y1.2.2.1)))),((6:Int),((0:Int),((0:Int),((0:Int),(⟨#[]⟩:ByteArray)))))]])),((⟨#[]⟩:ByteArray),((⟨#[]⟩:ByteArray),((⟨#[]⟩:ByteArray),(((0:Int),(0:Int)),(([]:List ak),(([]:List Int),(false,([]:List cU))))))))))],())
def gP.F:=stk gP.B
theorem gP.k:Kk cO.s ae.q [] Tryz.f41 gP.d gP.B:={}
def gP.s:SpL:=gP.d.e [] gP.F::cO.s
theorem gP.c:Ck gP.s ae.q:=cS cO.c gP.k
def iw.d:Fe:=⟨60,3,⟨[(0,.v false [.sl 62 cX]),(1,.v false [.sl 47 ar]),(2,.v false [.int .i64])],[],[],0,[]⟩,⟨[(0,.v false [.ref 1000])],[(1000,false,.arr 62 cX)],[],1001,[]⟩,(.s none .n (.s none .n (.s none .n (.s (some ⟨[(7,.v false [.ref 0]),(8,.v false [.bool])],[(0,false,.arr 62 cX)],[1,2],1,[]⟩) (.s none .n (.b (.l ⟨[(7,.v false [.ref 0]),(8,.v false [.bool]),(9,.v false [.int .i64])],[(0,false,.arr 62 cX)],[0,1,2],1,[]⟩ (.s none .n (.s none (.b (.s none .n (.s (some ⟨[(7,.v false [.ref 0]),(8,.v false [.bool])],[(0,false,.arr 62 cX)],[0,1,2,9,10],1,[]⟩) (.s (some ⟨[(31,.v false [.bool])],[],[0,1,2,7,8,9,10],0,[]⟩) .n .n) .n))) .n))))) .n))))⟩
def iw.B:(List bO)×(List ap)×Int×Unit→Option ((List bO)×Unit):=fun (p0,p1,p2,_)=>
 jn (S:=Bool×(List bO)×Unit) (
 aN (S:=Bool×Int×(List bO)×Unit) (fun (x8,x9,o7_0,_)=>
 (bif (decide (x9<(p0.length:Int))) then
 ck (ib x9 p0.length)<|
 let e1:bO:=(gt p0 x9 cX.z)
 (dy.F (e1.1,p1,())).bind fun y2=>
 jn (S:=Bool×(List bO)×Unit) (
 jn (S:=Bool×Unit) (
 (bif (decide (y2.1≥(0:Int))) then
 il ((!x8),())
 else
 il (false,()))) fun (x31_3,_)=>
 (bif x31_3 then
 (bif (y2.1==(0:Int)) then
 ck (ib x9 p0.length)<|
 let e4:bO:=(gt p0 x9 cX.z)
 let e5:Int:=(wr (p2+e4.2))
 (bif (e5 !=(0:Int)) then
 ck (Nat.ble (o7_0.length+ [(p1,e5)].length) 4398046511104)<|
 il (true,(o7_0++ [(p1,e5)]),())
 else
 il (true,o7_0,()))
 else
 (bif (p2 !=(0:Int)) then
 ck (Nat.ble (o7_0.length+ [(p1,p2)].length) 4398046511104)<|
 il (true,(o7_0++ [(p1,p2)]),())
 else
 il (true,o7_0,())))
 else
 il (x8,o7_0,()))) fun (x8_6,o7_0_6,_)=>
 (bif (y2.1 !=(0:Int)) then
 ck (ib x9 p0.length)<|
 let e7:bO:=(gt p0 x9 cX.z)
 ck (Nat.ble (o7_0_6.length+ [e7].length) 4398046511104)<|
 let e8:Int:=(wr (x9+(1:Int)))
 il (x8_6,e8,(o7_0_6++ [e7]),())
 else
 let e9:Int:=(wr (x9+(1:Int)))
 il (x8_6,e9,o7_0_6,()))
 else
 ir (.inl (x8,o7_0,())))) (false,(0:Int),([]:List bO),())) fun (x8_10,o7_0_10,_)=>
 (bif (!x8_10) then
 (bif (p2 !=(0:Int)) then
 ck (Nat.ble (o7_0_10.length+ [(p1,p2)].length) 4398046511104)<|
 some ((o7_0_10++ [(p1,p2)]),())
 else
 some (o7_0_10,()))
 else
 some (o7_0_10,()))
def iw.F:=stk iw.B
theorem iw.k:Kk gP.s ae.q [] Tryz.f60 iw.d iw.B:={}
def iw.s:SpL:=iw.d.e [] iw.F::gP.s
theorem iw.c:Ck iw.s ae.q:=cS gP.c iw.k
def iX.d:Fe:=⟨36,1,⟨[(0,.v false [.sl 58 (.sl 47 ar)])],[],[],0,[]⟩,⟨[(0,.v false [.ref 1000])],[(1000,false,.arr 62 cX)],[],1001,[]⟩,(.s none .n (.s none .n (.s none (.s none .n (.b (.l ⟨[(3,.v false [.ref 0]),(4,.v false [.int .i64])],[(0,false,.arr 62 cX)],[0],1,[]⟩ .n))) .n)))⟩
def iX.B:(List (List ap))×Unit→Option ((List bO)×Unit):=fun (p0,_)=>
 aN (S:=Int×(List bO)×Unit) (fun (x4,o3_0,_)=>
 (bif (decide (x4<(p0.length:Int))) then
 ck (ib x4 p0.length)<|
 let e1:(List ap):=(gt p0 x4 [])
 (fT.F (e1,())).bind fun y2=>
 (bif (!y2.1) then
 ir ([],())
 else
 ck (ib x4 p0.length)<|
 let e3:(List ap):=(gt p0 x4 [])
 (iw.F (o3_0,e3,(1:Int),())).bind fun y4=>
 let e5:Int:=(wr (x4+(1:Int)))
 il (e5,y4.1,()))
 else
 ir (o3_0,()))) ((0:Int),([]:List bO),())
def iX.F:=stk iX.B
theorem iX.k:Kk iw.s ae.q [] Tryz.f36 iX.d iX.B:={}
def iX.s:SpL:=iX.d.e [] iX.F::iw.s
theorem iX.c:Ck iX.s ae.q:=cS iw.c iX.k
def gp.d:Fe:=⟨42,1,⟨[(0,.v false [.sl 58 (.sl 47 ar)])],[],[],0,[]⟩,⟨[(0,.v false [.ref 1000])],[(1000,false,.arr 44 eB)],[],1001,[]⟩,.n⟩
def gp.B:(List (List ap))×Unit→Option ((List bF)×Unit):=fun (p0,_)=>
 (d8.F ((1:Int),())).bind fun y1=>
 (iX.F ([[(y1.1,(y1.2.1,y1.2.2.1))]],())).bind fun y2=>
 (iX.F (p0,())).bind fun y3=>
 some ([((⟨#[116]⟩:ByteArray),y2.1),((⟨#[117]⟩:ByteArray),y3.1)],())
def gp.F:=stk gp.B
theorem gp.k:Kk iX.s ae.q [] Tryz.f42 gp.d gp.B:={}
def gp.s:SpL:=gp.d.e [] gp.F::iX.s
theorem gp.c:Ck gp.s ae.q:=cS iX.c gp.k
def dK.d:Fe:=⟨15,3,⟨[(0,.v false [.sl 84 gF]),(1,.v false [.sl 44 eB]),(2,.v false [.str])],[],[],0,[]⟩,⟨[(0,.v true [.int .i64,.str,.int .i64])],[],[],1000,[]⟩,(.s none .n (.s none .n (.s (some ⟨[],[],[0,1,6,7],0,[]⟩) .n .n)))⟩
def dK.B:(List bL)×(List bF)×ByteArray×Unit→Option (Int×ByteArray×Int×Unit):=fun (p0,p1,p2,_)=>
 (cK.F (p0,p2,())).bind fun y1=>
 jn (S:=Unit) (
 (bif (decide (y1.1<(0:Int))) then
 ir ((1:Int),(⟨#[]⟩:ByteArray),(0:Int),())
 else
 (di.F (p0,p1,())).bind fun y2=>
 (bif (!y2.1) then
 ir ((1:Int),(⟨#[]⟩:ByteArray),(0:Int),())
 else
 ck (ib y1.1 p0.length)<|
 let e3:bL:=(gt p0 y1.1 gF.z)
 (bif (e3.1 !=(0:Int)) then
 ir ((1:Int),(⟨#[]⟩:ByteArray),(0:Int),())
 else
 il (()))))) fun (_)=>
 ck (ib y1.1 p0.length)<|
 let e5:bL:=(gt p0 y1.1 gF.z)
 (cN.F (e5.2.1.1,e5.2.1.2.1,e5.2.1.2.2,p1,())).bind fun y6=>
 some (y6.1,y6.2.1,y6.2.2.1,())
def dK.F:=stk dK.B
theorem dK.eq:dK.F=dK.B:=aq _
theorem dK.k:Kk gp.s ae.q [] Tryz.f15 dK.d dK.B:={}
def dK.s:SpL:=dK.d.e [] dK.F::gp.s
theorem dK.c:Ck dK.s ae.q:=cS gp.c dK.k
def fV.d:Fe:=⟨12,0,⟨[],[],[],0,[]⟩,⟨[(0,.v false [.bool])],[],[],1000,[]⟩,.n⟩
def fV.B:Unit→Option (Bool×Unit):=fun (_)=>
 (gP.F (())).bind fun y1=>
 (d8.F ((7:Int),())).bind fun y2=>
 (d8.F ((1:Int),())).bind fun y3=>
 (d8.F ((8:Int),())).bind fun y4=>
 (gp.F ([[(y2.1,(y2.2.1,y2.2.2.1)),(y3.1,(y3.2.1,y3.2.2.1))],[(y4.1,(y4.2.1,y4.2.2.1)),((0:Int),((0:Int),(⟨#[]⟩:ByteArray)))]],())).bind fun y5=>
 (cO.F (y1.1,y5.1,())).bind fun y6=>
 (gP.F (())).bind fun y7=>
 (d8.F ((7:Int),())).bind fun y8=>
 (d8.F ((2:Int),())).bind fun y9=>
 (gp.F ([[(y8.1,(y8.2.1,y8.2.2.1)),(y9.1,(y9.2.1,y9.2.2.1))]],())).bind fun y10=>
 (cO.F (y7.1,y10.1,())).bind fun y11=>
 (gP.F (())).bind fun y12=>
 (d8.F ((7:Int),())).bind fun y13=>
 (d8.F ((1:Int),())).bind fun y14=>
 (d8.F ((8:Int),())).bind fun y15=>
 (d8.F ((1:Int),())).bind fun y16=>
 (gp.F ([[(y13.1,(y13.2.1,y13.2.2.1)),(y14.1,(y14.2.1,y14.2.2.1))],[(y15.1,(y15.2.1,y15.2.2.1)),(y16.1,(y16.2.1,y16.2.2.1))]],())).bind fun y17=>
 (cO.F (y12.1,y17.1,())).bind fun y18=>
 (gP.F (())).bind fun y19=>
 (d8.F ((9:Int),())).bind fun y20=>
 (gp.F ([[(y20.1,(y20.2.1,y20.2.2.1)),((0:Int),((0:Int),(⟨#[]⟩:ByteArray)))]],())).bind fun y21=>
 (dK.F (y19.1,y21.1,(⟨#[117]⟩:ByteArray),())).bind fun y22=>
 (gP.F (())).bind fun y23=>
 (gp.F ([[((3:Int),((0:Int),(⟨#[97]⟩:ByteArray))),((0:Int),((0:Int),(⟨#[]⟩:ByteArray)))]],())).bind fun y24=>
 (cO.F (y23.1,y24.1,())).bind fun y25=>
 (bif (Ty.eq iu (y6.1,(y6.2.1,y6.2.2.1)) ((0:Int),((⟨#[]⟩:ByteArray),(0:Int)))) then
 (bif (Ty.eq iu (y11.1,(y11.2.1,y11.2.2.1)) ((182:Int),((⟨#[117]⟩:ByteArray),(1:Int)))) then
 (bif (Ty.eq iu (y18.1,(y18.2.1,y18.2.2.1)) ((181:Int),((⟨#[117]⟩:ByteArray),(1:Int)))) then
 (bif (Ty.eq iu (y22.1,(y22.2.1,y22.2.2.1)) ((183:Int),((⟨#[117]⟩:ByteArray),(0:Int)))) then
 (bif (Ty.eq iu (y25.1,(y25.2.1,y25.2.2.1)) ((180:Int),((⟨#[117]⟩:ByteArray),(0:Int)))) then
 (gP.F (())).bind fun y26=>
 (cO.F (y26.1,([]:List bF),())).bind fun y27=>
 (bif (y27.1==(1:Int)) then
 (gP.F (())).bind fun y28=>
 (gp.F (([]:List (List ap)),())).bind fun y29=>
 (dK.F (y28.1,y29.1,(⟨#[120]⟩:ByteArray),())).bind fun y30=>
 some ((y30.1==(1:Int)),())
 else
 some (false,()))
 else
 some (false,()))
 else
 some (false,()))
 else
 some (false,()))
 else
 some (false,()))
 else
 some (false,()))
def fV.F:=stk fV.B
theorem fV.k:Kk dK.s ae.q [] Tryz.f12 fV.d fV.B:={}
def fV.s:SpL:=fV.d.e [] fV.F::dK.s
theorem fV.c:Ck fV.s ae.q:=cS dK.c fV.k
def ge.d:Fe:=⟨29,2,⟨[(0,.v false [.sl 44 eB]),(1,.v false [.str])],[],[],0,[]⟩,⟨[(0,.v false [.sl 62 cX])],[],[],1000,[]⟩,(.s none .n (.s none (.s none .n (.b (.l ⟨[(5,.v false [.int .i64])],[],[0,1],0,[]⟩ .n))) .n))⟩
def ge.B:(List bF)×ByteArray×Unit→Option ((List bO)×Unit):=fun (p0,p1,_)=>
 aN (S:=Int×Unit) (fun (x5,_)=>
 (bif (decide (x5<(p0.length:Int))) then
 ck (ib x5 p0.length)<|
 let e1:bF:=(gt p0 x5 eB.z)
 (bif (sq e1.1 p1) then
 ck (ib x5 p0.length)<|
 let e2:bF:=(gt p0 x5 eB.z)
 ir (e2.2,())
 else
 let e3:Int:=(wr (x5+(1:Int)))
 il (e3,()))
 else
 ir (([]:List bO),()))) ((0:Int),())
def ge.F:=stk ge.B
theorem ge.eq:ge.F=ge.B:=aq _
theorem ge.k:Kk fV.s ae.q [] Tryz.f29 ge.d ge.B:={}
def ge.s:SpL:=ge.d.e [] ge.F::fV.s
theorem ge.c:Ck ge.s ae.q:=cS fV.c ge.k
def gA.d:Fe:=⟨30,2,⟨[(0,.v false [.sl 62 cX]),(1,.v true [.int .i64,.int .i64,.str])],[],[],0,[]⟩,⟨[(0,.tup [(false,[.sl 47 ar]),(false,[.bool])])],[],[],1000,[]⟩,(.s none .n (.s none (.s none .n (.b (.l ⟨[(6,.v false [.int .i64])],[],[0,3],0,[]⟩ .n))) .n))⟩
def gA.B:(List bO)×Int×Int×ByteArray×Unit→Option ((List ap)×Bool×Unit):=fun (p0,p1_0,p1_1,p1_2,_)=>
 aN (S:=Int×Unit) (fun (x6,_)=>
 (bif (decide (x6<(p0.length:Int))) then
 ck (ib x6 p0.length)<|
 let e1:bO:=(gt p0 x6 cX.z)
 ck (ib (0:Int) e1.1.length)<|
 let e2:ap:=(List.getD e1.1 0 ar.z)
 (bif (Ty.eq ar e2 (p1_0,(p1_1,p1_2))) then
 ck (ib x6 p0.length)<|
 let e3:bO:=(gt p0 x6 cX.z)
 ir (e3.1,true,())
 else
 let e4:Int:=(wr (x6+(1:Int)))
 il (e4,()))
 else
 ir (([]:List ap),false,()))) ((0:Int),())
def gA.F:=stk gA.B
theorem gA.eq:gA.F=gA.B:=aq _
theorem gA.k:Kk ge.s ae.q [] Tryz.f30 gA.d gA.B:={}
def gA.s:SpL:=gA.d.e [] gA.F::ge.s
theorem gA.c:Ck gA.s ae.q:=cS ge.c gA.k
def gQ.d:Fe:=⟨165,1,⟨[(0,.v false [.sl 47 ar])],[],[],0,[]⟩,⟨[(0,.v true [.int .i64,.int .i64,.str])],[],[],1000,[]⟩,(.s none .n (.s none .n (.s (some ⟨[(3,.v false [.bool])],[],[2],0,[]⟩) (.s none .n (.b (.l ⟨[(3,.v false [.bool]),(4,.v false [.int .i64])],[],[0,2],0,[]⟩ .n))) .n)))⟩
def gQ.B:(List ap)×Unit→Option (Int×Int×ByteArray×Unit):=fun (p0,_)=>
 jn (S:=Bool×Unit) (
 aN (S:=Bool×Int×Unit) (fun (x3,x4,_)=>
 (bif (decide (x4<(p0.length:Int))) then
 ck (ib x4 p0.length)<|
 let e1:ap:=(gt p0 x4 ar.z)
 (cY.F (false,())).bind fun y2=>
 (bif (Ty.eq ar e1 (y2.1,(y2.2.1,y2.2.2.1))) then
 (cY.F (false,())).bind fun y3=>
 ir (.inr (y3.1,y3.2.1,y3.2.2.1,()))
 else
 (bif x3 then
 ck (ib x4 p0.length)<|
 let e4:ap:=(gt p0 x4 ar.z)
 (cY.F (true,())).bind fun y5=>
 let e6:Int:=(wr (x4+(1:Int)))
 il ((Ty.eq ar e4 (y5.1,(y5.2.1,y5.2.2.1))),e6,())
 else
 let e7:Int:=(wr (x4+(1:Int)))
 il (false,e7,())))
 else
 ir (.inl (x3,())))) (true,(0:Int),())) fun (x3_8,_)=>
 (bif x3_8 then
 (cY.F (true,())).bind fun y9=>
 some (y9.1,y9.2.1,y9.2.2.1,())
 else
 some ((0:Int),(0:Int),(⟨#[]⟩:ByteArray),()))
def gQ.F:=stk gQ.B
theorem gQ.eq:gQ.F=gQ.B:=aq _
theorem gQ.k:Kk gA.s ae.q [] Tryz.f165 gQ.d gQ.B:={}
def gQ.s:SpL:=gQ.d.e [] gQ.F::gA.s
theorem gQ.c:Ck gQ.s ae.q:=cS gA.c gQ.k
def io.d:Fe:=⟨166,1,⟨[(0,.v false [.sl 47 ar])],[],[],0,[]⟩,⟨[(0,.v true [.int .i64,.int .i64,.str])],[],[],1000,[]⟩,(.s none .n (.s none .n (.s (some ⟨[(3,.v false [.bool])],[],[2],0,[]⟩) (.s none .n (.b (.l ⟨[(3,.v false [.bool]),(4,.v false [.int .i64])],[],[0,2],0,[]⟩ .n))) .n)))⟩
def io.B:(List ap)×Unit→Option (Int×Int×ByteArray×Unit):=fun (p0,_)=>
 jn (S:=Bool×Unit) (
 aN (S:=Bool×Int×Unit) (fun (x3,x4,_)=>
 (bif (decide (x4<(p0.length:Int))) then
 ck (ib x4 p0.length)<|
 let e1:ap:=(gt p0 x4 ar.z)
 (cY.F (true,())).bind fun y2=>
 (bif (Ty.eq ar e1 (y2.1,(y2.2.1,y2.2.2.1))) then
 (cY.F (true,())).bind fun y3=>
 ir (.inr (y3.1,y3.2.1,y3.2.2.1,()))
 else
 (bif x3 then
 ck (ib x4 p0.length)<|
 let e4:ap:=(gt p0 x4 ar.z)
 (cY.F (false,())).bind fun y5=>
 let e6:Int:=(wr (x4+(1:Int)))
 il ((Ty.eq ar e4 (y5.1,(y5.2.1,y5.2.2.1))),e6,())
 else
 let e7:Int:=(wr (x4+(1:Int)))
 il (false,e7,())))
 else
 ir (.inl (x3,())))) (true,(0:Int),())) fun (x3_8,_)=>
 (bif x3_8 then
 (cY.F (false,())).bind fun y9=>
 some (y9.1,y9.2.1,y9.2.2.1,())
 else
 some ((0:Int),(0:Int),(⟨#[]⟩:ByteArray),()))
def io.F:=stk io.B
theorem io.eq:io.F=io.B:=aq _
theorem io.k:Kk gQ.s ae.q [] Tryz.f166 io.d io.B:={}
def io.s:SpL:=io.d.e [] io.F::gQ.s
theorem io.c:Ck io.s ae.q:=cS gQ.c io.k
def gE.d:Fe:=⟨167,1,⟨[(0,.v true [.int .i64,.int .i64,.str])],[],[],0,[]⟩,⟨[(0,.v true [.int .i64,.int .i64,.str])],[],[],1000,[]⟩,.n⟩
def gE.B:Int×Int×ByteArray×Unit→Option (Int×Int×ByteArray×Unit):=fun (p0_0,p0_1,p0_2,_)=>
 (cY.F (true,())).bind fun y1=>
 (bif (Ty.eq ar (p0_0,(p0_1,p0_2)) (y1.1,(y1.2.1,y1.2.2.1))) then
 (cY.F (false,())).bind fun y2=>
 some (y2.1,y2.2.1,y2.2.2.1,())
 else
 (cY.F (false,())).bind fun y3=>
 (bif (Ty.eq ar (p0_0,(p0_1,p0_2)) (y3.1,(y3.2.1,y3.2.2.1))) then
 (cY.F (true,())).bind fun y4=>
 some (y4.1,y4.2.1,y4.2.2.1,())
 else
 some ((0:Int),(0:Int),(⟨#[]⟩:ByteArray),())))
def gE.F:=stk gE.B
theorem gE.eq:gE.F=gE.B:=aq _
theorem gE.k:Kk io.s ae.q [] Tryz.f167 gE.d gE.B:={}
def gE.s:SpL:=gE.d.e [] gE.F::io.s
theorem gE.c:Ck gE.s ae.q:=cS io.c gE.k
def gK.d:Fe:=⟨123,3,⟨[(0,.v false [.int .i64]),(1,.v true [.int .i64,.int .i64,.str]),(2,.v true [.int .i64,.int .i64,.str])],[],[],0,[]⟩,⟨[(0,.tup [(true,[.int .i64,.int .i64,.str]),(false,[.bool])])],[],[],1000,[]⟩,.n⟩
def gK.B:Int×Int×Int×ByteArray×Int×Int×ByteArray×Unit→Option (Int×Int×ByteArray×Bool×Unit):=fun (p0,p1_0,p1_1,p1_2,p2_0,p2_1,p2_2,_)=>
 (bif (p0==(2:Int)) then
 (fC.F (p1_0,p1_1,p1_2,p2_0,p2_1,p2_2,())).bind fun y1=>
 some (y1.1,y1.2.1,y1.2.2.1,y1.2.2.2.1,())
 else
 (bif (p0==(3:Int)) then
 (fD.F (p1_0,p1_1,p1_2,p2_0,p2_1,p2_2,())).bind fun y2=>
 some (y2.1,y2.2.1,y2.2.2.1,y2.2.2.2.1,())
 else
 (bif (p0==(4:Int)) then
 (fB.F (p1_0,p1_1,p1_2,p2_0,p2_1,p2_2,())).bind fun y3=>
 some (y3.1,y3.2.1,y3.2.2.1,y3.2.2.2.1,())
 else
 (bif (p0==(7:Int)) then
 (gQ.F ([(p1_0,(p1_1,p1_2)),(p2_0,(p2_1,p2_2))],())).bind fun y4=>
 some (y4.1,y4.2.1,y4.2.2.1,true,())
 else
 (bif (p0==(8:Int)) then
 (io.F ([(p1_0,(p1_1,p1_2)),(p2_0,(p2_1,p2_2))],())).bind fun y5=>
 some (y5.1,y5.2.1,y5.2.2.1,true,())
 else
 (bif (p0==(9:Int)) then
 (gE.F (p2_0,p2_1,p2_2,())).bind fun y6=>
 some (y6.1,y6.2.1,y6.2.2.1,true,())
 else
 (bif (p0==(10:Int)) then
 (cY.F ((p2_0==(0:Int)),())).bind fun y7=>
 some (y7.1,y7.2.1,y7.2.2.1,true,())
 else
 (eS.F (p1_0,p1_1,p1_2,p2_0,p2_1,p2_2,())).bind fun y8=>
 (bif y8.1 then
 some ((0:Int),(0:Int),(⟨#[]⟩:ByteArray),true,())
 else
 (bif (p0==(5:Int)) then
 (da.F (p1_0,p1_1,p1_2,p2_0,p2_1,p2_2,())).bind fun y9=>
 (cY.F ((y9.1==(0:Int)),())).bind fun y10=>
 some (y10.1,y10.2.1,y10.2.2.1,true,())
 else
 (da.F (p1_0,p1_1,p1_2,p2_0,p2_1,p2_2,())).bind fun y11=>
 (cY.F ((decide (y11.1<(0:Int))),())).bind fun y12=>
 some (y12.1,y12.2.1,y12.2.2.1,true,()))))))))))
def gK.F:=stk gK.B
theorem gK.eq:gK.F=gK.B:=aq _
theorem gK.k:Kk gE.s ae.q [] Tryz.f123 gK.d gK.B:={}
def gK.s:SpL:=gK.d.e [] gK.F::gE.s
theorem gK.c:Ck gK.s ae.q:=cS gE.c gK.k
def fN.d:Fe:=⟨82,2,⟨[(0,.v false [.sl 126 bN]),(1,.v false [.sl 47 ar])],[],[],0,[]⟩,⟨[(0,.tup [(true,[.int .i64,.int .i64,.str]),(false,[.int .i64])])],[],[],1000,[]⟩,(.s none .n (.s none .n (.s none .n (.s none .n (.s (some ⟨[(7,.v false [.ref 0])],[(0,false,.arr 47 ar)],[4,6],1,[]⟩) (.s none .n (.b (.l ⟨[(7,.v false [.ref 0]),(8,.v false [.int .i64])],[(0,false,.arr 47 ar)],[0,1,4,6],1,[]⟩ (.s none .n (.s none (.b (.s none .n (.s none .n (.s (some ⟨[],[],[0,1,4,6,7,8,9,10],0,[]⟩) .n (.s none .n (.s none .n (.s none .n (.s (some ⟨[(11,.v false [.ptr 0 0])],[(0,true,.box 47 [.int .i64,.int .i64,.str])],[0,1,4,6,7,8,9,10,12],1,[]⟩) .n .n)))))))) .n))))) .n)))))⟩
def fN.B:(List ak)×(List ap)×Unit→Option (Int×Int×ByteArray×Int×Unit):=fun (p0,p1,_)=>
 (bif (decide ((p0.length:Int)>(100:Int))) then
 some ((0:Int),(0:Int),(⟨#[]⟩:ByteArray),(1:Int),())
 else
 jn (S:=(List ap)×Unit) (
 aN (S:=Int×(List ap)×Unit) (fun (x8,o7_0,_)=>
 (bif (decide (x8<(p0.length:Int))) then
 ck (ib x8 p0.length)<|
 let e1:ak:=(gt p0 x8 bN.z)
 (eL.F (e1.1,())).bind fun y2=>
 jn (S:=Unit) (
 (bif (decide (y2.1<(0:Int))) then
 ir (.inr (.inr ((0:Int),(0:Int),(⟨#[]⟩:ByteArray),(30:Int),())))
 else
 (bif (decide ((o7_0.length:Int)<y2.1)) then
 ir (.inr (.inr ((0:Int),(0:Int),(⟨#[]⟩:ByteArray),(30:Int),())))
 else
 il (())))) fun (_)=>
 (bif (e1.1==(0:Int)) then
 (bif (decide (e1.2.1<(0:Int))) then
 ir (.inr ((0:Int),(0:Int),(⟨#[]⟩:ByteArray),(30:Int),()))
 else
 (bif (decide (e1.2.1≥(p1.length:Int))) then
 ir (.inr ((0:Int),(0:Int),(⟨#[]⟩:ByteArray),(30:Int),()))
 else
 ck (ib e1.2.1 p1.length)<|
 let e4:ap:=(gt p1 e1.2.1 ar.z)
 ck (Nat.ble (o7_0.length+ [e4].length) 4398046511104)<|
 let e5:Int:=(wr (x8+(1:Int)))
 il (e5,(o7_0++ [e4]),())))
 else
 (bif (e1.1==(1:Int)) then
 (dQ.F (e1.2.2.1,e1.2.2.2.1,e1.2.2.2.2,())).bind fun y6=>
 (bif (!y6.1) then
 ir (.inr ((0:Int),(0:Int),(⟨#[]⟩:ByteArray),(30:Int),()))
 else
 ck (Nat.ble (o7_0.length+ [e1.2.2].length) 4398046511104)<|
 let e7:Int:=(wr (x8+(1:Int)))
 il (e7,(o7_0++ [e1.2.2]),()))
 else
 let e8:Int:=(wr ((o7_0.length:Int)-(1:Int)))
 ck (ib e8 o7_0.length)<|
 let e9:ap:=(List.getD o7_0 (Int.toNat e8) ar.z)
 jn (S:=Int×Int×ByteArray×Unit) (
 (bif (decide (y2.1>(1:Int))) then
 let e10:Int:=(wr ((o7_0.length:Int)-(2:Int)))
 ck (ib e10 o7_0.length)<|
 let e11:ap:=(List.getD o7_0 (Int.toNat e10) ar.z)
 il (e11.1,e11.2.1,e11.2.2,())
 else
 il ((0:Int),(0:Int),(⟨#[]⟩:ByteArray),()))) fun (o11_0_0_12,o11_0_1_12,o11_0_2_12,_)=>
 (cL.F (e1.1,o11_0_0_12,e9.1,())).bind fun y13=>
 (bif (!y13.2.1) then
 ir (.inr ((0:Int),(0:Int),(⟨#[]⟩:ByteArray),(30:Int),()))
 else
 (gK.F (e1.1,o11_0_0_12,o11_0_1_12,o11_0_2_12,e9.1,e9.2.1,e9.2.2,())).bind fun y14=>
 (bif (!y14.2.2.2.1) then
 ir (.inr ((0:Int),(0:Int),(⟨#[]⟩:ByteArray),(31:Int),()))
 else
 let e15:Int:=(wr ((o7_0.length:Int)-y2.1))
 ck (sb (0:Int) e15 o7_0.length)<|
 ck (Nat.ble (([]:List ap).length+(List.take (Int.toNat e15) o7_0).length) 4398046511104)<|
 ck (Nat.ble ((([]:List ap)++(List.take (Int.toNat e15) o7_0)).length+ [(y14.1,(y14.2.1,y14.2.2.1))].length) 4398046511104)<|
 let e16:Int:=(wr (x8+(1:Int)))
 il (e16,((([]:List ap)++(List.take (Int.toNat e15) o7_0))++ [(y14.1,(y14.2.1,y14.2.2.1))]),())))))
 else
 ir (.inl (o7_0,())))) ((0:Int),([]:List ap),())) fun (o7_0_17,_)=>
 (bif ((o7_0_17.length:Int) !=(1:Int)) then
 some ((0:Int),(0:Int),(⟨#[]⟩:ByteArray),(30:Int),())
 else
 ck (ib (0:Int) o7_0_17.length)<|
 let e18:ap:=(List.getD o7_0_17 0 ar.z)
 some (e18.1,e18.2.1,e18.2.2,(0:Int),())))
def fN.F:=stk fN.B
theorem fN.eq:fN.F=fN.B:=aq _
theorem fN.k:Kk gK.s ae.q [] Tryz.f82 fN.d fN.B:={}
def fN.s:SpL:=fN.d.e [] fN.F::gK.s
theorem fN.c:Ck fN.s ae.q:=cS gK.c fN.k
def gh.d:Fe:=⟨44,2,⟨[(0,.v true [.str,.sl 75 aV,.sl 78 (.sl 126 bN)]),(1,.v false [.sl 44 eB])],[],[],0,[]⟩,⟨[(0,.v true [.int .i64,.str,.int .i64])],[],[],1000,[]⟩,(.s none .n (.s none .n (.s (some ⟨[],[],[1,2,4,5],0,[]⟩) (.s none .n (.b (.l ⟨[(6,.v false [.int .i64])],[],[1,2,4,5],0,[]⟩ (.s none .n (.s (some ⟨[],[],[1,2,4,5,6],0,[]⟩) (.b (.s none .n (.b (.l ⟨[(7,.v false [.int .i64])],[],[1,2,4,5,6],0,[]⟩ (.s none .n (.s none (.b (.s none .n (.s (some ⟨[(68,.v false [.bool])],[],[1,2,4,5,6,7],0,[]⟩) .n .n))) .n)))))) .n))))) (.s (some ⟨[],[],[1,2,4,5],0,[]⟩) (.s none .n (.b (.l ⟨[(9,.v false [.int .i64])],[],[1,2,4,5],0,[]⟩ (.s none .n (.s (some ⟨[],[],[1,2,4,5,9],0,[]⟩) (.b (.s none .n (.b (.l ⟨[(10,.v false [.int .i64])],[],[1,2,4,5,9],0,[]⟩ (.s (some ⟨[],[],[1,2,4,5,9,10],0,[]⟩) .n (.s (some ⟨[],[],[1,2,4,5,9,10],0,[]⟩) (.b (.s none .n (.b (.l ⟨[(11,.v false [.int .i64])],[],[1,2,4,5,9,10],0,[]⟩ .n)))) .n)))))) .n))))) (.s (some ⟨[],[],[2,4,5],0,[]⟩) (.s none .n (.b (.l ⟨[(12,.v false [.int .i64])],[],[1,2,4,5],0,[]⟩ (.s none .n (.s (some ⟨[],[],[1,2,4,5,12],0,[]⟩) (.b (.s none .n (.b (.l ⟨[(13,.v false [.int .i64])],[],[1,2,4,5,12],0,[]⟩ (.s (some ⟨[],[],[1,2,4,5,12,13],0,[]⟩) .n .n))))) .n))))) (.s (some ⟨[],[],[4],0,[]⟩) (.s none .n (.b (.l ⟨[(17,.v false [.int .i64])],[],[2,4,5],0,[]⟩ (.s none .n (.s (some ⟨[],[],[2,4,5,17],0,[]⟩) (.b (.s none .n (.b (.l ⟨[(18,.v false [.int .i64])],[],[2,4,5,17],0,[]⟩ .n)))) .n))))) .n))))))⟩
def gh.B:ByteArray×(List aB)×(List (List ak))×(List bF)×Unit→Option (Int×ByteArray×Int×Unit):=fun (p0_0,p0_1,p0_2,p1,_)=>
 (ge.F (p1,p0_0,())).bind fun y1=>
 jn (S:=Unit) (
 aN (S:=Int×Unit) (fun (x6,_)=>
 (bif (decide (x6<(y1.1.length:Int))) then
 jn (S:=Unit) (
 aN (S:=Int×Unit) (fun (x7',_)=>
 (bif (decide (x7'<(p0_1.length:Int))) then
 ck (ib x6 y1.1.length)<|
 let e2:bO:=(gt y1.1 x6 cX.z)
 ck (ib x7' e2.1.length)<|
 let e3:ap:=(gt e2.1 x7' ar.z)
 jn (S:=Bool×Unit) (
 ck (ib x7' p0_1.length)<|
 let e4:aB:=(gt p0_1 x7' aV.z)
 (bif (e3.1 !=e4.2.1) then
 (bif (e3.1 !=(0:Int)) then
 il (true,())
 else
 ck (ib x7' p0_1.length)<|
 let e5:aB:=(gt p0_1 x7' aV.z)
 il ((!e5.2.2.1),()))
 else
 il (false,()))) fun (x68_6,_)=>
 (bif x68_6 then
 ir (.inr (.inr (.inr ((180:Int),p0_0,x7',()))))
 else
 let e7:Int:=(wr (x7'+(1:Int)))
 il (e7,()))
 else
 ir (.inl (())))) ((0:Int),())) fun (_)=>
 let e9:Int:=(wr (x6+(1:Int)))
 il (e9,())
 else
 ir (.inl (())))) ((0:Int),())) fun (_)=>
 jn (S:=Unit) (
 aN (S:=Int×Unit) (fun (x9,_)=>
 (bif (decide (x9<(p0_1.length:Int))) then
 jn (S:=Unit) (
 aN (S:=Int×Unit) (fun (x10',_)=>
 jn (S:=Unit) (
 (bif (decide (x10'<(y1.1.length:Int))) then
 ck (ib x9 p0_1.length)<|
 let e11:aB:=(gt p0_1 x9 aV.z)
 (bif e11.2.2.2.1 then
 il (())
 else
 ir (.inr (.inl (()))))
 else
 ir (.inr (.inl (()))))) fun (_)=>
 jn (S:=Unit) (
 aN (S:=Int×Unit) (fun (x11'',_)=>
 (bif (decide (x11''<x10')) then
 ck (ib x10' y1.1.length)<|
 let e13:bO:=(gt y1.1 x10' cX.z)
 ck (ib x9 e13.1.length)<|
 let e14:ap:=(gt e13.1 x9 ar.z)
 (bif (e14.1 !=(0:Int)) then
 ck (ib x10' y1.1.length)<|
 let e15:bO:=(gt y1.1 x10' cX.z)
 ck (ib x9 e15.1.length)<|
 let e16:ap:=(gt e15.1 x9 ar.z)
 ck (ib x11'' y1.1.length)<|
 let e17:bO:=(gt y1.1 x11'' cX.z)
 ck (ib x9 e17.1.length)<|
 let e18:ap:=(gt e17.1 x9 ar.z)
 (bif (Ty.eq ar e16 e18) then
 ir (.inr (.inr (.inr (.inr (.inr ((181:Int),p0_0,x9,()))))))
 else
 let e19:Int:=(wr (x11''+(1:Int)))
 il (e19,()))
 else
 let e20:Int:=(wr (x11''+(1:Int)))
 il (e20,()))
 else
 ir (.inl (())))) ((0:Int),())) fun (_)=>
 let e22:Int:=(wr (x10'+(1:Int)))
 il (e22,())) ((0:Int),())) fun (_)=>
 let e24:Int:=(wr (x9+(1:Int)))
 il (e24,())
 else
 ir (.inl (())))) ((0:Int),())) fun (_)=>
 jn (S:=Unit) (
 aN (S:=Int×Unit) (fun (x12,_)=>
 (bif (decide (x12<(p0_1.length:Int))) then
 jn (S:=Unit) (
 aN (S:=Int×Unit) (fun (x13',_)=>
 jn (S:=Unit) (
 (bif (decide (x13'<(y1.1.length:Int))) then
 ck (ib x12 p0_1.length)<|
 let e26:aB:=(gt p0_1 x12 aV.z)
 (bif (!sq e26.2.2.2.2.1 (⟨#[]⟩:ByteArray)) then
 il (())
 else
 ir (.inr (.inl (()))))
 else
 ir (.inr (.inl (()))))) fun (_)=>
 ck (ib x13' y1.1.length)<|
 let e28:bO:=(gt y1.1 x13' cX.z)
 ck (ib x12 e28.1.length)<|
 let e29:ap:=(gt e28.1 x12 ar.z)
 ck (ib x12 p0_1.length)<|
 let e30:aB:=(gt p0_1 x12 aV.z)
 (ge.F (p1,e30.2.2.2.2.1,())).bind fun y31=>
 (gA.F (y31.1,e29.1,e29.2.1,e29.2.2,())).bind fun y32=>
 (bif (e29.1 !=(0:Int)) then
 (bif (!y32.2.1) then
 ir (.inr (.inr (.inr ((182:Int),p0_0,x12,()))))
 else
 let e33:Int:=(wr (x13'+(1:Int)))
 il (e33,()))
 else
 let e34:Int:=(wr (x13'+(1:Int)))
 il (e34,()))) ((0:Int),())) fun (_)=>
 let e36:Int:=(wr (x12+(1:Int)))
 il (e36,())
 else
 ir (.inl (())))) ((0:Int),())) fun (_)=>
 jn (S:=Unit) (
 aN (S:=Int×Unit) (fun (x17,_)=>
 (bif (decide (x17<(p0_2.length:Int))) then
 jn (S:=Unit) (
 aN (S:=Int×Unit) (fun (x18',_)=>
 (bif (decide (x18'<(y1.1.length:Int))) then
 ck (ib x17 p0_2.length)<|
 let e38:(List ak):=(gt p0_2 x17 [])
 ck (ib x18' y1.1.length)<|
 let e39:bO:=(gt y1.1 x18' cX.z)
 (fN.F (e38,e39.1,())).bind fun y40=>
 (bif (y40.2.2.2.1 !=(0:Int)) then
 ir (.inr (.inr (.inr (y40.2.2.2.1,p0_0,x17,()))))
 else
 (cY.F (false,())).bind fun y41=>
 (bif (Ty.eq ar (y40.1,(y40.2.1,y40.2.2.1)) (y41.1,(y41.2.1,y41.2.2.1))) then
 ir (.inr (.inr (.inr ((183:Int),p0_0,x17,()))))
 else
 let e42:Int:=(wr (x18'+(1:Int)))
 il (e42,())))
 else
 ir (.inl (())))) ((0:Int),())) fun (_)=>
 let e44:Int:=(wr (x17+(1:Int)))
 il (e44,())
 else
 ir (.inl (())))) ((0:Int),())) fun (_)=>
 some ((0:Int),(⟨#[]⟩:ByteArray),(0:Int),())
def gh.F:=stk gh.B
theorem gh.eq:gh.F=gh.B:=aq _
theorem gh.k:Kk fN.s ae.q [] Tryz.f44 gh.d gh.B:={}
def gh.s:SpL:=gh.d.e [] gh.F::fN.s
theorem gh.c:Ck gh.s ae.q:=cS fN.c gh.k
def fa.d:Fe:=⟨14,2,⟨[(0,.v false [.sl 84 gF]),(1,.v false [.sl 44 eB])],[],[],0,[]⟩,⟨[(0,.v true [.int .i64,.str,.int .i64])],[],[],1000,[]⟩,(.s none .n (.s none .n (.s none .n (.s (some ⟨[],[],[4],0,[]⟩) (.s none .n (.b (.l ⟨[(6,.v false [.int .i64])],[],[1,4,5],0,[]⟩ .n))) .n))))⟩
def fa.B:(List bL)×(List bF)×Unit→Option (Int×ByteArray×Int×Unit):=fun (p0,p1,_)=>
 (fW.F (p0,p1,())).bind fun y1=>
 (bif (!y1.1) then
 some ((1:Int),(⟨#[]⟩:ByteArray),(0:Int),())
 else
 (eE.F (p0,())).bind fun y2=>
 jn (S:=Unit) (
 aN (S:=Int×Unit) (fun (x6,_)=>
 (bif (decide (x6<(y2.1.length:Int))) then
 ck (ib x6 y2.1.length)<|
 let e3:gD:=(List.getD y2.1 (Int.toNat x6) iW.z)
 (gh.F (e3.1,e3.2.1,e3.2.2,p1,())).bind fun y4=>
 (bif (y4.1 !=(0:Int)) then
 ir (.inr (y4.1,y4.2.1,y4.2.2.1,()))
 else
 let e5:Int:=(wr (x6+(1:Int)))
 il (e5,()))
 else
 ir (.inl (())))) ((0:Int),())) fun (_)=>
 some ((0:Int),(⟨#[]⟩:ByteArray),(0:Int),()))
def fa.F:=stk fa.B
theorem fa.eq:fa.F=fa.B:=aq _
theorem fa.k:Kk gh.s ae.q [] Tryz.f14 fa.d fa.B:={}
def fa.s:SpL:=fa.d.e [] fa.F::gh.s
theorem fa.c:Ck fa.s ae.q:=cS gh.c fa.k
def fO.d:Fe:=⟨16,3,⟨[(0,.v false [.sl 84 gF]),(1,.v false [.sl 44 eB]),(2,.v false [.str])],[],[],0,[]⟩,⟨[(0,.v true [.int .i64,.str,.int .i64])],[],[],1000,[]⟩,(.s none .n (.s none .n (.s (some ⟨[],[],[0,1,6,7],0,[]⟩) .n .n)))⟩
def fO.B:(List bL)×(List bF)×ByteArray×Unit→Option (Int×ByteArray×Int×Unit):=fun (p0,p1,p2,_)=>
 (eP.F (p0,p2,())).bind fun y1=>
 jn (S:=Unit) (
 (bif (decide (y1.1<(0:Int))) then
 ir ((1:Int),(⟨#[]⟩:ByteArray),(0:Int),())
 else
 (fW.F (p0,p1,())).bind fun y2=>
 (bif (!y2.1) then
 ir ((1:Int),(⟨#[]⟩:ByteArray),(0:Int),())
 else
 il (())))) fun (_)=>
 ck (ib y1.1 p0.length)<|
 let e4:bL:=(gt p0 y1.1 gF.z)
 (bif (e4.1 !=(0:Int)) then
 some ((1:Int),(⟨#[]⟩:ByteArray),(0:Int),())
 else
 ck (ib y1.1 p0.length)<|
 let e5:bL:=(gt p0 y1.1 gF.z)
 (gh.F (e5.2.1.1,e5.2.1.2.1,e5.2.1.2.2,p1,())).bind fun y6=>
 some (y6.1,y6.2.1,y6.2.2.1,()))
def fO.F:=stk fO.B
theorem fO.eq:fO.F=fO.B:=aq _
theorem fO.k:Kk fa.s ae.q [] Tryz.f16 fO.d fO.B:={}
def fO.s:SpL:=fO.d.e [] fO.F::fa.s
theorem fO.c:Ck fO.s ae.q:=cS fa.c fO.k
def dY.d:Fe:=⟨3,3,⟨[(0,.v false [.sl 84 gF]),(1,.v false [.sl 44 eB]),(2,.v false [.str])],[],[],0,[]⟩,⟨[(0,.v false [.bool])],[],[],1000,[]⟩,(.s none .n (.s (some ⟨[],[],[0,1,2],0,[]⟩) .n .n))⟩
def dY.B:(List bL)×(List bF)×ByteArray×Unit→Option (Bool×Unit):=fun (p0,p1,p2,_)=>
 jn (S:=Unit) (
 (gM.F (p0,())).bind fun y1=>
 (bif y1.1 then
 (fV.F (())).bind fun y2=>
 ir (y2.1,())
 else
 (bif (decide ((p0.length:Int)>(9:Int))) then
 (fV.F (())).bind fun y3=>
 ir (y3.1,())
 else
 (fz.F (p1,())).bind fun y4=>
 (bif (!y4.1) then
 (fV.F (())).bind fun y5=>
 ir (y5.1,())
 else
 il (()))))) fun (_)=>
 (fV.F (())).bind fun y7=>
 (bif y7.1 then
 (cO.F (p0,p1,())).bind fun y8=>
 (fa.F (p0,p1,())).bind fun y9=>
 (bif (Ty.eq iu (y8.1,(y8.2.1,y8.2.2.1)) (y9.1,(y9.2.1,y9.2.2.1))) then
 (dK.F (p0,p1,p2,())).bind fun y10=>
 (fO.F (p0,p1,p2,())).bind fun y11=>
 some ((Ty.eq iu (y10.1,(y10.2.1,y10.2.2.1)) (y11.1,(y11.2.1,y11.2.2.1))),())
 else
 some (false,()))
 else
 some (false,()))
def dY.F:=stk dY.B
theorem dY.eq:dY.F=dY.B:=aq _
theorem dY.k:Kk fO.s ae.q [] Tryz.f3 dY.d dY.B:={}
end
end Go.Proofs.Ytpoffnlnhdbpmaa
