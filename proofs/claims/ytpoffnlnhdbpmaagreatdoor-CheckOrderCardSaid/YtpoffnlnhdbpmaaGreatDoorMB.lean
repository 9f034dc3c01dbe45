import Derived.Test.YtpoffnlnhdbpmaaGreatDoorM5
set_option linter.all false
set_option linter.unusedVariables false
set_option linter.unusedSimpArgs false
set_option linter.unusedSectionVars false
set_option maxRecDepth 100000
namespace Go.Proofs.Ytpoffnlnhdbpmaa
open Go Lv Go.Proofs Go.RowKit Go.Shelf
variable [Lk]
def eQ.d:Fe:=⟨295,1,⟨[(0,.v false [.str])],[],[],0,[]⟩,⟨[(0,.v false [.bool])],[],[],1000,[]⟩,.n⟩
noncomputable def eQ.B:ByteArray×Unit→Option (Bool×Unit):=fun (p0,_)=>
 (fq.F (p0,())).bind fun y1=>
 (bif y1.1 then
 (dw.F (())).bind fun y2=>
 (ay.F (y2.1,p0,())).bind fun y3=>
 some ((!y3.1),())
 else
 some (false,()))
noncomputable def eQ.F:=stk eQ.B
theorem eQ.eq:eQ.F=eQ.B:=aq _
theorem eQ.k:Kk ay.s aP.q [] Tryz.f295 eQ.d eQ.B:={}
noncomputable def eQ.s:SpL:=eQ.d.e [] eQ.F::ay.s
theorem eQ.c:Ck eQ.s aP.q:=cS ay.c eQ.k
def bP.d:Fe:=⟨266,1,⟨[(0,.v false [.ptr 0 0])],[(0,true,.box 272 [.sl 195 dI])],[],1,[]⟩,⟨[(0,.v false [.str])],[(0,true,.box 272 [.sl 195 dI])],[],1001,[(0,0)]⟩,.n⟩
noncomputable def bP.B:(List aU)×Unit→Option ((ByteArray×(List aU)×Unit)⊕Int):=fun (o0,_)=>
 Option.bind (aP.F (o0,())) fun zy1=>match zy1 with
 | .inl y1=>
 ((bif (y1.1==(0:Int)) then
 (eQ.F (y1.2.1,())).bind fun y2=>
 Option.bind (cC.F (y2.1,())) fun zy3=>match zy3 with
 | .inl y3=>
 (some (.inl (y1.2.1,y1.2.2.2.2.2.1,())))
 | .inr n4=>some (.inr n4)
 else
 Option.bind (cC.F (false,())) fun zy5=>match zy5 with
 | .inl y5=>
 (some (.inl (y1.2.1,y1.2.2.2.2.2.1,())))
 | .inr n6=>some (.inr n6)))
 | .inr n7=>some (.inr n7)
noncomputable def bP.F:=stk bP.B
theorem bP.eq:bP.F=bP.B:=aq _
theorem bP.k:Kp eQ.s aP.q [] Tryz.f266 bP.d bP.B:={}
noncomputable def bP.q:SqL:=bP.d.p [] bP.F::aP.q
theorem bP.c:Ck eQ.s bP.q:=cP eQ.c bP.k
def aJ.d:Fe:=⟨269,1,⟨[(0,.v false [.ptr 0 0])],[(0,true,.box 272 [.sl 195 dI])],[],1,[]⟩,⟨[(0,.v true [.str,.int .i64,.bool,.bool,.str,.int .i64])],[(0,true,.box 272 [.sl 195 dI])],[],1001,[(0,0)]⟩,.n⟩
noncomputable def aJ.B:(List aU)×Unit→Option ((ByteArray×Int×Bool×Bool×ByteArray×Int×(List aU)×Unit)⊕Int):=fun (o0,_)=>
 Option.bind (bP.F (o0,())) fun zy1=>match zy1 with
 | .inl y1=>
 (Option.bind (bz.F ([(⟨#[98,111,111,108]⟩:ByteArray),(⟨#[105,110,116]⟩:ByteArray),(⟨#[116,101,120,116]⟩:ByteArray)],y1.2.1,())) fun zy2=>match zy2 with
 | .inl y2=>
 (let e3:Int:=(wr ((1:Int)+y2.1))
 (ap.F ([(⟨#[110,117,108,108]⟩:ByteArray)],y2.2.1,())).bind fun y4=>
 (ap.F ([(⟨#[117,110,105,113,117,101]⟩:ByteArray)],y4.2.1,())).bind fun y5=>
 (ap.F ([(⟨#[114,101,102]⟩:ByteArray)],y5.2.1,())).bind fun y6=>
 (bif y6.1 then
 Option.bind (bP.F (y6.2.1,())) fun zy7=>match zy7 with
 | .inl y7=>
 (Option.bind (bz.F ([(⟨#[114,101,115,116,114,105,99,116]⟩:ByteArray),(⟨#[99,97,115,99,97,100,101]⟩:ByteArray),(⟨#[115,101,116,110,117,108,108]⟩:ByteArray)],y7.2.1,())) fun zy8=>match zy8 with
 | .inl y8=>
 (some (.inl (y1.1,e3,y4.1,y5.1,y7.1,y8.1,y8.2.1,())))
 | .inr n9=>some (.inr n9))
 | .inr n10=>some (.inr n10)
 else
 some (.inl (y1.1,e3,y4.1,y5.1,(⟨#[]⟩:ByteArray),(0:Int),y6.2.1,()))))
 | .inr n11=>some (.inr n11))
 | .inr n12=>some (.inr n12)
noncomputable def aJ.F:=stk aJ.B
theorem aJ.eq:aJ.F=aJ.B:=aq _
theorem aJ.k:Kp eQ.s bP.q [] Tryz.f269 aJ.d aJ.B:={}
noncomputable def aJ.q:SqL:=aJ.d.p [] aJ.F::bP.q
theorem aJ.c:Ck eQ.s aJ.q:=cP bP.c aJ.k
def aG.d:Fe:=⟨345,2,⟨[(0,.v false [.str]),(1,.v false [.str])],[],[],0,[]⟩,⟨[(0,.v false [.bool])],[],[],1000,[]⟩,.n⟩
noncomputable def aG.B:ByteArray×ByteArray×Unit→Option (Bool×Unit):=fun (p0,p1,_)=>
 (bif (decide ((p0.size:Int)≥(p1.size:Int))) then
 ck (sb (0:Int) (p1.size:Int) p0.size)<|
 let e1:ByteArray:=(p0.extract (Int.toNat (0:Int)) (Int.toNat (p1.size:Int)))
 some ((sq e1 p1),())
 else
 some (false,()))
noncomputable def aG.F:=stk aG.B
theorem aG.eq:aG.F=aG.B:=aq _
theorem aG.k:Kk eQ.s aJ.q [] Tryz.f345 aG.d aG.B:={}
noncomputable def aG.s:SpL:=aG.d.e [] aG.F::eQ.s
theorem aG.c:Ck aG.s aJ.q:=cS aJ.c aG.k
def aH.d:Fe:=⟨337,2,⟨[(0,.v false [.str]),(1,.v false [.str])],[],[],0,[]⟩,⟨[(0,.tup [(false,[.str]),(false,[.bool])])],[],[],1000,[]⟩,.n⟩
noncomputable def aH.B:ByteArray×ByteArray×Unit→Option (ByteArray×Bool×Unit):=fun (p0,p1,_)=>
 (aG.F (p0,p1,())).bind fun y1=>
 (bif (!y1.1) then
 some (p0,false,())
 else
 ck (sb (p1.size:Int) (p0.size:Int) p0.size)<|
 let e2:ByteArray:=(p0.extract (Int.toNat (p1.size:Int)) (Int.toNat (p0.size:Int)))
 some (e2,true,()))
noncomputable def aH.F:=stk aH.B
theorem aH.eq:aH.F=aH.B:=aq _
theorem aH.k:Kk aG.s aJ.q [] Tryz.f337 aH.d aH.B:={}
noncomputable def aH.s:SpL:=aH.d.e [] aH.F::aG.s
theorem aH.c:Ck aH.s aJ.q:=cS aG.c aH.k
def b9.d:Fe:=⟨323,2,⟨[(0,.v false [.str]),(1,.v false [.str])],[],[],0,[]⟩,⟨[(0,.tup [(false,[.str]),(false,[.bool])])],[],[],1000,[]⟩,.n⟩
noncomputable def b9.B:ByteArray×ByteArray×Unit→Option (ByteArray×Bool×Unit):=fun (p0,p1,_)=>
 (aH.F (p0,p1,())).bind fun y1=>
 some (y1.1,y1.2.1,())
noncomputable def b9.F:=stk b9.B
theorem b9.eq:b9.F=b9.B:=aq _
theorem b9.k:Kk aH.s aJ.q [] Tryz.f323 b9.d b9.B:={}
noncomputable def b9.s:SpL:=b9.d.e [] b9.F::aH.s
theorem b9.c:Ck b9.s aJ.q:=cS aH.c b9.k
def cy.d:Fe:=⟨311,1,⟨[(0,.v false [.str])],[],[],0,[]⟩,⟨[(0,.tup [(false,[.int .i64]),(false,[.bool])])],[],[],1000,[]⟩,.n⟩
noncomputable def cy.B:ByteArray×Unit→Option (Int×Bool×Unit):=fun (p0,_)=>
 (b9.F (p0,(⟨#[99]⟩:ByteArray),())).bind fun y1=>
 (cB.F (y1.1,())).bind fun y2=>
 (bif y1.2.1 then
 (bif y2.2.1 then
 (bif (decide (y2.1≤(99:Int))) then
 (strconv_Itoa.F (y2.1,())).bind fun y3=>
 some (y2.1,(sq y3.1 y1.1),())
 else
 some (y2.1,false,()))
 else
 some (y2.1,false,()))
 else
 some (y2.1,false,()))
noncomputable def cy.F:=stk cy.B
theorem cy.eq:cy.F=cy.B:=aq _
theorem cy.k:Kk b9.s aJ.q [] Tryz.f311 cy.d cy.B:={}
noncomputable def cy.s:SpL:=cy.d.e [] cy.F::b9.s
theorem cy.c:Ck cy.s aJ.q:=cS b9.c cy.k
def bg.d:Fe:=⟨296,1,⟨[(0,.v false [.ptr 0 0])],[(0,true,.box 272 [.sl 195 dI])],[],1,[]⟩,⟨[(0,.v true [.int .i64,.int .i64,.int .i64,.int .i64,.str])],[(0,true,.box 272 [.sl 195 dI])],[],1001,[(0,0)]⟩,(.s none .n (.s none .n (.s none .n (.s none .n (.s none (.s (some ⟨[(4,.v false [.int .i64]),(5,.v false [.bool])],[],[2,3],0,[]⟩) .d .n) (.s none (.s (some ⟨[(6,.v false [.ptr 0 0]),(7,.v false [.bool])],[(0,false,.box 47 [.int .i64,.int .i64,.str])],[2,3],1,[]⟩) .d .n) .n))))))⟩
noncomputable def bg.l:InT:=[(282,[],Tryz.f282,.n),(310,[],Tryz.f310,.n)]
noncomputable def bg.b (A:AgF):(List aU)×Unit→Option ((Int×Int×Int×Int×ByteArray×(List aU)×Unit)⊕Int):=fun (o0,_)=>
 (ap.F ([(⟨#[110,117,108,108]⟩:ByteArray),(⟨#[63]⟩:ByteArray)],o0,())).bind fun y1=>
 (bif y1.1 then
 some (.inl ((10:Int),(0:Int),(0:Int),(0:Int),(⟨#[]⟩:ByteArray),y1.2.1,()))
 else
 Option.bind (aP.F (y1.2.1,())) fun zy2=>match zy2 with
 | .inl y2=>
 ((bif (y2.1==(1:Int)) then
 some (.inl ((1:Int),(0:Int),y2.2.2.1,y2.2.2.2.1,y2.2.2.2.2.1,y2.2.2.2.2.2.1,()))
 else
 jn (S:=Int×Bool×Unit) (
 (A _ (.n (.n (.n (.n (.n (.n (.n (.n (.n .u []) []) [(.n (.n .u []) [])]) [(.n (.n (.n .u []) []) [])]) []) []) []) []) [(.n (.n (.n (.n (.n (.n (.n (.n .u []) []) [(.n (.n .u []) [])]) [(.n (.n (.n .u []) []) [])]) []) []) []) [(.n (.n (.n (.n (.n (.n (.n .u []) []) [(.n (.n .u []) [])]) [(.n (.n (.n .u []) []) [])]) []) []) [])])]) fun t1=>
 il ((Option.getD (getKV (.string y2.2.1) (fc (.string (⟨#[110,111,116]⟩:ByteArray)) (9:Int) (fc (.string (⟨#[111,114]⟩:ByteArray)) (8:Int) (fc (.string (⟨#[97,110,100]⟩:ByteArray)) (7:Int) (fc (.string (⟨#[60]⟩:ByteArray)) (6:Int) (fc (.string (⟨#[61]⟩:ByteArray)) (5:Int) (fc (.string (⟨#[42]⟩:ByteArray)) (4:Int) (fc (.string (⟨#[45]⟩:ByteArray)) (3:Int) (fc (.string (⟨#[43]⟩:ByteArray)) (2:Int) ([]:List (Value×Int))))))))))) (0:Int)),(Option.isSome (getKV (.string y2.2.1) (fc (.string (⟨#[110,111,116]⟩:ByteArray)) (9:Int) (fc (.string (⟨#[111,114]⟩:ByteArray)) (8:Int) (fc (.string (⟨#[97,110,100]⟩:ByteArray)) (7:Int) (fc (.string (⟨#[60]⟩:ByteArray)) (6:Int) (fc (.string (⟨#[61]⟩:ByteArray)) (5:Int) (fc (.string (⟨#[42]⟩:ByteArray)) (4:Int) (fc (.string (⟨#[45]⟩:ByteArray)) (3:Int) (fc (.string (⟨#[43]⟩:ByteArray)) (2:Int) ([]:List (Value×Int)))))))))))),()))) fun (x4_3,x5_3,_)=>
 (bif x5_3 then
 some (.inl (x4_3,(0:Int),(0:Int),(0:Int),(⟨#[]⟩:ByteArray),y2.2.2.2.2.2.1,()))
 else
 jn (S:=Bool×Int×Int×ByteArray×Unit) (
 (A _ (.n (.n (.n (.n (.n (.n (.n (.n (.n (.n .u []) []) []) [(.n (.n (.n .u []) []) [(.n (.n .u []) [])])]) [(.n (.n (.n (.n .u []) []) []) [(.n (.n (.n .u []) []) [])]),(.n (.n (.n (.n .u []) []) [(.n (.n .u []) [])]) [(.n (.n (.n .u []) []) [])])]) [(.n (.n (.n (.n (.n .u []) []) [(.n (.n .u []) [])]) [(.n (.n (.n .u []) []) [])]) [])]) [(.n (.n (.n (.n (.n (.n .u []) []) [(.n (.n .u []) [])]) [(.n (.n (.n .u []) []) [])]) []) [])]) [(.n (.n (.n (.n (.n (.n (.n .u []) []) [(.n (.n .u []) [])]) [(.n (.n (.n .u []) []) [])]) []) []) [])]) [(.n (.n (.n (.n (.n (.n (.n (.n .u []) []) [(.n (.n .u []) [])]) [(.n (.n (.n .u []) []) [])]) []) []) []) [])]) [(.n (.n (.n (.n (.n (.n (.n (.n (.n .u []) []) []) [(.n (.n (.n .u []) []) [(.n (.n .u []) [])])]) [(.n (.n (.n (.n .u []) []) []) [(.n (.n (.n .u []) []) [])]),(.n (.n (.n (.n .u []) []) [(.n (.n .u []) [])]) [(.n (.n (.n .u []) []) [])])]) [(.n (.n (.n (.n (.n .u []) []) [(.n (.n .u []) [])]) [(.n (.n (.n .u []) []) [])]) [])]) [(.n (.n (.n (.n (.n (.n .u []) []) [(.n (.n .u []) [])]) [(.n (.n (.n .u []) []) [])]) []) [])]) [(.n (.n (.n (.n (.n (.n (.n .u []) []) [(.n (.n .u []) [])]) [(.n (.n (.n .u []) []) [])]) []) []) [])]) [(.n (.n (.n (.n (.n (.n (.n (.n .u []) []) []) [(.n (.n (.n .u []) []) [(.n (.n .u []) [])])]) [(.n (.n (.n (.n .u []) []) []) [(.n (.n (.n .u []) []) [])]),(.n (.n (.n (.n .u []) []) [(.n (.n .u []) [])]) [(.n (.n (.n .u []) []) [])])]) [(.n (.n (.n (.n (.n .u []) []) [(.n (.n .u []) [])]) [(.n (.n (.n .u []) []) [])]) [])]) [(.n (.n (.n (.n (.n (.n .u []) []) [(.n (.n .u []) [])]) [(.n (.n (.n .u []) []) [])]) []) [])]) [(.n (.n (.n (.n (.n (.n (.n .u []) []) [(.n (.n .u []) [])]) [(.n (.n (.n .u []) []) [])]) []) []) [])]),(.n (.n (.n (.n (.n (.n (.n (.n .u []) []) [(.n (.n .u []) [])]) [(.n (.n (.n .u []) []) [])]) []) []) []) [(.n (.n (.n (.n (.n (.n (.n .u []) []) [(.n (.n .u []) [])]) [(.n (.n (.n .u []) []) [])]) []) []) [])])]),(.n (.n (.n (.n (.n (.n (.n (.n (.n .u []) []) [(.n (.n .u []) [])]) [(.n (.n (.n .u []) []) [])]) []) []) []) []) [(.n (.n (.n (.n (.n (.n (.n (.n .u []) []) [(.n (.n .u []) [])]) [(.n (.n (.n .u []) []) [])]) []) []) []) [(.n (.n (.n (.n (.n (.n (.n .u []) []) [(.n (.n .u []) [])]) [(.n (.n (.n .u []) []) [])]) []) []) [])])])]) fun t1=>
 il ((Option.isSome (getKV (.string y2.2.1) (fc (.string (⟨#[116,114,117,101]⟩:ByteArray)) ((1:Int),((1:Int),(⟨#[]⟩:ByteArray))) (fc (.string (⟨#[102,97,108,115,101]⟩:ByteArray)) ((1:Int),((0:Int),(⟨#[]⟩:ByteArray))) (fc (.string (⟨#[110,117,108,108]⟩:ByteArray)) ((0:Int),((0:Int),(⟨#[]⟩:ByteArray))) ([]:List (Value×ax))))))),(Option.getD (getKV (.string y2.2.1) (fc (.string (⟨#[116,114,117,101]⟩:ByteArray)) ((1:Int),((1:Int),(⟨#[]⟩:ByteArray))) (fc (.string (⟨#[102,97,108,115,101]⟩:ByteArray)) ((1:Int),((0:Int),(⟨#[]⟩:ByteArray))) (fc (.string (⟨#[110,117,108,108]⟩:ByteArray)) ((0:Int),((0:Int),(⟨#[]⟩:ByteArray))) ([]:List (Value×ax)))))) ((0:Int),((0:Int),(⟨#[]⟩:ByteArray)))).1,(Option.getD (getKV (.string y2.2.1) (fc (.string (⟨#[116,114,117,101]⟩:ByteArray)) ((1:Int),((1:Int),(⟨#[]⟩:ByteArray))) (fc (.string (⟨#[102,97,108,115,101]⟩:ByteArray)) ((1:Int),((0:Int),(⟨#[]⟩:ByteArray))) (fc (.string (⟨#[110,117,108,108]⟩:ByteArray)) ((0:Int),((0:Int),(⟨#[]⟩:ByteArray))) ([]:List (Value×ax)))))) ((0:Int),((0:Int),(⟨#[]⟩:ByteArray)))).2.1,(Option.getD (getKV (.string y2.2.1) (fc (.string (⟨#[116,114,117,101]⟩:ByteArray)) ((1:Int),((1:Int),(⟨#[]⟩:ByteArray))) (fc (.string (⟨#[102,97,108,115,101]⟩:ByteArray)) ((1:Int),((0:Int),(⟨#[]⟩:ByteArray))) (fc (.string (⟨#[110,117,108,108]⟩:ByteArray)) ((0:Int),((0:Int),(⟨#[]⟩:ByteArray))) ([]:List (Value×ax)))))) ((0:Int),((0:Int),(⟨#[]⟩:ByteArray)))).2.2,()))) fun (x7_4,o6_0_0_4,o6_0_1_4,o6_0_2_4,_)=>
 (bif x7_4 then
 some (.inl ((1:Int),(0:Int),o6_0_0_4,o6_0_1_4,o6_0_2_4,y2.2.2.2.2.2.1,()))
 else
 (cy.F (y2.2.1,())).bind fun y5=>
 Option.bind (cC.F (y5.2.1,())) fun zy6=>match zy6 with
 | .inl y6=>
 (some (.inl ((0:Int),y5.1,(0:Int),(0:Int),(⟨#[]⟩:ByteArray),y2.2.2.2.2.2.1,())))
 | .inr n7=>some (.inr n7)))))
 | .inr n8=>some (.inr n8))
theorem bg.ab:bg.b agT=bg.b agI:=by
 unfold bg.b
 simp only [qk,nY]
noncomputable def bg.B:=bg.b agI
noncomputable def bg.F:=stk bg.B
theorem bg.eq:bg.F=bg.B:=aq _
theorem bg.k:Kp cy.s aJ.q bg.l Tryz.f296 bg.d (bg.b agT):={}
noncomputable def bg.q:SqL:=bg.d.p [] bg.F::aJ.q
theorem bg.c:Ck cy.s bg.q:=cPa cy.c bg.k bg.ab
def bU.d:Fe:=⟨270,1,⟨[(0,.v false [.ptr 0 0])],[(0,true,.box 272 [.sl 195 dI])],[],1,[]⟩,⟨[(0,.v false [.ref 1001])],[(0,true,.box 272 [.sl 195 dI]),(1001,false,.arr 126 bD)],[],1002,[(0,0)]⟩,(.s none .n (.s none .n (.s none .n (.s none (.b (.l ⟨[(0,.v false [.ptr 1 0]),(3,.v false [.ref 0])],[(0,false,.arr 126 bD),(1,true,.box 272 [.sl 195 dI])],[],2,[]⟩ .n)) .n))))⟩
noncomputable def bU.B:(List aU)×Unit→Option (((List aU)×(List ao)×Unit)⊕Int):=fun (o0,_)=>
 (ap.F ([(⟨#[91]⟩:ByteArray)],o0,())).bind fun y1=>
 Option.bind (cC.F (y1.1,())) fun zy2=>match zy2 with
 | .inl y2=>
 (aK (S:=(List ao)×(List aU)×Unit) (fun (o3_0,o0_0,_)=>
 (ap.F ([(⟨#[93]⟩:ByteArray)],o0_0,())).bind fun y3=>
 (bif (!y3.1) then
 Option.bind (bg.F (y3.2.1,())) fun zy4=>match zy4 with
 | .inl y4=>
 (ck (Nat.ble (o3_0.length+ [(y4.1,(y4.2.1,(y4.2.2.1,(y4.2.2.2.1,y4.2.2.2.2.1))))].length) 2932031007402)<|
 Option.bind (cC.F ((decide (((o3_0++ [(y4.1,(y4.2.1,(y4.2.2.1,(y4.2.2.2.1,y4.2.2.2.2.1))))]).length:Int)≤(100:Int))),())) fun zy5=>match zy5 with
 | .inl y5=>
 (il ((o3_0++ [(y4.1,(y4.2.1,(y4.2.2.1,(y4.2.2.2.1,y4.2.2.2.2.1))))]),y4.2.2.2.2.2.1,()))
 | .inr n6=>ir (.inr n6))
 | .inr n7=>ir (.inr n7)
 else
 ir (.inl (y3.2.1,o3_0,())))) ([],y1.2.1,()))
 | .inr n8=>some (.inr n8)
noncomputable def bU.F:=stk bU.B
theorem bU.eq:bU.F=bU.B:=aq _
theorem bU.k:Kp cy.s bg.q [] Tryz.f270 bU.d bU.B:={}
noncomputable def bU.q:SqL:=bU.d.p [] bU.F::bg.q
theorem bU.c:Ck cy.s bU.q:=cP bg.c bU.k
def bf.d:Fe:=⟨239,1,⟨[(0,.v false [.ptr 0 0])],[(0,true,.box 272 [.sl 195 dI])],[],1,[]⟩,⟨[(0,.v true [.str,.ref 1001,.ref 1002])],[(0,true,.box 272 [.sl 195 dI]),(1001,false,.arr 75 aX),(1002,false,.arr 78 (.sl 126 bD))],[],1003,[(0,0)]⟩,(.s none .n (.s none .n (.s none .n (.s none .n (.s none .n (.s (some ⟨[(3,.v false [.ptr 2 0])],[(0,true,.box 272 [.sl 195 dI]),(1,true,.box 270 [.ptr 0 0]),(2,true,.box 40 [.str,.ref 3,.ref 4]),(3,false,.arr 75 aX),(4,false,.arr 78 (.sl 126 bD))],[2],5,[(0,0),(1,1000)]⟩) (.b (.l ⟨[(1,.v false [.ptr 0 0]),(3,.v false [.ptr 2 0])],[(0,true,.box 270 [.ptr 1 0]),(1,true,.box 272 [.sl 195 dI]),(2,true,.box 40 [.str,.ref 3,.ref 4]),(3,false,.arr 75 aX),(4,false,.arr 78 (.sl 126 bD))],[2],5,[]⟩ (.s none .n (.b (.s (some ⟨[(1,.v false [.ptr 0 0]),(3,.v false [.ptr 2 0])],[(0,true,.box 270 [.ptr 1 0]),(1,true,.box 272 [.sl 195 dI]),(2,true,.box 40 [.str,.ref 3,.ref 4]),(3,false,.arr 75 aX),(4,false,.arr 78 (.sl 126 bD))],[2],5,[]⟩) .d .n))))) .n))))))⟩
noncomputable def bf.l:InT:=[(267,[(1,268)],Tryz.f267,(.s none .n (.s (some ⟨[(0,.v false [.ptr 3 0])],[(0,true,.box 40 [.str,.ref 1,.ref 2]),(1,false,.arr 75 aX),(2,false,.arr 78 (.sl 126 bD)),(3,true,.box 272 [.sl 195 dI])],[1,4],4,[(0,1003)]⟩) .n (.b (.l ⟨[(0,.v false [.ptr 3 0]),(4,.v false [.int .i64])],[(0,true,.box 40 [.str,.ref 1,.ref 2]),(1,false,.arr 75 aX),(2,false,.arr 78 (.sl 126 bD)),(3,true,.box 272 [.sl 195 dI])],[1],4,[(0,1003)]⟩ .n))))),(268,[],Tryz.f268,.d)]
noncomputable def bf.b (A:AgF):(List aU)×Unit→Option ((ByteArray×(List aU)×(List aC)×(List (List ao))×Unit)⊕Int):=fun (o0,_)=>
 Option.bind (bP.F (o0,())) fun zy1=>match zy1 with
 | .inl y1=>
 ((ap.F ([(⟨#[40]⟩:ByteArray)],y1.2.1,())).bind fun y2=>
 Option.bind (cC.F (y2.1,())) fun zy3=>match zy3 with
 | .inl y3=>
 (jn (S:=ByteArray×(List aC)×(List (List ao))×(List aU)×Unit) (
 (A _ (.n (.n (.n (.n (.l [(.n (.n (.l [(.n (.n .u []) [])]) []) [])]) []) []) [(.n (.n (.l [(.n (.n (.l [(.n (.n .u []) [])]) []) [])]) []) [(.l [(.n (.n (.n (.l [(.n (.n .u []) [])]) []) []) [(.n (.n (.l [(.n (.n .u []) [])]) []) [])])])])]) [(.n (.n (.n (.l [(.n (.n (.l [(.n (.n .u []) [])]) []) [])]) []) [(.l [(.n (.n (.n (.l [(.n (.n .u []) [])]) []) []) [(.n (.n (.l [(.n (.n .u []) [])]) []) [])])])]) [(.l [(.n (.n (.n (.n (.l [(.n (.n .u []) [])]) []) []) [(.n (.n (.l [(.n (.n .u []) [])]) []) [])]) [(.n (.n (.n (.l [(.n (.n .u []) [])]) []) []) [])])])])]) fun t1=>
 Option.bind (aJ.F (y2.2.1,())) fun zy4=>match zy4 with
 | .inl y4=>
 ((A _ (t1.getD 0 .u) fun t2=>
 ck (Nat.ble [(y4.1,(y4.2.1,(y4.2.2.1,(y4.2.2.2.1,(y4.2.2.2.2.1,y4.2.2.2.2.2.1)))))].length 2513169434916)<|
 (A _ (t2.getD 0 .u) fun t3=>
 il (y1.1,[(y4.1,(y4.2.1,(y4.2.2.1,(y4.2.2.2.1,(y4.2.2.2.2.1,y4.2.2.2.2.2.1)))))],[],y4.2.2.2.2.2.2.1,()))))
 | .inr n5=>ir (.inr n5))) fun (ok_1_0_0_6,ok_1_0_1_6,ok_1_0_2_6,o0_0_6,_)=>
 aK (S:=Int×ByteArray×(List aC)×(List (List ao))×(List aU)×Unit) (fun (x4,ok_1_0_0,ok_1_0_1,ok_1_0_2,o0_0,_)=>
 (ap.F ([(⟨#[44]⟩:ByteArray)],o0_0,())).bind fun y7=>
 (bif y7.1 then
 let e8:Int:=(wr (x4+(1:Int)))
 Option.bind (cC.F ((decide (e8≤(40:Int))),())) fun zy9=>match zy9 with
 | .inl y9=>
 ((A _ (.n (.n (.n (.n (.l [(.n (.n (.l [(.n (.n .u []) [])]) []) [])]) []) []) [(.n (.n (.l [(.n (.n (.l [(.n (.n .u []) [])]) []) [])]) []) [(.l [(.n (.n (.n (.l [(.n (.n .u []) [])]) []) []) [(.n (.n (.l [(.n (.n .u []) [])]) []) [])])])])]) [(.n (.n (.n (.l [(.n (.n (.l [(.n (.n .u []) [])]) []) [])]) []) [(.l [(.n (.n (.n (.l [(.n (.n .u []) [])]) []) []) [(.n (.n (.l [(.n (.n .u []) [])]) []) [])])])]) [(.l [(.n (.n (.n (.n (.l [(.n (.n .u []) [])]) []) []) [(.n (.n (.l [(.n (.n .u []) [])]) []) [])]) [(.n (.n (.n (.l [(.n (.n .u []) [])]) []) []) [])])])])]) fun t1=>
 Option.bind (aJ.F (y7.2.1,())) fun zy10=>match zy10 with
 | .inl y10=>
 ((A _ (t1.getD 0 .u) fun t2=>
 ck (Nat.ble (ok_1_0_1.length+ [(y10.1,(y10.2.1,(y10.2.2.1,(y10.2.2.2.1,(y10.2.2.2.2.1,y10.2.2.2.2.2.1)))))].length) 2513169434916)<|
 (A _ (t2.getD 0 .u) fun t3=>
 il (e8,ok_1_0_0,(ok_1_0_1++ [(y10.1,(y10.2.1,(y10.2.2.1,(y10.2.2.2.1,(y10.2.2.2.2.1,y10.2.2.2.2.2.1)))))]),ok_1_0_2,y10.2.2.2.2.2.2.1,()))))
 | .inr n11=>ir (.inr n11)))
 | .inr n12=>ir (.inr n12)
 else
 Option.map Sum.inr ((ap.F ([(⟨#[41]⟩:ByteArray)],y7.2.1,())).bind fun y13=>
 Option.bind (cC.F (y13.1,())) fun zy14=>match zy14 with
 | .inl y14=>
 (jn (S:=(List aU)×ByteArray×(List aC)×(List (List ao))×Unit) (
 aK (S:=(List aU)×ByteArray×(List aC)×(List (List ao))×Unit) (fun (o1_0_0,o3_0_0,o3_0_1,o3_0_2,_)=>
 (ap.F ([(⟨#[99,104,101,99,107]⟩:ByteArray)],o1_0_0,())).bind fun y15=>
 (bif y15.1 then
 jn (S:=(List aU)×ByteArray×(List aC)×(List (List ao))×Unit) (
 (A _ (.n (.n (.n (.n (.l [(.n (.n (.l [(.n (.n .u []) [])]) []) [])]) []) []) [(.n (.n (.l [(.n (.n (.l [(.n (.n .u []) [])]) []) [])]) []) [(.l [(.n (.n (.n (.l [(.n (.n .u []) [])]) []) []) [(.n (.n (.l [(.n (.n .u []) [])]) []) [])])])])]) [(.n (.n (.n (.l [(.n (.n (.l [(.n (.n .u []) [])]) []) [])]) []) [(.l [(.n (.n (.n (.l [(.n (.n .u []) [])]) []) []) [(.n (.n (.l [(.n (.n .u []) [])]) []) [])])])]) [(.l [(.n (.n (.n (.n (.l [(.n (.n .u []) [])]) []) []) [(.n (.n (.l [(.n (.n .u []) [])]) []) [])]) [(.n (.n (.n (.l [(.n (.n .u []) [])]) []) []) [])])])])]) fun t1=>
 Option.bind (bU.F (y15.2.1,())) fun zy16=>match zy16 with
 | .inl y16=>
 ((A _ (t1.getD 0 .u) fun t2=>
 ck (Nat.ble (o3_0_2.length+ [y16.2.1].length) 5864062014805)<|
 (A _ (t2.getD 0 .u) fun t3=>
 il (y16.1,o3_0_0,o3_0_1,(o3_0_2++ [y16.2.1]),()))))
 | .inr n17=>ir (.inr (.inr (.inr n17))))) fun (o1_0_0_18,o3_0_0_18,o3_0_1_18,o3_0_2_18,_)=>
 Option.bind (cC.F ((decide ((o3_0_2_18.length:Int)≤(40:Int))),())) fun zy19=>match zy19 with
 | .inl y19=>
 (il (o1_0_0_18,o3_0_0_18,o3_0_1_18,o3_0_2_18,()))
 | .inr n20=>ir (.inr (.inr n20))
 else
 ir (.inl (y15.2.1,o3_0_0,o3_0_1,o3_0_2,())))) (y13.2.1,ok_1_0_0,ok_1_0_1,ok_1_0_2,())) fun (oin_0_21,o3_0_0_21,o3_0_1_21,o3_0_2_21,_)=>
 some (.inl (o3_0_0_21,oin_0_21,o3_0_1_21,o3_0_2_21,())))
 | .inr n22=>some (.inr n22)))) ((1:Int),ok_1_0_0_6,ok_1_0_1_6,ok_1_0_2_6,o0_0_6,()))
 | .inr n23=>some (.inr n23))
 | .inr n24=>some (.inr n24)
theorem bf.ab:bf.b agT=bf.b agI:=by
 unfold bf.b
 simp only [qk,nY]
noncomputable def bf.B:=bf.b agI
noncomputable def bf.F:=stk bf.B
theorem bf.eq:bf.F=bf.B:=aq _
theorem bf.k:Kp cy.s bU.q bf.l Tryz.f239 bf.d (bf.b agT):={}
noncomputable def bf.q:SqL:=bf.d.p [] bf.F::bU.q
theorem bf.c:Ck cy.s bf.q:=cPa bU.c bf.k bf.ab
def br.d:Fe:=⟨271,1,⟨[(0,.v false [.ptr 0 0])],[(0,true,.box 272 [.sl 195 dI])],[],1,[]⟩,⟨[(0,.v false [.int .i64])],[(0,true,.box 272 [.sl 195 dI])],[],1001,[(0,0)]⟩,(.s none .n (.s none .n (.s (some ⟨[],[],[3],0,[]⟩) .n .n)))⟩
noncomputable def br.B:(List aU)×Unit→Option ((Int×(List aU)×Unit)⊕Int):=fun (o0,_)=>
 Option.bind (aP.F (o0,())) fun zy1=>match zy1 with
 | .inl y1=>
 (jn (S:=Unit) (
 (bif (y1.1==(1:Int)) then
 (bif (y1.2.2.1==(2:Int)) then
 (bif (decide (y1.2.2.2.1≥(0:Int))) then
 Option.bind (cC.F ((decide (y1.2.2.2.1≤(99:Int))),())) fun zy2=>match zy2 with
 | .inl y2=>
 (il (()))
 | .inr n3=>ir (.inr n3)
 else
 Option.bind (cC.F (false,())) fun zy4=>match zy4 with
 | .inl y4=>
 (il (()))
 | .inr n5=>ir (.inr n5))
 else
 Option.bind (cC.F (false,())) fun zy6=>match zy6 with
 | .inl y6=>
 (il (()))
 | .inr n7=>ir (.inr n7))
 else
 Option.bind (cC.F (false,())) fun zy8=>match zy8 with
 | .inl y8=>
 (il (()))
 | .inr n9=>ir (.inr n9))) fun (_)=>
 some (.inl (y1.2.2.2.1,y1.2.2.2.2.2.1,())))
 | .inr n11=>some (.inr n11)
noncomputable def br.F:=stk br.B
theorem br.eq:br.F=br.B:=aq _
theorem br.k:Kp cy.s bf.q [] Tryz.f271 br.d br.B:={}
noncomputable def br.q:SqL:=br.d.p [] br.F::bf.q
theorem br.c:Ck cy.s br.q:=cP bf.c br.k
def ae.d:Fe:=⟨240,1,⟨[(0,.v false [.ptr 0 0])],[(0,true,.box 272 [.sl 195 dI])],[],1,[]⟩,⟨[(0,.v true [.str,.str,.str,.int .i64,.int .i64,.ref 1001,.ref 1002,.bool,.ref 1003])],[(0,true,.box 272 [.sl 195 dI]),(1001,false,.arr 126 bD),(1002,false,.arr 3 (.int .i64)),(1003,false,.arr 156 dW)],[],1004,[(0,0)]⟩,(.s none .n (.s none .n (.s none .n (.s none .n (.s (some ⟨[(1,.v false [.ptr 0 0]),(3,.v false [.ptr 2 0])],[(0,true,.box 270 [.ptr 1 0]),(1,true,.box 272 [.sl 195 dI]),(2,true,.box 82 [.str,.str,.str,.int .i64,.int .i64,.ref 3,.ref 4,.bool,.ref 5]),(3,false,.arr 126 bD),(4,false,.arr 3 (.int .i64)),(5,false,.arr 156 dW)],[2],6,[]⟩) .n (.s (some ⟨[(1,.v false [.ptr 0 0]),(3,.v false [.ptr 2 0])],[(0,true,.box 270 [.ptr 1 0]),(1,true,.box 272 [.sl 195 dI]),(2,true,.box 82 [.str,.str,.str,.int .i64,.int .i64,.ref 3,.ref 4,.bool,.ref 5]),(3,false,.arr 126 bD),(4,false,.arr 3 (.int .i64)),(5,false,.arr 156 dW)],[2],6,[]⟩) .n (.s none .n (.s (some ⟨[(1,.v false [.ptr 0 0]),(3,.v false [.ptr 2 0])],[(0,true,.box 270 [.ptr 1 0]),(1,true,.box 272 [.sl 195 dI]),(2,true,.box 82 [.str,.str,.str,.int .i64,.int .i64,.ref 3,.ref 4,.bool,.ref 5]),(3,false,.arr 126 bD),(4,false,.arr 3 (.int .i64)),(5,false,.arr 156 dW)],[2],6,[]⟩) .n .n))))))))⟩
noncomputable def ae.l:InT:=[(267,[(1,273)],Tryz.f267,(.s none .n (.s (some ⟨[(0,.v false [.ptr 4 0])],[(0,true,.box 82 [.str,.str,.str,.int .i64,.int .i64,.ref 1,.ref 2,.bool,.ref 3]),(1,false,.arr 126 bD),(2,false,.arr 3 (.int .i64)),(3,false,.arr 156 dW),(4,true,.box 272 [.sl 195 dI])],[1,4],5,[(0,1003)]⟩) .n (.b (.l ⟨[(0,.v false [.ptr 4 0]),(4,.v false [.int .i64])],[(0,true,.box 82 [.str,.str,.str,.int .i64,.int .i64,.ref 1,.ref 2,.bool,.ref 3]),(1,false,.arr 126 bD),(2,false,.arr 3 (.int .i64)),(3,false,.arr 156 dW),(4,true,.box 272 [.sl 195 dI])],[1],5,[(0,1003)]⟩ .n))))),(267,[(1,274)],Tryz.f267,(.s none .n (.s (some ⟨[(0,.v false [.ptr 4 0])],[(0,true,.box 82 [.str,.str,.str,.int .i64,.int .i64,.ref 1,.ref 2,.bool,.ref 3]),(1,false,.arr 126 bD),(2,false,.arr 3 (.int .i64)),(3,false,.arr 156 dW),(4,true,.box 272 [.sl 195 dI])],[1,4],5,[(0,1003)]⟩) .n (.b (.l ⟨[(0,.v false [.ptr 4 0]),(4,.v false [.int .i64])],[(0,true,.box 82 [.str,.str,.str,.int .i64,.int .i64,.ref 1,.ref 2,.bool,.ref 3]),(1,false,.arr 126 bD),(2,false,.arr 3 (.int .i64)),(3,false,.arr 156 dW),(4,true,.box 272 [.sl 195 dI])],[1],5,[(0,1003)]⟩ .n))))),(273,[],Tryz.f273,.d),(274,[],Tryz.f274,.n)]
noncomputable def ae.b (A:AgF):(List aU)×Unit→Option ((ByteArray×ByteArray×ByteArray×Int×Int×Bool×(List aU)×(List ao)×(List Int)×(List cH)×Unit)⊕Int):=fun (o0,_)=>
 Option.bind (bP.F (o0,())) fun zy1=>match zy1 with
 | .inl y1=>
 ((ap.F ([(⟨#[102,114,111,109]⟩:ByteArray)],y1.2.1,())).bind fun y2=>
 Option.bind (cC.F (y2.1,())) fun zy3=>match zy3 with
 | .inl y3=>
 (Option.bind (bP.F (y2.2.1,())) fun zy4=>match zy4 with
 | .inl y4=>
 (jn (S:=(List aU)×ByteArray×ByteArray×ByteArray×Int×Int×Bool×(List ao)×(List Int)×(List cH)×Unit) (
 (ap.F ([(⟨#[106,111,105,110]⟩:ByteArray)],y4.2.1,())).bind fun y5=>
 (bif y5.1 then
 Option.bind (bP.F (y5.2.1,())) fun zy6=>match zy6 with
 | .inl y6=>
 ((ap.F ([(⟨#[111,110]⟩:ByteArray)],y6.2.1,())).bind fun y7=>
 Option.bind (cC.F (y7.1,())) fun zy8=>match zy8 with
 | .inl y8=>
 (Option.bind (br.F (y7.2.1,())) fun zy9=>match zy9 with
 | .inl y9=>
 (ck (ib (0:Int) 2)<|
 (ap.F ([(⟨#[61]⟩:ByteArray)],y9.2.1,())).bind fun y10=>
 Option.bind (cC.F (y10.1,())) fun zy11=>match zy11 with
 | .inl y11=>
 (Option.bind (br.F (y10.2.1,())) fun zy12=>match zy12 with
 | .inl y12=>
 (ck (ib (1:Int) 2)<|
 il (y12.2.1,y1.1,y4.1,y6.1,y9.1,y12.1,false,[],[],[],()))
 | .inr n13=>ir (.inr n13))
 | .inr n14=>ir (.inr n14))
 | .inr n15=>ir (.inr n15))
 | .inr n16=>ir (.inr n16))
 | .inr n17=>ir (.inr n17)
 else
 il (y5.2.1,y1.1,y4.1,(⟨#[]⟩:ByteArray),(0:Int),(0:Int),false,[],[],[],()))) fun (o1_0_0_18,o3_0_0_18,o3_0_1_18,o3_0_2_18,o3_0_3_18,o3_0_4_18,o3_0_7_18,o3_0_5_18,o3_0_6_18,o3_0_8_18,_)=>
 jn (S:=(List aU)×ByteArray×ByteArray×ByteArray×Int×Int×Bool×(List ao)×(List Int)×(List cH)×Unit) (
 (ap.F ([(⟨#[119,104,101,114,101]⟩:ByteArray)],o1_0_0_18,())).bind fun y19=>
 (bif y19.1 then
 Option.bind (bU.F (y19.2.1,())) fun zy20=>match zy20 with
 | .inl y20=>
 (il (y20.1,o3_0_0_18,o3_0_1_18,o3_0_2_18,o3_0_3_18,o3_0_4_18,o3_0_7_18,y20.2.1,o3_0_6_18,o3_0_8_18,()))
 | .inr n21=>ir (.inr n21)
 else
 il (y19.2.1,o3_0_0_18,o3_0_1_18,o3_0_2_18,o3_0_3_18,o3_0_4_18,o3_0_7_18,o3_0_5_18,o3_0_6_18,o3_0_8_18,()))) fun (o1_0_0_22,o3_0_0_22,o3_0_1_22,o3_0_2_22,o3_0_3_22,o3_0_4_22,o3_0_7_22,o3_0_5_22,o3_0_6_22,o3_0_8_22,_)=>
 (ap.F ([(⟨#[112,105,99,107]⟩:ByteArray)],o1_0_0_22,())).bind fun y23=>
 Option.bind (cC.F (y23.1,())) fun zy24=>match zy24 with
 | .inl y24=>
 (jn (S:=(List aU)×ByteArray×ByteArray×ByteArray×Int×Int×Bool×(List ao)×(List Int)×(List cH)×Unit) (
 (bif (decide ((y23.2.1.length:Int)>(0:Int))) then
 (cv.F ([(⟨#[103,114,111,117,112]⟩:ByteArray)],y23.2.1,())).bind fun y25=>
 (bif (!y25.1) then
 jn (S:=ByteArray×ByteArray×ByteArray×Int×Int×Bool×(List ao)×(List Int)×(List cH)×(List aU)×Unit) (
 (A _ (.n (.n (.n (.n (.l [(.n (.n (.l [(.n (.n .u []) [])]) []) [])]) []) []) [(.n (.n (.l [(.n (.n (.l [(.n (.n .u []) [])]) []) [])]) []) [(.l [(.n (.n (.n (.l [(.n (.n .u []) [])]) []) []) [(.n (.n (.l [(.n (.n .u []) [])]) []) [])])])])]) [(.n (.n (.n (.l [(.n (.n (.l [(.n (.n .u []) [])]) []) [])]) []) [(.l [(.n (.n (.n (.l [(.n (.n .u []) [])]) []) []) [(.n (.n (.l [(.n (.n .u []) [])]) []) [])])])]) [(.l [(.n (.n (.n (.n (.l [(.n (.n .u []) [])]) []) []) [(.n (.n (.l [(.n (.n .u []) [])]) []) [])]) [(.n (.n (.n (.l [(.n (.n .u []) [])]) []) []) [])])])])]) fun t1=>
 Option.bind (br.F (y25.2.1,())) fun zy26=>match zy26 with
 | .inl y26=>
 ((A _ (t1.getD 0 .u) fun t2=>
 ck (Nat.ble (o3_0_6_22.length+ [y26.1].length) 17592186044416)<|
 (A _ (t2.getD 0 .u) fun t3=>
 il (o3_0_0_22,o3_0_1_22,o3_0_2_22,o3_0_3_22,o3_0_4_22,o3_0_7_22,o3_0_5_22,(o3_0_6_22++ [y26.1]),o3_0_8_22,y26.2.1,()))))
 | .inr n27=>ir (.inr (.inr n27)))) fun (ok_1_0_0_28,ok_1_0_1_28,ok_1_0_2_28,ok_1_0_3_28,ok_1_0_4_28,ok_1_0_7_28,ok_1_0_5_28,ok_1_0_6_28,ok_1_0_8_28,o0_0_28,_)=>
 aK (S:=Int×ByteArray×ByteArray×ByteArray×Int×Int×Bool×(List ao)×(List Int)×(List cH)×(List aU)×Unit) (fun (x4,ok_1_0_0,ok_1_0_1,ok_1_0_2,ok_1_0_3,ok_1_0_4,ok_1_0_7,ok_1_0_5,ok_1_0_6,ok_1_0_8,o0_0,_)=>
 (ap.F ([(⟨#[44]⟩:ByteArray)],o0_0,())).bind fun y29=>
 (bif y29.1 then
 let e30:Int:=(wr (x4+(1:Int)))
 Option.bind (cC.F ((decide (e30≤(40:Int))),())) fun zy31=>match zy31 with
 | .inl y31=>
 ((A _ (.n (.n (.n (.n (.l [(.n (.n (.l [(.n (.n .u []) [])]) []) [])]) []) []) [(.n (.n (.l [(.n (.n (.l [(.n (.n .u []) [])]) []) [])]) []) [(.l [(.n (.n (.n (.l [(.n (.n .u []) [])]) []) []) [(.n (.n (.l [(.n (.n .u []) [])]) []) [])])])])]) [(.n (.n (.n (.l [(.n (.n (.l [(.n (.n .u []) [])]) []) [])]) []) [(.l [(.n (.n (.n (.l [(.n (.n .u []) [])]) []) []) [(.n (.n (.l [(.n (.n .u []) [])]) []) [])])])]) [(.l [(.n (.n (.n (.n (.l [(.n (.n .u []) [])]) []) []) [(.n (.n (.l [(.n (.n .u []) [])]) []) [])]) [(.n (.n (.n (.l [(.n (.n .u []) [])]) []) []) [])])])])]) fun t1=>
 Option.bind (br.F (y29.2.1,())) fun zy32=>match zy32 with
 | .inl y32=>
 ((A _ (t1.getD 0 .u) fun t2=>
 ck (Nat.ble (ok_1_0_6.length+ [y32.1].length) 17592186044416)<|
 (A _ (t2.getD 0 .u) fun t3=>
 il (e30,ok_1_0_0,ok_1_0_1,ok_1_0_2,ok_1_0_3,ok_1_0_4,ok_1_0_7,ok_1_0_5,(ok_1_0_6++ [y32.1]),ok_1_0_8,y32.2.1,()))))
 | .inr n33=>ir (.inr (.inr n33))))
 | .inr n34=>ir (.inr (.inr n34))
 else
 ir (.inl (y29.2.1,ok_1_0_0,ok_1_0_1,ok_1_0_2,ok_1_0_3,ok_1_0_4,ok_1_0_7,ok_1_0_5,ok_1_0_6,ok_1_0_8,())))) ((1:Int),ok_1_0_0_28,ok_1_0_1_28,ok_1_0_2_28,ok_1_0_3_28,ok_1_0_4_28,ok_1_0_7_28,ok_1_0_5_28,ok_1_0_6_28,ok_1_0_8_28,o0_0_28,())
 else
 il (y25.2.1,o3_0_0_22,o3_0_1_22,o3_0_2_22,o3_0_3_22,o3_0_4_22,o3_0_7_22,o3_0_5_22,o3_0_6_22,o3_0_8_22,()))
 else
 il (y23.2.1,o3_0_0_22,o3_0_1_22,o3_0_2_22,o3_0_3_22,o3_0_4_22,o3_0_7_22,o3_0_5_22,o3_0_6_22,o3_0_8_22,()))) fun (o1_0_0_35,o3_0_0_35,o3_0_1_35,o3_0_2_35,o3_0_3_35,o3_0_4_35,o3_0_7_35,o3_0_5_35,o3_0_6_35,o3_0_8_35,_)=>
 (ap.F ([(⟨#[103,114,111,117,112]⟩:ByteArray)],o1_0_0_35,())).bind fun y36=>
 (bif y36.1 then
 (bif (decide ((y36.2.1.length:Int)>(0:Int))) then
 jn (S:=ByteArray×ByteArray×ByteArray×Int×Int×Bool×(List ao)×(List Int)×(List cH)×(List aU)×Unit) (
 Option.bind (bz.F ([(⟨#[99,111,117,110,116]⟩:ByteArray),(⟨#[115,117,109]⟩:ByteArray),(⟨#[109,105,110]⟩:ByteArray),(⟨#[109,97,120]⟩:ByteArray)],y36.2.1,())) fun zy37=>match zy37 with
 | .inl y37=>
 ((bif (y37.1 !=(0:Int)) then
 Option.bind (br.F (y37.2.1,())) fun zy38=>match zy38 with
 | .inl y38=>
 (ck (Nat.ble (o3_0_8_35.length+ [(y37.1,y38.1)].length) 8796093022208)<|
 il (o3_0_0_35,o3_0_1_35,o3_0_2_35,o3_0_3_35,o3_0_4_35,y36.1,o3_0_5_35,o3_0_6_35,(o3_0_8_35++ [(y37.1,y38.1)]),y38.2.1,()))
 | .inr n39=>ir (.inr n39)
 else
 ck (Nat.ble (o3_0_8_35.length+ [(y37.1,(0:Int))].length) 8796093022208)<|
 il (o3_0_0_35,o3_0_1_35,o3_0_2_35,o3_0_3_35,o3_0_4_35,y36.1,o3_0_5_35,o3_0_6_35,(o3_0_8_35++ [(y37.1,(0:Int))]),y37.2.1,())))
 | .inr n40=>ir (.inr n40)) fun (ok_1_1_0_41,ok_1_1_1_41,ok_1_1_2_41,ok_1_1_3_41,ok_1_1_4_41,ok_1_1_7_41,ok_1_1_5_41,ok_1_1_6_41,ok_1_1_8_41,o0_0_41,_)=>
 aK (S:=Int×ByteArray×ByteArray×ByteArray×Int×Int×Bool×(List ao)×(List Int)×(List cH)×(List aU)×Unit) (fun (x4,ok_1_1_0,ok_1_1_1,ok_1_1_2,ok_1_1_3,ok_1_1_4,ok_1_1_7,ok_1_1_5,ok_1_1_6,ok_1_1_8,o0_0,_)=>
 (ap.F ([(⟨#[44]⟩:ByteArray)],o0_0,())).bind fun y42=>
 (bif y42.1 then
 let e43:Int:=(wr (x4+(1:Int)))
 Option.bind (cC.F ((decide (e43≤(40:Int))),())) fun zy44=>match zy44 with
 | .inl y44=>
 (Option.bind (bz.F ([(⟨#[99,111,117,110,116]⟩:ByteArray),(⟨#[115,117,109]⟩:ByteArray),(⟨#[109,105,110]⟩:ByteArray),(⟨#[109,97,120]⟩:ByteArray)],y42.2.1,())) fun zy45=>match zy45 with
 | .inl y45=>
 ((bif (y45.1 !=(0:Int)) then
 Option.bind (br.F (y45.2.1,())) fun zy46=>match zy46 with
 | .inl y46=>
 (ck (Nat.ble (ok_1_1_8.length+ [(y45.1,y46.1)].length) 8796093022208)<|
 il (e43,ok_1_1_0,ok_1_1_1,ok_1_1_2,ok_1_1_3,ok_1_1_4,ok_1_1_7,ok_1_1_5,ok_1_1_6,(ok_1_1_8++ [(y45.1,y46.1)]),y46.2.1,()))
 | .inr n47=>ir (.inr n47)
 else
 ck (Nat.ble (ok_1_1_8.length+ [(y45.1,(0:Int))].length) 8796093022208)<|
 il (e43,ok_1_1_0,ok_1_1_1,ok_1_1_2,ok_1_1_3,ok_1_1_4,ok_1_1_7,ok_1_1_5,ok_1_1_6,(ok_1_1_8++ [(y45.1,(0:Int))]),y45.2.1,())))
 | .inr n48=>ir (.inr n48))
 | .inr n49=>ir (.inr n49)
 else
 ir (.inl (ok_1_1_0,ok_1_1_1,ok_1_1_2,ok_1_1_3,ok_1_1_4,ok_1_1_7,y42.2.1,ok_1_1_5,ok_1_1_6,ok_1_1_8,())))) ((1:Int),ok_1_1_0_41,ok_1_1_1_41,ok_1_1_2_41,ok_1_1_3_41,ok_1_1_4_41,ok_1_1_7_41,ok_1_1_5_41,ok_1_1_6_41,ok_1_1_8_41,o0_0_41,())
 else
 some (.inl (o3_0_0_35,o3_0_1_35,o3_0_2_35,o3_0_3_35,o3_0_4_35,y36.1,y36.2.1,o3_0_5_35,o3_0_6_35,o3_0_8_35,())))
 else
 some (.inl (o3_0_0_35,o3_0_1_35,o3_0_2_35,o3_0_3_35,o3_0_4_35,y36.1,y36.2.1,o3_0_5_35,o3_0_6_35,o3_0_8_35,()))))
 | .inr n50=>some (.inr n50))
 | .inr n51=>some (.inr n51))
 | .inr n52=>some (.inr n52))
 | .inr n53=>some (.inr n53)
theorem ae.ab:ae.b agT=ae.b agI:=by
 unfold ae.b
 simp only [qk,nY]
noncomputable def ae.B:=ae.b agI
noncomputable def ae.F:=stk ae.B
theorem ae.eq:ae.F=ae.B:=aq _
theorem ae.k:Kp cy.s br.q ae.l Tryz.f240 ae.d (ae.b agT):={}
noncomputable def ae.q:SqL:=ae.d.p [] ae.F::br.q
theorem ae.c:Ck cy.s ae.q:=cPa br.c ae.k ae.ab
def cj.d:Fe:=⟨207,1,⟨[(0,.v false [.str])],[],[],0,[]⟩,⟨[(0,.tup [(true,[.int .i64,.str,.ref 1000,.ref 1001,.str,.str,.str,.int .i64,.int .i64,.ref 1002,.ref 1003,.bool,.ref 1004]),(false,[.int .i64])])],[(1000,false,.arr 75 aX),(1001,false,.arr 78 (.sl 126 bD)),(1002,false,.arr 126 bD),(1003,false,.arr 3 (.int .i64)),(1004,false,.arr 156 dW)],[],1005,[]⟩,.n⟩
noncomputable def cj.B:ByteArray×Unit→Option (Int×ByteArray×ByteArray×ByteArray×ByteArray×Int×Int×Bool×Int×(List aC)×(List (List ao))×(List ao)×(List Int)×(List cH)×Unit):=fun (p0,_)=>
 (fN.F (p0,())).bind fun y1=>
 (bif (y1.1 !=(0:Int)) then
 some ((0:Int),(⟨#[]⟩:ByteArray),(⟨#[]⟩:ByteArray),(⟨#[]⟩:ByteArray),(⟨#[]⟩:ByteArray),(0:Int),(0:Int),false,y1.1,[],[],[],[],[],())
 else
 Option.bind (bz.F ([(⟨#[116,97,98,108,101]⟩:ByteArray),(⟨#[118,105,101,119]⟩:ByteArray)],y1.2.1,())) fun zy2=>match zy2 with
 | .inl y2=>
 ((bif (y2.1==(0:Int)) then
 Option.bind (bf.F (y2.2.1,())) fun zy3=>match zy3 with
 | .inl y3=>
 (Option.bind (cC.F (((y3.2.1.length:Int)==(0:Int)),())) fun zy4=>match zy4 with
 | .inl y4=>
 (some (y2.1,y3.1,(⟨#[]⟩:ByteArray),(⟨#[]⟩:ByteArray),(⟨#[]⟩:ByteArray),(0:Int),(0:Int),false,(0:Int),y3.2.2.1,y3.2.2.2.1,[],[],[],()))
 | .inr n5=>some ((0:Int),(⟨#[]⟩:ByteArray),(⟨#[]⟩:ByteArray),(⟨#[]⟩:ByteArray),(⟨#[]⟩:ByteArray),(0:Int),(0:Int),false,n5,[],[],[],[],[],()))
 | .inr n6=>some ((0:Int),(⟨#[]⟩:ByteArray),(⟨#[]⟩:ByteArray),(⟨#[]⟩:ByteArray),(⟨#[]⟩:ByteArray),(0:Int),(0:Int),false,n6,[],[],[],[],[],())
 else
 Option.bind (ae.F (y2.2.1,())) fun zy7=>match zy7 with
 | .inl y7=>
 (Option.bind (cC.F (((y7.2.2.2.2.2.2.1.length:Int)==(0:Int)),())) fun zy8=>match zy8 with
 | .inl y8=>
 (some (y2.1,(⟨#[]⟩:ByteArray),y7.1,y7.2.1,y7.2.2.1,y7.2.2.2.1,y7.2.2.2.2.1,y7.2.2.2.2.2.1,(0:Int),[],[],y7.2.2.2.2.2.2.2.1,y7.2.2.2.2.2.2.2.2.1,y7.2.2.2.2.2.2.2.2.2.1,()))
 | .inr n9=>some ((0:Int),(⟨#[]⟩:ByteArray),(⟨#[]⟩:ByteArray),(⟨#[]⟩:ByteArray),(⟨#[]⟩:ByteArray),(0:Int),(0:Int),false,n9,[],[],[],[],[],()))
 | .inr n10=>some ((0:Int),(⟨#[]⟩:ByteArray),(⟨#[]⟩:ByteArray),(⟨#[]⟩:ByteArray),(⟨#[]⟩:ByteArray),(0:Int),(0:Int),false,n10,[],[],[],[],[],())))
 | .inr n11=>some ((0:Int),(⟨#[]⟩:ByteArray),(⟨#[]⟩:ByteArray),(⟨#[]⟩:ByteArray),(⟨#[]⟩:ByteArray),(0:Int),(0:Int),false,n11,[],[],[],[],[],()))
noncomputable def cj.F:=stk cj.B
theorem cj.eq:cj.F=cj.B:=aq _
noncomputable def cj.pre:List (Code×H):=[(lC (Tryz.f207.body.getD .skip),.n),(lC (rC' (Tryz.f207.body.getD .skip)),.n),(lC (rC' (rC' (Tryz.f207.body.getD .skip))),.n)]
noncomputable def cj.E:Code:=(rC' (rC' (rC' (rC' (Tryz.f207.body.getD .skip)))))
noncomputable def cj.G:Code:=(rC' (Tryz.f237.body.getD .skip))
def cj.hE:H:=.n
def cj.hG:H:=.n
theorem cj.ev (x:TS cj.d.si):vd (cx cy.s ae.q) (inl3 (cx cy.s ae.q) []) cj.pre cj.E cj.hE cj.G cj.hG 2 3 15 5 Tryz.f207.results.toList cj.d.si cj.d.so x=cj.B x:=by kernel_rfl
theorem cj.ins:wK PP []:=by repeat' first|exact trivial|refine And.intro ?_ ?_|kernel_rfl
theorem cj.ok:fk PP 207 ⟨1,cj.d.si,cj.d.so,cj.F⟩:=
 Aj (pre:=cj.pre) (i:=4) (om:=opC (lC (rC' (rC' (rC' (Tryz.f207.body.getD .skip))))) 0) (od:=opC (lC (rC' (rC' (rC' (Tryz.f207.body.getD .skip))))) 1) (E:=cj.E) (f:=237) (p:=2) (q:=3) (t:=15) (ir:=0) (tr:=5) (or:=opC (lC (Tryz.f237.body.getD .skip)) 0) (G:=cj.G) ae.c (ou ae.c mixed cj.ins) mixed Tryz.func207 (by kernel_rfl) ⟨by kernel_rfl,by kernel_rfl,by kernel_rfl,by kernel_rfl,by kernel_rfl,by kernel_rfl⟩ Tryz.func237 (by kernel_rfl) (by kernel_rfl) ⟨⟨#[],by kernel_rfl⟩,by kernel_rfl,by kernel_rfl⟩ (by kernel_rfl) (by kernel_rfl) (by kernel_rfl) (by kernel_rfl) cj.hE cj.hG (by kernel_rfl) cj.ev
noncomputable def cj.s:SpL:=cj.d.e [] cj.F::cy.s
theorem cj.c:Ck cj.s ae.q:=gK.consS ae.c [] ⟨_,Tryz.func207,by kernel_rfl,by decide⟩ cj.ok
def au.d:Fe:=⟨244,2,⟨[(0,.v false [.sl 126 bD]),(1,.v false [.sl 126 bD])],[],[],0,[]⟩,⟨[(0,.v false [.bool])],[],[],1000,[]⟩,(.s none .n (.s none .n (.s none (.s none .n (.b (.l ⟨[(13,.v false [.int .i64])],[],[0,1,12],0,[]⟩ .n))) .n)))⟩
noncomputable def au.B:(List ao)×(List ao)×Unit→Option (Bool×Unit):=fun (p0,p1,_)=>
 (bif ((p0.length:Int) !=(p1.length:Int)) then
 some (false,())
 else
 aK (S:=Int×Unit) (fun (x13,_)=>
 (bif (decide (x13<(p0.length:Int))) then
 ck (ib x13 p0.length)<|
 let e1:ao:=(gt p0 x13 bD.z)
 ck (ib x13 p1.length)<|
 let e2:ao:=(gt p1 x13 bD.z)
 (bif (!(Ty.eq bD e1 e2)) then
 ir (false,())
 else
 let e3:Int:=(wr (x13+(1:Int)))
 il (e3,()))
 else
 ir (true,()))) ((0:Int),()))
noncomputable def au.F:=stk au.B
theorem au.eq:au.F=au.B:=aq _
theorem au.k:Kk cj.s ae.q [] Tryz.f244 au.d au.B:={}
noncomputable def au.s:SpL:=au.d.e [] au.F::cj.s
theorem au.c:Ck au.s ae.q:=cS cj.c au.k
def dZ.d:Fe:=⟨243,2,⟨[(0,.v false [.sl 126 bD]),(1,.v false [.sl 126 bD])],[],[],0,[]⟩,⟨[(0,.v false [.bool])],[],[],1000,[]⟩,.n⟩
noncomputable def dZ.B:(List ao)×(List ao)×Unit→Option (Bool×Unit):=fun (p0,p1,_)=>
 (au.F (p0,p1,())).bind fun y1=>
 some (y1.1,())
noncomputable def dZ.F:=stk dZ.B
theorem dZ.eq:dZ.F=dZ.B:=aq _
theorem dZ.k:Kk au.s ae.q [] Tryz.f243 dZ.d dZ.B:={}
noncomputable def dZ.s:SpL:=dZ.d.e [] dZ.F::au.s
theorem dZ.c:Ck dZ.s ae.q:=cS au.c dZ.k
def aj.d:Fe:=⟨245,2,⟨[(0,.v false [.sl 75 aX]),(1,.v false [.sl 75 aX])],[],[],0,[]⟩,⟨[(0,.v false [.bool])],[],[],1000,[]⟩,(.s none .n (.s none .n (.s none (.s none .n (.b (.l ⟨[(13,.v false [.int .i64])],[],[0,1,12],0,[]⟩ .n))) .n)))⟩
noncomputable def aj.B:(List aC)×(List aC)×Unit→Option (Bool×Unit):=fun (p0,p1,_)=>
 (bif ((p0.length:Int) !=(p1.length:Int)) then
 some (false,())
 else
 aK (S:=Int×Unit) (fun (x13,_)=>
 (bif (decide (x13<(p0.length:Int))) then
 ck (ib x13 p0.length)<|
 let e1:aC:=(gt p0 x13 aX.z)
 ck (ib x13 p1.length)<|
 let e2:aC:=(gt p1 x13 aX.z)
 (bif (!(Ty.eq aX e1 e2)) then
 ir (false,())
 else
 let e3:Int:=(wr (x13+(1:Int)))
 il (e3,()))
 else
 ir (true,()))) ((0:Int),()))
noncomputable def aj.F:=stk aj.B
theorem aj.eq:aj.F=aj.B:=aq _
theorem aj.k:Kk dZ.s ae.q [] Tryz.f245 aj.d aj.B:={}
noncomputable def aj.s:SpL:=aj.d.e [] aj.F::dZ.s
theorem aj.c:Ck aj.s ae.q:=cS dZ.c aj.k
def aW.d:Fe:=⟨246,2,⟨[(0,.v false [.sl 3 (.int .i64)]),(1,.v false [.sl 3 (.int .i64)])],[],[],0,[]⟩,⟨[(0,.v false [.bool])],[],[],1000,[]⟩,(.s none .n (.s none .n (.s none (.s none .n (.b (.l ⟨[(13,.v false [.int .i64])],[],[0,1,12],0,[]⟩ .n))) .n)))⟩
noncomputable def aW.B:(List Int)×(List Int)×Unit→Option (Bool×Unit):=fun (p0,p1,_)=>
 (bif ((p0.length:Int) !=(p1.length:Int)) then
 some (false,())
 else
 aK (S:=Int×Unit) (fun (x13,_)=>
 (bif (decide (x13<(p0.length:Int))) then
 ck (ib x13 p0.length)<|
 let e1:Int:=(gt p0 x13 (0:Int))
 ck (ib x13 p1.length)<|
 let e2:Int:=(gt p1 x13 (0:Int))
 (bif (e1 !=e2) then
 ir (false,())
 else
 let e3:Int:=(wr (x13+(1:Int)))
 il (e3,()))
 else
 ir (true,()))) ((0:Int),()))
noncomputable def aW.F:=stk aW.B
theorem aW.eq:aW.F=aW.B:=aq _
theorem aW.k:Kk aj.s ae.q [] Tryz.f246 aW.d aW.B:={}
noncomputable def aW.s:SpL:=aW.d.e [] aW.F::aj.s
theorem aW.c:Ck aW.s ae.q:=cS aj.c aW.k
def av.d:Fe:=⟨247,2,⟨[(0,.v false [.sl 156 dW]),(1,.v false [.sl 156 dW])],[],[],0,[]⟩,⟨[(0,.v false [.bool])],[],[],1000,[]⟩,(.s none .n (.s none .n (.s none (.s none .n (.b (.l ⟨[(13,.v false [.int .i64])],[],[0,1,12],0,[]⟩ .n))) .n)))⟩
noncomputable def av.B:(List cH)×(List cH)×Unit→Option (Bool×Unit):=fun (p0,p1,_)=>
 (bif ((p0.length:Int) !=(p1.length:Int)) then
 some (false,())
 else
 aK (S:=Int×Unit) (fun (x13,_)=>
 (bif (decide (x13<(p0.length:Int))) then
 ck (ib x13 p0.length)<|
 let e1:cH:=(gt p0 x13 dW.z)
 ck (ib x13 p1.length)<|
 let e2:cH:=(gt p1 x13 dW.z)
 (bif (!(Ty.eq dW e1 e2)) then
 ir (false,())
 else
 let e3:Int:=(wr (x13+(1:Int)))
 il (e3,()))
 else
 ir (true,()))) ((0:Int),()))
noncomputable def av.F:=stk av.B
theorem av.eq:av.F=av.B:=aq _
theorem av.k:Kk aW.s ae.q [] Tryz.f247 av.d av.B:={}
noncomputable def av.s:SpL:=av.d.e [] av.F::aW.s
theorem av.c:Ck av.s ae.q:=cS aW.c av.k
def fa.d:Fe:=⟨208,2,⟨[(0,.v true [.int .i64,.str,.sl 75 aX,.sl 78 (.sl 126 bD),.str,.str,.str,.int .i64,.int .i64,.sl 126 bD,.sl 3 (.int .i64),.bool,.sl 156 dW]),(1,.v true [.int .i64,.str,.sl 75 aX,.sl 78 (.sl 126 bD),.str,.str,.str,.int .i64,.int .i64,.sl 126 bD,.sl 3 (.int .i64),.bool,.sl 156 dW])],[],[],0,[]⟩,⟨[(0,.v false [.bool])],[],[],1000,[]⟩,(.s none .n (.s none .n (.s none .n (.s (some ⟨[(10,.v false [.bool])],[],[2,3,7,8],0,[]⟩) .n (.s (some ⟨[(11,.v false [.bool])],[],[2,3,10],0,[]⟩) .n .n)))))⟩
noncomputable def fa.l:InT:=[(242,[],Tryz.f242,(.s none .n (.s none .n (.s none (.s none .n (.b (.l ⟨[(17,.v false [.int .i64])],[],[1,2,15,16],0,[]⟩ (.s none .n (.s none .n (.s none (.b (.s none .n (.s none .n (.s (some ⟨[(30,.v false [.bool])],[],[1,2,15,16,17],0,[]⟩) .n .n)))) .n)))))) .n))))]
noncomputable def fa.B:Int×ByteArray×(List aC)×(List (List ao))×ByteArray×ByteArray×ByteArray×Int×Int×(List ao)×(List Int)×Bool×(List cH)×Int×ByteArray×(List aC)×(List (List ao))×ByteArray×ByteArray×ByteArray×Int×Int×(List ao)×(List Int)×Bool×(List cH)×Unit→Option (Bool×Unit):=fun (p0_0,p0_1,p0_2,p0_3,p0_4,p0_5,p0_6,p0_7,p0_8,p0_9,p0_10,p0_11,p0_12,p1_0,p1_1,p1_2,p1_3,p1_4,p1_5,p1_6,p1_7,p1_8,p1_9,p1_10,p1_11,p1_12,_)=>
 (bif ((p0_3.length:Int) !=(p1_3.length:Int)) then
 jn (S:=Bool×Unit) (
 (bif (sq p0_1 p1_1) then
 (aj.F (p0_2,p1_2,())).bind fun y1=>
 (bif y1.1 then
 il (false,())
 else
 il (false,()))
 else
 il (false,()))) fun (x10_2,_)=>
 jn (S:=Bool×Unit) (
 (bif (sq p0_4 p1_4) then
 (bif (sq p0_5 p1_5) then
 (bif (sq p0_6 p1_6) then
 (bif (Ty.eq dW (p0_7,p0_8) (p1_7,p1_8)) then
 (au.F (p0_9,p1_9,())).bind fun y3=>
 (bif y3.1 then
 (aW.F (p0_10,p1_10,())).bind fun y4=>
 (bif y4.1 then
 (bif (p0_11==p1_11) then
 (av.F (p0_12,p1_12,())).bind fun y5=>
 il (y5.1,())
 else
 il (false,()))
 else
 il (false,()))
 else
 il (false,()))
 else
 il (false,()))
 else
 il (false,()))
 else
 il (false,()))
 else
 il (false,()))) fun (x11_6,_)=>
 (bif (p0_0==p1_0) then
 (bif x10_2 then
 some (x11_6,())
 else
 some (false,()))
 else
 some (false,()))
 else
 aK (S:=Int×Unit) (fun (x17,_)=>
 (bif (decide (x17<(p0_3.length:Int))) then
 ck (ib x17 p0_3.length)<|
 let e7:(List ao):=(gt p0_3 x17 [])
 ck (ib x17 p1_3.length)<|
 let e8:(List ao):=(gt p1_3 x17 [])
 jn (S:=Bool×Unit) (
 (dZ.F (e7,e8,())).bind fun y9=>
 il ((!y9.1),())) fun (x30_10,_)=>
 (bif x30_10 then
 Option.map Sum.inr (jn (S:=Bool×Unit) (
 (bif (sq p0_1 p1_1) then
 (aj.F (p0_2,p1_2,())).bind fun y11=>
 (bif y11.1 then
 il (false,())
 else
 il (false,()))
 else
 il (false,()))) fun (x10_12,_)=>
 jn (S:=Bool×Unit) (
 (bif (sq p0_4 p1_4) then
 (bif (sq p0_5 p1_5) then
 (bif (sq p0_6 p1_6) then
 (bif (Ty.eq dW (p0_7,p0_8) (p1_7,p1_8)) then
 (au.F (p0_9,p1_9,())).bind fun y13=>
 (bif y13.1 then
 (aW.F (p0_10,p1_10,())).bind fun y14=>
 (bif y14.1 then
 (bif (p0_11==p1_11) then
 (av.F (p0_12,p1_12,())).bind fun y15=>
 il (y15.1,())
 else
 il (false,()))
 else
 il (false,()))
 else
 il (false,()))
 else
 il (false,()))
 else
 il (false,()))
 else
 il (false,()))
 else
 il (false,()))) fun (x11_16,_)=>
 (bif (p0_0==p1_0) then
 (bif x10_12 then
 some (x11_16,())
 else
 some (false,()))
 else
 some (false,())))
 else
 let e17:Int:=(wr (x17+(1:Int)))
 il (e17,()))
 else
 Option.map Sum.inr (jn (S:=Bool×Unit) (
 (bif (sq p0_1 p1_1) then
 (aj.F (p0_2,p1_2,())).bind fun y18=>
 (bif y18.1 then
 il (true,())
 else
 il (false,()))
 else
 il (false,()))) fun (x10_19,_)=>
 jn (S:=Bool×Unit) (
 (bif (sq p0_4 p1_4) then
 (bif (sq p0_5 p1_5) then
 (bif (sq p0_6 p1_6) then
 (bif (Ty.eq dW (p0_7,p0_8) (p1_7,p1_8)) then
 (au.F (p0_9,p1_9,())).bind fun y20=>
 (bif y20.1 then
 (aW.F (p0_10,p1_10,())).bind fun y21=>
 (bif y21.1 then
 (bif (p0_11==p1_11) then
 (av.F (p0_12,p1_12,())).bind fun y22=>
 il (y22.1,())
 else
 il (false,()))
 else
 il (false,()))
 else
 il (false,()))
 else
 il (false,()))
 else
 il (false,()))
 else
 il (false,()))
 else
 il (false,()))) fun (x11_23,_)=>
 (bif (p0_0==p1_0) then
 (bif x10_19 then
 some (x11_23,())
 else
 some (false,()))
 else
 some (false,()))))) ((0:Int),()))
noncomputable def fa.F:=stk fa.B
theorem fa.eq:fa.F=fa.B:=aq _
theorem fa.k:Kk av.s ae.q fa.l Tryz.f208 fa.d fa.B:={}
noncomputable def fa.s:SpL:=fa.d.e [] fa.F::av.s
theorem fa.c:Ck fa.s ae.q:=cS av.c fa.k
def eT.d:Fe:=⟨179,1,⟨[(0,.v true [.int .i64,.str,.sl 75 aX,.sl 78 (.sl 126 bD),.str,.str,.str,.int .i64,.int .i64,.sl 126 bD,.sl 3 (.int .i64),.bool,.sl 156 dW])],[],[],0,[]⟩,⟨[(0,.v false [.str])],[],[],1000,[]⟩,(.s none .n (.s none .n (.s (some ⟨[(3,.v false [.ptr 0 0])],[(0,true,.box 243 [.ref 1]),(1,false,.arr 9 .str)],[1],2,[]⟩) .n .n)))⟩
noncomputable def eT.B:Int×ByteArray×(List aC)×(List (List ao))×ByteArray×ByteArray×ByteArray×Int×Int×(List ao)×(List Int)×Bool×(List cH)×Unit→Option (ByteArray×Unit):=fun (p0_0,p0_1,p0_2,p0_3,p0_4,p0_5,p0_6,p0_7,p0_8,p0_9,p0_10,p0_11,p0_12,_)=>
 jn (S:=(List ByteArray)×Unit) (
 (bif (p0_0==(0:Int)) then
 (bH.F (p0_1,p0_2,p0_3,[],())).bind fun y1=>
 il (y1.1,())
 else
 (bR.F (p0_4,p0_5,p0_6,p0_7,p0_8,p0_9,p0_10,p0_11,p0_12,[],())).bind fun y2=>
 il (y2.1,()))) fun (o3_0_0_3,_)=>
 (strings_Join.F (o3_0_0_3,(⟨#[32]⟩:ByteArray),())).bind fun y4=>
 (bif (decide ((y4.1.size:Int)>(20000:Int))) then
 some ((⟨#[]⟩:ByteArray),())
 else
 (cj.F (y4.1,())).bind fun y5=>
 (bif (y5.2.2.2.2.2.2.2.2.1 !=(0:Int)) then
 some ((⟨#[]⟩:ByteArray),())
 else
 (fa.F (p0_0,p0_1,p0_2,p0_3,p0_4,p0_5,p0_6,p0_7,p0_8,p0_9,p0_10,p0_11,p0_12,y5.1,y5.2.1,y5.2.2.2.2.2.2.2.2.2.1,y5.2.2.2.2.2.2.2.2.2.2.1,y5.2.2.1,y5.2.2.2.1,y5.2.2.2.2.1,y5.2.2.2.2.2.1,y5.2.2.2.2.2.2.1,y5.2.2.2.2.2.2.2.2.2.2.2.1,y5.2.2.2.2.2.2.2.2.2.2.2.2.1,y5.2.2.2.2.2.2.2.1,y5.2.2.2.2.2.2.2.2.2.2.2.2.2.1,())).bind fun y6=>
 (bif (!y6.1) then
 some ((⟨#[]⟩:ByteArray),())
 else
 some (y4.1,()))))
noncomputable def eT.F:=stk eT.B
theorem eT.eq:eT.F=eT.B:=aq _
theorem eT.k:Kk fa.s ae.q [] Tryz.f179 eT.d eT.B:={}
noncomputable def eT.s:SpL:=eT.d.e [] eT.F::fa.s
theorem eT.c:Ck eT.s ae.q:=cS fa.c eT.k
def gn.d:Fe:=⟨138,1,⟨[(0,.v true [.int .i64,.str,.sl 75 aX,.sl 78 (.sl 126 bD),.str,.str,.str,.int .i64,.int .i64,.sl 126 bD,.sl 3 (.int .i64),.bool,.sl 156 dW])],[],[],0,[]⟩,⟨[(0,.v false [.bool])],[],[],1000,[]⟩,.n⟩
noncomputable def gn.B:Int×ByteArray×(List aC)×(List (List ao))×ByteArray×ByteArray×ByteArray×Int×Int×(List ao)×(List Int)×Bool×(List cH)×Unit→Option (Bool×Unit):=fun (p0_0,p0_1,p0_2,p0_3,p0_4,p0_5,p0_6,p0_7,p0_8,p0_9,p0_10,p0_11,p0_12,_)=>
 (eT.F (p0_0,p0_1,p0_2,p0_3,p0_4,p0_5,p0_6,p0_7,p0_8,p0_9,p0_10,p0_11,p0_12,())).bind fun y1=>
 some ((!sq y1.1 (⟨#[]⟩:ByteArray)),())
noncomputable def gn.F:=stk gn.B
theorem gn.eq:gn.F=gn.B:=aq _
theorem gn.k:Kk eT.s ae.q [] Tryz.f138 gn.d gn.B:={}
noncomputable def gn.s:SpL:=gn.d.e [] gn.F::eT.s
theorem gn.c:Ck gn.s ae.q:=cS eT.c gn.k
def dK.d:Fe:=⟨86,1,⟨[(0,.v true [.int .i64,.str,.sl 75 aX,.sl 78 (.sl 126 bD),.str,.str,.str,.int .i64,.int .i64,.sl 126 bD,.sl 3 (.int .i64),.bool,.sl 156 dW])],[],[],0,[]⟩,⟨[(0,.v false [.str])],[],[],1000,[]⟩,.n⟩
noncomputable def dK.B:Int×ByteArray×(List aC)×(List (List ao))×ByteArray×ByteArray×ByteArray×Int×Int×(List ao)×(List Int)×Bool×(List cH)×Unit→Option (ByteArray×Unit):=fun (p0_0,p0_1,p0_2,p0_3,p0_4,p0_5,p0_6,p0_7,p0_8,p0_9,p0_10,p0_11,p0_12,_)=>
 (bif (p0_0==(0:Int)) then
 some (p0_1,())
 else
 some (p0_4,()))
noncomputable def dK.F:=stk dK.B
theorem dK.eq:dK.F=dK.B:=aq _
theorem dK.k:Kk gn.s ae.q [] Tryz.f86 dK.d dK.B:={}
noncomputable def dK.s:SpL:=dK.d.e [] dK.F::gn.s
theorem dK.c:Ck dK.s ae.q:=cS gn.c dK.k
def cF.d:Fe:=⟨45,2,⟨[(0,.v false [.sl 84 gv]),(1,.v false [.str])],[],[],0,[]⟩,⟨[(0,.v false [.int .i64])],[],[],1000,[]⟩,.n⟩
noncomputable def cF.l:InT:=[(84,[(1,85)],Tryz.f84,(.s none .n (.s none (.s none .n (.b (.l ⟨[(8,.v false [.int .i64])],[],[0,1,7],0,[]⟩ (.s none .n (.s none .n (.s none (.b (.s none .n (.s (some ⟨[(16,.v false [.bool])],[],[0,1,5,7,8],0,[]⟩) .n .n))) .n)))))) .n))),(85,[],Tryz.f85,.n)]
noncomputable def cF.B:(List bx)×ByteArray×Unit→Option (Int×Unit):=fun (p0,p1,_)=>
 aK (S:=Int×Unit) (fun (x8,_)=>
 (bif (decide (x8<(p0.length:Int))) then
 jn (S:=Bool×Unit) (
 ck (ib x8 p0.length)<|
 let e1:bx:=(gt p0 x8 gv.z)
 (dK.F (e1.1,e1.2.1.1,e1.2.1.2.1,e1.2.1.2.2,e1.2.2.1,e1.2.2.2.1,e1.2.2.2.2.1,e1.2.2.2.2.2.1.1,e1.2.2.2.2.2.1.2,e1.2.2.2.2.2.2.1,e1.2.2.2.2.2.2.2.1,e1.2.2.2.2.2.2.2.2.1,e1.2.2.2.2.2.2.2.2.2,())).bind fun y2=>
 il ((sq y2.1 p1),())) fun (x16_3,_)=>
 (bif x16_3 then
 ir (x8,())
 else
 let e4:Int:=(wr (x8+(1:Int)))
 il (e4,()))
 else
 ir ((-1:Int),()))) ((0:Int),())
noncomputable def cF.F:=stk cF.B
theorem cF.eq:cF.F=cF.B:=aq _
theorem cF.k:Kk dK.s ae.q cF.l Tryz.f45 cF.d cF.B:={}
noncomputable def cF.s:SpL:=cF.d.e [] cF.F::dK.s
theorem cF.c:Ck cF.s ae.q:=cS dK.c cF.k
def dQ.d:Fe:=⟨275,2,⟨[(0,.v false [.int .u32]),(1,.v false [.int .u32])],[],[],0,[]⟩,⟨[(0,.tup [(false,[.int .u32]),(false,[.int .u32])])],[],[],1000,[]⟩,.n⟩
noncomputable def dQ.B:Int×Int×Unit→Option (Int×Int×Unit):=fun (p0,p1,_)=>
 let e1:Int:=(IntKind.u64.wrap ((IntKind.u64.wrap (p0))*(IntKind.u64.wrap (p1))))
 ck (!decide ((32:Int)<0))<|
 some ((IntKind.u32.wrap ((Int.fdiv e1 (2^min (Int.toNat (32:Int)) IntKind.u64.bits)))),(IntKind.u32.wrap (e1)),())
noncomputable def dQ.F:=stk dQ.B
theorem dQ.k:Kk cF.s ae.q [] Tryz.f275 dQ.d dQ.B:={}
noncomputable def dQ.s:SpL:=dQ.d.e [] dQ.F::cF.s
theorem dQ.c:Ck dQ.s ae.q:=cS cF.c dQ.k
def cp.d:Fe:=⟨255,2,⟨[(0,.v false [.int .u64]),(1,.v false [.int .u64])],[],[],0,[]⟩,⟨[(0,.tup [(false,[.int .u64]),(false,[.int .u64])])],[],[],1000,[]⟩,.n⟩
noncomputable def cp.B:Int×Int×Unit→Option (Int×Int×Unit):=fun (p0,p1,_)=>
 let e1:Int:=(IntKind.u64.wrap (((BitVec.ofInt IntKind.u64.bits p0&&&BitVec.ofInt IntKind.u64.bits (4294967295:Int)).toNat:Nat)))
 ck (!decide ((32:Int)<0))<|
 let e2:Int:=(IntKind.u64.wrap (((BitVec.ofInt IntKind.u64.bits p1&&&BitVec.ofInt IntKind.u64.bits (4294967295:Int)).toNat:Nat)))
 ck (!decide ((32:Int)<0))<|
 let e3:Int:=(IntKind.u64.wrap (e1*e2))
 let e4:Int:=(IntKind.u64.wrap ((Int.fdiv p0 (2^min (Int.toNat (32:Int)) IntKind.u64.bits))*e2))
 ck (!decide ((32:Int)<0))<|
 let e5:Int:=(IntKind.u64.wrap (e4+(Int.fdiv e3 (2^min (Int.toNat (32:Int)) IntKind.u64.bits))))
 let e6:Int:=(IntKind.u64.wrap (((BitVec.ofInt IntKind.u64.bits e5&&&BitVec.ofInt IntKind.u64.bits (4294967295:Int)).toNat:Nat)))
 ck (!decide ((32:Int)<0))<|
 let e7:Int:=(IntKind.u64.wrap (e1*(Int.fdiv p1 (2^min (Int.toNat (32:Int)) IntKind.u64.bits))))
 let e8:Int:=(IntKind.u64.wrap (e6+e7))
 let e9:Int:=(IntKind.u64.wrap ((Int.fdiv p0 (2^min (Int.toNat (32:Int)) IntKind.u64.bits))*(Int.fdiv p1 (2^min (Int.toNat (32:Int)) IntKind.u64.bits))))
 let e10:Int:=(IntKind.u64.wrap (e9+(Int.fdiv e5 (2^min (Int.toNat (32:Int)) IntKind.u64.bits))))
 ck (!decide ((32:Int)<0))<|
 let e11:Int:=(IntKind.u64.wrap (e10+(Int.fdiv e8 (2^min (Int.toNat (32:Int)) IntKind.u64.bits))))
 let e12:Int:=(IntKind.u64.wrap (p0*p1))
 some (e11,e12,())
noncomputable def cp.F:=stk cp.B
theorem cp.eq:cp.F=cp.B:=aq _
theorem cp.k:Kk dQ.s ae.q [] Tryz.f255 cp.d cp.B:={}
noncomputable def cp.s:SpL:=cp.d.e [] cp.F::dQ.s
theorem cp.c:Ck cp.s ae.q:=cS dQ.c cp.k
def di.d:Fe:=⟨248,2,⟨[(0,.v false [.int .u64]),(1,.v false [.int .u64])],[],[],0,[]⟩,⟨[(0,.tup [(false,[.int .u64]),(false,[.int .u64])])],[],[],1000,[]⟩,.n⟩
noncomputable def di.B:Int×Int×Unit→Option (Int×Int×Unit):=fun (p0,p1,_)=>
 (cp.F (p0,p1,())).bind fun y1=>
 some (y1.1,y1.2.1,())
noncomputable def di.F:=stk di.B
theorem di.eq:di.F=di.B:=aq _
theorem di.k:Kk cp.s ae.q [] Tryz.f248 di.d di.B:={}
noncomputable def di.s:SpL:=di.d.e [] di.F::cp.s
theorem di.c:Ck di.s ae.q:=cS cp.c di.k
def aL.d:Fe:=⟨209,2,⟨[(0,.v false [.sl 4 .bool]),(1,.v false [.int .i64])],[],[],0,[]⟩,⟨[(0,.v false [.ref 1000])],[(1000,false,.arr 4 .bool)],[],1001,[]⟩,(.s none .n (.s (some ⟨[],[],[0,1],0,[]⟩) .n (.s none .n (.s (some ⟨[],[],[0,6],0,[]⟩) .n (.s none .n (.s none .n (.s none (.b (.l ⟨[(7,.v false [.ref 0]),(8,.v false [.int .i64])],[(0,true,.arr 4 .bool)],[],1,[]⟩ .n)) .n)))))))⟩
noncomputable def aL.B:(List Bool)×Int×Unit→Option ((List Bool)×Unit):=fun (p0,p1,_)=>
 jn (S:=Unit) (
 (bif (decide (p1<(0:Int))) then
 none
 else
 il (()))) fun (_)=>
 (di.F ((IntKind.u64.wrap ((p0.length:Int))),(IntKind.u64.wrap (p1)),())).bind fun y2=>
 jn (S:=Unit) (
 (bif (decide (y2.1>(0:Int))) then
 none
 else
 (bif (decide (y2.2.1>(9223372036854775807:Int))) then
 none
 else
 il (())))) fun (_)=>
 ck (decide (0≤(wr (y2.2.1)))&&(decide ((wr (y2.2.1))=(wr (y2.2.1)))&&Nat.ble (Int.toNat (wr (y2.2.1))) 140737488355328))<|
 aK (S:=Int×(List Bool)×Unit) (fun (x8,o7_0,_)=>
 (bif (decide (x8<(o7_0.length:Int))) then
 ck (sb x8 (o7_0.length:Int) o7_0.length)<|
 ck (sb (0:Int) x8 o7_0.length)<|
 let e4:Int:=(wr (x8+((Nat.min (List.length (List.take (Int.toNat x8-Int.toNat (0:Int):Nat) (List.drop (Int.toNat (0:Int)) o7_0))) (Int.toNat (o7_0.length:Int)-Int.toNat x8:Nat)):Int)))
 il (e4,(List.take (Int.toNat x8) o7_0++List.take (Nat.min (List.length (List.take (Int.toNat x8-Int.toNat (0:Int):Nat) (List.drop (Int.toNat (0:Int)) o7_0))) (Int.toNat (o7_0.length:Int)-Int.toNat x8:Nat)) (List.take (Int.toNat x8-Int.toNat (0:Int):Nat) (List.drop (Int.toNat (0:Int)) o7_0))++List.drop ((Int.toNat x8)+(Nat.min (List.length (List.take (Int.toNat x8-Int.toNat (0:Int):Nat) (List.drop (Int.toNat (0:Int)) o7_0))) (Int.toNat (o7_0.length:Int)-Int.toNat x8:Nat))) o7_0),())
 else
 ir (o7_0,()))) (((Nat.min (List.length p0) (List.replicate (Int.toNat (wr (y2.2.1))) false).length):Int),(List.take 0 (List.replicate (Int.toNat (wr (y2.2.1))) false)++List.take (Nat.min (List.length p0) (List.replicate (Int.toNat (wr (y2.2.1))) false).length) p0++List.drop (0+(Nat.min (List.length p0) (List.replicate (Int.toNat (wr (y2.2.1))) false).length)) (List.replicate (Int.toNat (wr (y2.2.1))) false)),())
noncomputable def aL.F:=stk aL.B
theorem aL.eq:aL.F=aL.B:=aq _
theorem aL.k:Kk di.s ae.q [] Tryz.f209 aL.d aL.B:={}
noncomputable def aL.s:SpL:=aL.d.e [] aL.F::di.s
theorem aL.c:Ck aL.s ae.q:=cS di.c aL.k
def aI.d:Fe:=⟨186,2,⟨[(0,.v false [.sl 84 gv]),(1,.v true [.str,.str,.str,.int .i64,.int .i64,.sl 126 bD,.sl 3 (.int .i64),.bool,.sl 156 dW])],[],[],0,[]⟩,⟨[(0,.v false [.ref 1000])],[(1000,false,.arr 3 (.int .i64))],[],1001,[]⟩,.n⟩
def aA.d:Fe:=⟨180,2,⟨[(0,.v false [.sl 84 gv]),(1,.v true [.int .i64,.str,.sl 75 aX,.sl 78 (.sl 126 bD),.str,.str,.str,.int .i64,.int .i64,.sl 126 bD,.sl 3 (.int .i64),.bool,.sl 156 dW])],[],[],0,[]⟩,⟨[(0,.tup [(false,[.ref 1000]),(false,[.ref 1001])])],[(1000,false,.arr 3 (.int .i64)),(1001,false,.arr 4 .bool)],[],1002,[]⟩,(.s none .n (.s none .n (.s none .n (.s (some ⟨[(6,.v false [.ref 0])],[(0,false,.arr 3 (.int .i64))],[0,3],1,[]⟩) (.s none .n (.c (.s none (.s none .n (.b (.l ⟨[(6,.v false [.ref 0]),(7,.v false [.ref 1]),(23,.v false [.int .i64])],[(0,false,.arr 3 (.int .i64)),(1,false,.arr 4 .bool)],[21,22],2,[]⟩ .n))) .n) .n)) (.s none .n (.s (some ⟨[(6,.v false [.ref 0])],[(0,false,.arr 3 (.int .i64))],[3,10],1,[]⟩) (.s none .n (.b (.l ⟨[(6,.v false [.ref 0]),(48,.v false [.int .i64])],[(0,false,.arr 3 (.int .i64))],[3,10,46,47],1,[]⟩ .n))) (.s (some ⟨[(6,.v false [.ref 0])],[(0,false,.arr 3 (.int .i64))],[],1,[]⟩) (.s none .n (.b (.l ⟨[(6,.v false [.ref 0]),(64,.v false [.int .i64])],[(0,false,.arr 3 (.int .i64))],[10,62,63],1,[]⟩ .n))) .n)))))))⟩
noncomputable def aA.b (f:TS aI.d.si→Option (TS aI.d.so)):(List bx)×Int×ByteArray×(List aC)×(List (List ao))×ByteArray×ByteArray×ByteArray×Int×Int×(List ao)×(List Int)×Bool×(List cH)×Unit→Option ((List Int)×(List Bool)×Unit):=fun (p0,p1_0,p1_1,p1_2,p1_3,p1_4,p1_5,p1_6,p1_7,p1_8,p1_9,p1_10,p1_11,p1_12,_)=>
 jn (S:=(List Int)×Unit) (
 (bif (p1_0==(0:Int)) then
 aK (S:=Int×(List Int)×(List Bool)×Unit) (fun (x23,o6_0,o7_0,_)=>
 (bif (decide (x23<(p1_2.length:Int))) then
 ck (ib x23 p1_2.length)<|
 let e1:aC:=(gt p1_2 x23 aX.z)
 ck (Nat.ble (o6_0.length+ [e1.2.1].length) 17592186044416)<|
 ck (Nat.ble (o7_0.length+ [e1.2.2.1].length) 140737488355328)<|
 let e2:Int:=(wr (x23+(1:Int)))
 il (e2,(o6_0++ [e1.2.1]),(o7_0++ [e1.2.2.1]),())
 else
 ir (.inr (o6_0,o7_0,())))) ((0:Int),[],[],())
 else
 il ([],()))) fun (o6_0_3,_)=>
 (f (p0,p1_4,p1_5,p1_6,p1_7,p1_8,p1_9,p1_10,p1_11,p1_12,())).bind fun y4=>
 jn (S:=(List Int)×Unit) (
 aK (S:=Int×(List Int)×Unit) (fun (x48,o6_0,_)=>
 (bif (decide (x48<(p1_10.length:Int))) then
 ck (ib x48 p1_10.length)<|
 let e5:Int:=(gt p1_10 x48 (0:Int))
 ck (ib e5 y4.1.length)<|
 let e6:Int:=(List.getD y4.1 (Int.toNat e5) (0:Int))
 ck (Nat.ble (o6_0.length+ [e6].length) 17592186044416)<|
 let e7:Int:=(wr (x48+(1:Int)))
 il (e7,(o6_0++ [e6]),())
 else
 ir (.inl (o6_0,())))) ((0:Int),o6_0_3,())) fun (o6_0_8,_)=>
 jn (S:=(List Int)×Unit) (
 aK (S:=Int×(List Int)×Unit) (fun (x64,o6_0,_)=>
 (bif (decide (x64<(p1_12.length:Int))) then
 ck (ib x64 p1_12.length)<|
 let e9:cH:=(gt p1_12 x64 dW.z)
 (bif (e9.1==(2:Int)) then
 ck (ib e9.2 y4.1.length)<|
 let e10:Int:=(List.getD y4.1 (Int.toNat e9.2) (0:Int))
 ck (Nat.ble (o6_0.length+ [e10].length) 17592186044416)<|
 let e11:Int:=(wr (x64+(1:Int)))
 il (e11,(o6_0++ [e10]),())
 else
 (bif (e9.1==(3:Int)) then
 ck (ib e9.2 y4.1.length)<|
 let e12:Int:=(List.getD y4.1 (Int.toNat e9.2) (0:Int))
 ck (Nat.ble (o6_0.length+ [e12].length) 17592186044416)<|
 let e13:Int:=(wr (x64+(1:Int)))
 il (e13,(o6_0++ [e12]),())
 else
 ck (Nat.ble (o6_0.length+ [(2:Int)].length) 17592186044416)<|
 let e14:Int:=(wr (x64+(1:Int)))
 il (e14,(o6_0++ [(2:Int)]),())))
 else
 ir (.inl (o6_0,())))) ((0:Int),o6_0_8,())) fun (o6_0_15,_)=>
 (aL.F ([true],(o6_0_15.length:Int),())).bind fun y16=>
 some (o6_0_15,y16.1,())
theorem aA.k (f:TS aI.d.si→Option (TS aI.d.so)):Fk PP (cx (aI.d.e [] f::aL.s) ae.q) [] Tryz.f180 aA.d (aA.b f):={}
theorem aA.en:Lv.kZ PP 180:=⟨_,Tryz.func180,by kernel_rfl,by decide⟩
noncomputable def aI.b (f:TS aA.d.si→Option (TS aA.d.so)):(List bx)×ByteArray×ByteArray×ByteArray×Int×Int×(List ao)×(List Int)×Bool×(List cH)×Unit→Option ((List Int)×Unit):=fun (p0,p1_0,p1_1,p1_2,p1_3,p1_4,p1_5,p1_6,p1_7,p1_8,_)=>
 (cF.F (p0,p1_1,())).bind fun y1=>
 ck (ib y1.1 p0.length)<|
 let e2:bx:=(gt p0 y1.1 gv.z)
 (f (p0,e2.1,e2.2.1.1,e2.2.1.2.1,e2.2.1.2.2,e2.2.2.1,e2.2.2.2.1,e2.2.2.2.2.1,e2.2.2.2.2.2.1.1,e2.2.2.2.2.2.1.2,e2.2.2.2.2.2.2.1,e2.2.2.2.2.2.2.2.1,e2.2.2.2.2.2.2.2.2.1,e2.2.2.2.2.2.2.2.2.2,())).bind fun y3=>
 (bif (!sq p1_2 (⟨#[]⟩:ByteArray)) then
 (cF.F (p0,p1_2,())).bind fun y4=>
 ck (ib y4.1 p0.length)<|
 let e5:bx:=(gt p0 y4.1 gv.z)
 (f (p0,e5.1,e5.2.1.1,e5.2.1.2.1,e5.2.1.2.2,e5.2.2.1,e5.2.2.2.1,e5.2.2.2.2.1,e5.2.2.2.2.2.1.1,e5.2.2.2.2.2.1.2,e5.2.2.2.2.2.2.1,e5.2.2.2.2.2.2.2.1,e5.2.2.2.2.2.2.2.2.1,e5.2.2.2.2.2.2.2.2.2,())).bind fun y6=>
 ck (Nat.ble (y3.1.length+y6.1.length) 17592186044416)<|
 some ((y3.1++y6.1),())
 else
 some (y3.1,()))
theorem aI.k (f:TS aA.d.si→Option (TS aA.d.so)):Fk PP (cx (aA.d.e [] f::aL.s) ae.q) [] Tryz.f186 aI.d (aI.b f):={}
theorem aI.en:Lv.kZ PP 186:=⟨_,Tryz.func186,by kernel_rfl,by decide⟩
theorem aA.step (f:TS aI.d.si→Option (TS aI.d.so)) (hf:aI.d.ok PP f):aA.d.ok PP (aA.b f):=(aA.k f).okF (gK.consS aL.c [] aI.en hf) mixed
theorem aI.step (f:TS aA.d.si→Option (TS aA.d.so)) (hf:aA.d.ok PP f):aI.d.ok PP (aI.b f):=(aI.k f).okF (gK.consS aL.c [] aA.en hf) mixed
noncomputable def aA.r:Nat→TS aA.d.si→Option (TS aA.d.so)
 |0=>fun _=>none
 |n+1=>aA.b (aI.b (aA.r n))
theorem aA.r_ok:∀n,aA.d.ok PP (aA.r n)
 |0=>fun _ _ h=>by cases h
 |n+1=>aA.step _ (aI.step _ (aA.r_ok n))
noncomputable def aA.F:TS aA.d.si→Option (TS aA.d.so):=stk (aA.r 64)
theorem aA.eq:aA.F=aA.r 64:=aq _
theorem aA.ok:aA.d.ok PP aA.F:=by
 rw [aA.eq]
 exact aA.r_ok 64
noncomputable def aA.s:SpL:=aA.d.e [] aA.F::aL.s
theorem aA.c:Ck aA.s ae.q:=gK.consS aL.c [] aA.en aA.ok
noncomputable def aI.F:TS aI.d.si→Option (TS aI.d.so):=stk (aI.b (aA.r 64))
theorem aI.eq:aI.F=aI.b (aA.r 64):=aq _
theorem aI.ok:aI.d.ok PP aI.F:=by
 rw [aI.eq]
 exact aI.step _ (aA.r_ok 64)
noncomputable def aI.s:SpL:=aI.d.e [] aI.F::aA.s
theorem aI.c:Ck aI.s ae.q:=gK.consS aA.c [] aI.en aI.ok
def dG.d:Fe:=⟨192,1,⟨[(0,.v false [.int .i64])],[],[],0,[]⟩,⟨[(0,.v false [.int .i64])],[],[],1000,[]⟩,(.s none .n (.s none (.s none .n (.b (.s (some ⟨[(4,.v false [.bool])],[],[3],0,[]⟩) .n (.c .n (.s (some ⟨[(7,.v false [.bool])],[],[3],0,[]⟩) .n .n))))) .n))⟩
noncomputable def dG.B:Int×Unit→Option (Int×Unit):=fun (p0,_)=>
 jn (S:=Bool×Unit) (
 (bif (p0==(0:Int)) then
 il ((p0==(0:Int)),())
 else
 il ((p0==(1:Int)),()))) fun (x4_1,_)=>
 (bif x4_1 then
 some ((0:Int),())
 else
 jn (S:=Bool×Unit) (
 (bif (p0==(9:Int)) then
 il ((p0==(9:Int)),())
 else
 il ((p0==(10:Int)),()))) fun (x7_2,_)=>
 (bif x7_2 then
 some ((1:Int),())
 else
 (bif (p0==(2:Int)) then
 (bif (p0==(2:Int)) then
 some ((2:Int),())
 else
 some ((-1:Int),()))
 else
 (bif (p0==(3:Int)) then
 (bif (p0==(3:Int)) then
 some ((2:Int),())
 else
 some ((-1:Int),()))
 else
 (bif (p0==(4:Int)) then
 (bif (p0==(4:Int)) then
 some ((2:Int),())
 else
 some ((-1:Int),()))
 else
 (bif (p0==(5:Int)) then
 (bif (p0==(5:Int)) then
 some ((2:Int),())
 else
 some ((-1:Int),()))
 else
 (bif (p0==(6:Int)) then
 (bif (p0==(6:Int)) then
 some ((2:Int),())
 else
 some ((-1:Int),()))
 else
 (bif (p0==(7:Int)) then
 (bif (p0==(7:Int)) then
 some ((2:Int),())
 else
 some ((-1:Int),()))
 else
 (bif (p0==(8:Int)) then
 some ((2:Int),())
 else
 some ((-1:Int),()))))))))))
noncomputable def dG.F:=stk dG.B
theorem dG.eq:dG.F=dG.B:=aq _
theorem dG.k:Kk aI.s ae.q [] Tryz.f192 dG.d dG.B:={}
noncomputable def dG.s:SpL:=dG.d.e [] dG.F::aI.s
theorem dG.c:Ck dG.s ae.q:=cS aI.c dG.k
def bt.d:Fe:=⟨276,1,⟨[(0,.v false [.ptr 0 0])],[(0,true,.box 284 [.ref 1,.bool,.sl 3 (.int .i64)]),(1,true,.arr 3 (.int .i64))],[],2,[]⟩,⟨[(0,.v false [.int .i64])],[(0,true,.box 284 [.ref 1001,.bool,.sl 3 (.int .i64)]),(1001,false,.arr 3 (.int .i64))],[],1002,[(0,0)]⟩,.n⟩
noncomputable def bt.B:Bool×(List Int)×(List Int)×Unit→Option (Int×Bool×(List Int)×(List Int)×Unit):=fun (o0_1,o0_2,o0_0,_)=>
 (bif ((o0_0.length:Int)==(0:Int)) then
 some ((0:Int),false,o0_2,o0_0,())
 else
 let e1:Int:=(wr ((o0_0.length:Int)-(1:Int)))
 ck (ib e1 o0_0.length)<|
 let e2:Int:=(List.getD o0_0 (Int.toNat e1) (0:Int))
 let e3:Int:=(wr ((o0_0.length:Int)-(1:Int)))
 ck (sb (0:Int) e3 o0_0.length)<|
 some (e2,o0_1,o0_2,(List.take (Int.toNat e3) o0_0),()))
noncomputable def bt.F:=stk bt.B
theorem bt.eq:bt.F=bt.B:=aq _
theorem bt.k:Kk dG.s ae.q [] Tryz.f276 bt.d bt.B:={}
noncomputable def bt.s:SpL:=bt.d.e [] bt.F::dG.s
theorem bt.c:Ck bt.s ae.q:=cS dG.c bt.k
def bn.d:Fe:=⟨277,2,⟨[(0,.v false [.ptr 0 0]),(1,.v false [.int .i64])],[(0,true,.box 284 [.ref 1,.bool,.sl 3 (.int .i64)]),(1,true,.arr 3 (.int .i64))],[],2,[]⟩,⟨[(0,.tup [])],[(0,true,.box 284 [.ref 1001,.bool,.sl 3 (.int .i64)]),(1001,false,.arr 3 (.int .i64))],[],1002,[(0,0)]⟩,.n⟩
noncomputable def bn.B:Int×Bool×(List Int)×(List Int)×Unit→Option (Bool×(List Int)×(List Int)×Unit):=fun (p1,o0_1,o0_2,o0_0,_)=>
 ck (Nat.ble (o0_0.length+ [p1].length) 17592186044416)<|
 some (o0_1,o0_2,(o0_0++ [p1]),())
noncomputable def bn.F:=stk bn.B
theorem bn.eq:bn.F=bn.B:=aq _
theorem bn.k:Kk bt.s ae.q [] Tryz.f277 bn.d bn.B:={}
noncomputable def bn.s:SpL:=bn.d.e [] bn.F::bt.s
theorem bn.c:Ck bn.s ae.q:=cS bt.c bn.k
def eB.d:Fe:=⟨213,2,⟨[(0,.v false [.int .i64]),(1,.v false [.sl 3 (.int .i64)])],[],[],0,[]⟩,⟨[(0,.v false [.bool])],[],[],1000,[]⟩,(.s none .n (.s none (.s none .n (.b (.l ⟨[(9,.v false [.int .i64])],[],[0,7,8],0,[]⟩ .n))) .n))⟩
noncomputable def eB.B:Int×(List Int)×Unit→Option (Bool×Unit):=fun (p0,p1,_)=>
 aK (S:=Int×Unit) (fun (x9,_)=>
 (bif (decide (x9<(p1.length:Int))) then
 ck (ib x9 p1.length)<|
 let e1:Int:=(gt p1 x9 (0:Int))
 (bif (e1 !=p0) then
 (bif (e1 !=(0:Int)) then
 ir (false,())
 else
 let e2:Int:=(wr (x9+(1:Int)))
 il (e2,()))
 else
 let e3:Int:=(wr (x9+(1:Int)))
 il (e3,()))
 else
 ir (true,()))) ((0:Int),())
noncomputable def eB.F:=stk eB.B
theorem eB.eq:eB.F=eB.B:=aq _
theorem eB.k:Kk bn.s ae.q [] Tryz.f213 eB.d eB.B:={}
noncomputable def eB.s:SpL:=eB.d.e [] eB.F::bn.s
theorem eB.c:Ck eB.s ae.q:=cS bn.c eB.k
def cQ.d:Fe:=⟨195,2,⟨[(0,.v false [.int .i64]),(1,.v false [.sl 3 (.int .i64)])],[],[],0,[]⟩,⟨[(0,.tup [(false,[.int .i64]),(false,[.bool])])],[],[],1000,[]⟩,(.s none .n (.s none (.s none .n (.b (.s (some ⟨[(7,.v false [.bool])],[],[1,6],0,[]⟩) .n (.c .n (.s (some ⟨[(13,.v false [.bool])],[],[1,6],0,[]⟩) .n .n))))) .n))⟩
noncomputable def cQ.B:Int×(List Int)×Unit→Option (Int×Bool×Unit):=fun (p0,p1,_)=>
 jn (S:=Bool×Unit) (
 (bif (p0==(2:Int)) then
 il ((p0==(2:Int)),())
 else
 (bif (p0==(3:Int)) then
 il ((p0==(3:Int)),())
 else
 il ((p0==(4:Int)),())))) fun (x7_1,_)=>
 (bif x7_1 then
 (eB.F ((2:Int),p1,())).bind fun y2=>
 some ((2:Int),y2.1,())
 else
 jn (S:=Bool×Unit) (
 (bif (p0==(5:Int)) then
 il ((p0==(5:Int)),())
 else
 il ((p0==(6:Int)),()))) fun (x13_3,_)=>
 (bif x13_3 then
 ck (ib (0:Int) p1.length)<|
 let e4:Int:=(List.getD p1 0 (0:Int))
 ck (ib (1:Int) p1.length)<|
 let e5:Int:=(List.getD p1 1 (0:Int))
 (bif (e4==e5) then
 some ((1:Int),true,())
 else
 ck (ib (0:Int) p1.length)<|
 let e6:Int:=(List.getD p1 0 (0:Int))
 (bif (e6==(0:Int)) then
 some ((1:Int),true,())
 else
 ck (ib (1:Int) p1.length)<|
 let e7:Int:=(List.getD p1 1 (0:Int))
 some ((1:Int),(e7==(0:Int)),())))
 else
 (bif (p0==(7:Int)) then
 (bif (p0==(7:Int)) then
 (eB.F ((1:Int),p1,())).bind fun y8=>
 some ((1:Int),y8.1,())
 else
 some ((1:Int),true,()))
 else
 (bif (p0==(8:Int)) then
 (bif (p0==(8:Int)) then
 (eB.F ((1:Int),p1,())).bind fun y9=>
 some ((1:Int),y9.1,())
 else
 some ((1:Int),true,()))
 else
 (bif (p0==(9:Int)) then
 (eB.F ((1:Int),p1,())).bind fun y10=>
 some ((1:Int),y10.1,())
 else
 some ((1:Int),true,()))))))
noncomputable def cQ.F:=stk cQ.B
theorem cQ.eq:cQ.F=cQ.B:=aq _
theorem cQ.k:Kk eB.s ae.q [] Tryz.f195 cQ.d cQ.B:={}
noncomputable def cQ.s:SpL:=cQ.d.e [] cQ.F::eB.s
theorem cQ.c:Ck cQ.s ae.q:=cS eB.c cQ.k
def b8.d:Fe:=⟨249,2,⟨[(0,.v false [.ptr 0 0]),(1,.v true [.int .i64,.int .i64,.int .i64,.int .i64,.str])],[(0,true,.box 284 [.ref 1,.bool,.sl 3 (.int .i64)]),(1,true,.arr 3 (.int .i64))],[],2,[]⟩,⟨[(0,.v false [.bool])],[(0,true,.box 284 [.ref 1001,.bool,.sl 3 (.int .i64)]),(1001,false,.arr 3 (.int .i64))],[],1002,[(0,0)]⟩,(.s none .n (.s none .n (.s (some ⟨[(0,.v false [.ptr 1 0]),(5,.v false [.ref 0])],[(0,false,.arr 3 (.int .i64)),(1,true,.box 284 [.ref 2,.bool,.sl 3 (.int .i64)]),(2,false,.arr 3 (.int .i64))],[3],3,[]⟩) (.s none .n (.b (.l ⟨[(0,.v false [.ptr 1 0]),(5,.v false [.ref 0]),(11,.v false [.int .i64])],[(0,false,.arr 3 (.int .i64)),(1,true,.box 284 [.ref 2,.bool,.sl 3 (.int .i64)]),(2,false,.arr 3 (.int .i64))],[3,10],3,[]⟩ .n))) (.s none (.b (.s (some ⟨[(21,.v false [.bool])],[],[0,3,5],0,[]⟩) .n (.c .n (.s none .n (.c (.s none (.s (some ⟨[(72,.v false [.bool])],[],[0,3],0,[]⟩) .n .n) .n) .n))))) .n))))⟩
noncomputable def b8.B:Int×Int×Int×Int×ByteArray×Bool×(List Int)×(List Int)×Unit→Option (Bool×Bool×(List Int)×(List Int)×Unit):=fun (p1_0,p1_1,p1_2,p1_3,p1_4,o0_1,o0_2,o0_0,_)=>
 jn (S:=(List Int)×Bool×(List Int)×(List Int)×Unit) (
 (dG.F (p1_0,())).bind fun y1=>
 aK (S:=Int×(List Int)×Bool×(List Int)×(List Int)×Unit) (fun (x11,o5_0,o0_0_1,o0_0_2,o0_0_0,_)=>
 (bif (decide (x11<y1.1)) then
 (bt.F (o0_0_1,o0_0_2,o0_0_0,())).bind fun y2=>
 ck (Nat.ble (o5_0.length+ [y2.1].length) 17592186044416)<|
 let e3:Int:=(wr (x11+(1:Int)))
 il (e3,(o5_0++ [y2.1]),y2.2.1,y2.2.2.1,y2.2.2.2.1,())
 else
 ir (.inl (o5_0,o0_0_1,o0_0_2,o0_0_0,())))) ((0:Int),[],o0_1,o0_2,o0_0,())) fun (o5_0_4,o0_0_1_4,o0_0_2_4,o0_0_0_4,_)=>
 jn (S:=Bool×Unit) (
 (bif (!o0_0_1_4) then
 il (true,())
 else
 (dG.F (p1_0,())).bind fun y5=>
 il ((decide (y5.1<(0:Int))),()))) fun (x21_6,_)=>
 (bif x21_6 then
 some (false,o0_0_1_4,o0_0_2_4,o0_0_0_4,())
 else
 (bif (p1_0==(0:Int)) then
 jn (S:=Bool×Unit) (
 (bif (decide (p1_1<(0:Int))) then
 il (true,())
 else
 (bif (decide (p1_1≥(o0_0_2_4.length:Int))) then
 il (true,())
 else
 ck (ib p1_1 o0_0_2_4.length)<|
 let e7:Int:=(gt o0_0_2_4 p1_1 (0:Int))
 (bif (decide (e7<(1:Int))) then
 il (true,())
 else
 ck (ib p1_1 o0_0_2_4.length)<|
 let e8:Int:=(gt o0_0_2_4 p1_1 (0:Int))
 il ((decide (e8>(3:Int))),()))))) fun (x72_9,_)=>
 (bif x72_9 then
 some (false,o0_0_1_4,o0_0_2_4,o0_0_0_4,())
 else
 ck (ib p1_1 o0_0_2_4.length)<|
 let e10:Int:=(gt o0_0_2_4 p1_1 (0:Int))
 (bn.F (e10,o0_0_1_4,o0_0_2_4,o0_0_0_4,())).bind fun y11=>
 some (true,y11.1,y11.2.1,y11.2.2.1,()))
 else
 (bif (p1_0==(1:Int)) then
 (bn.F (p1_2,o0_0_1_4,o0_0_2_4,o0_0_0_4,())).bind fun y12=>
 (dm.F (p1_2,p1_3,p1_4,())).bind fun y13=>
 some (y13.1,y12.1,y12.2.1,y12.2.2.1,())
 else
 (cQ.F (p1_0,o5_0_4,())).bind fun y14=>
 (bn.F (y14.1,o0_0_1_4,o0_0_2_4,o0_0_0_4,())).bind fun y15=>
 some (y14.2.1,y15.1,y15.2.1,y15.2.2.1,()))))
noncomputable def b8.F:=stk b8.B
theorem b8.eq:b8.F=b8.B:=aq _
theorem b8.k:Kk cQ.s ae.q [] Tryz.f249 b8.d b8.B:={}
noncomputable def b8.s:SpL:=b8.d.e [] b8.F::cQ.s
theorem b8.c:Ck b8.s ae.q:=cS cQ.c b8.k
def bW.d:Fe:=⟨250,1,⟨[(0,.v false [.ptr 0 0])],[(0,true,.box 284 [.ref 1,.bool,.sl 3 (.int .i64)]),(1,true,.arr 3 (.int .i64))],[],2,[]⟩,⟨[(0,.tup [(false,[.int .i64]),(false,[.bool])])],[(0,true,.box 284 [.ref 1001,.bool,.sl 3 (.int .i64)]),(1001,false,.arr 3 (.int .i64))],[],1002,[(0,0)]⟩,.n⟩
noncomputable def bW.B:Bool×(List Int)×(List Int)×Unit→Option (Int×Bool×Bool×(List Int)×(List Int)×Unit):=fun (o0_1,o0_2,o0_0,_)=>
 (bif (!o0_1) then
 some ((0:Int),false,o0_1,o0_2,o0_0,())
 else
 (bif ((o0_0.length:Int) !=(1:Int)) then
 some ((0:Int),false,o0_1,o0_2,o0_0,())
 else
 ck (ib (0:Int) o0_0.length)<|
 let e1:Int:=(List.getD o0_0 0 (0:Int))
 some (e1,true,o0_1,o0_2,o0_0,())))
noncomputable def bW.F:=stk bW.B
theorem bW.eq:bW.F=bW.B:=aq _
theorem bW.k:Kk b8.s ae.q [] Tryz.f250 bW.d bW.B:={}
noncomputable def bW.s:SpL:=bW.d.e [] bW.F::b8.s
theorem bW.c:Ck bW.s ae.q:=cS b8.c bW.k
def eO.d:Fe:=⟨211,2,⟨[(0,.v false [.sl 126 bD]),(1,.v false [.sl 3 (.int .i64)])],[],[],0,[]⟩,⟨[(0,.tup [(false,[.int .i64]),(false,[.int .i64])])],[],[],1000,[]⟩,(.s none .n (.s none .n (.s none .n (.s none .n (.s (some ⟨[(6,.v false [.ptr 0 0])],[(0,true,.box 284 [.ref 1,.bool,.sl 3 (.int .i64)]),(1,false,.arr 3 (.int .i64))],[],2,[]⟩) (.s none .n (.b (.l ⟨[(6,.v false [.ptr 0 0]),(23,.v false [.int .i64])],[(0,true,.box 284 [.ref 1,.bool,.sl 3 (.int .i64)]),(1,false,.arr 3 (.int .i64))],[21,22],2,[]⟩ .n))) .n)))))⟩
noncomputable def eO.B:(List ao)×(List Int)×Unit→Option (Int×Int×Unit):=fun (p0,p1,_)=>
 (bif (decide ((p0.length:Int)>(100:Int))) then
 some ((0:Int),(1:Int),())
 else
 jn (S:=Bool×(List Int)×(List Int)×Unit) (
 aK (S:=Int×Bool×(List Int)×(List Int)×Unit) (fun (x23,o6_0_1,o6_0_2,o6_0_0,_)=>
 (bif (decide (x23<(p0.length:Int))) then
 ck (ib x23 p0.length)<|
 let e1:ao:=(gt p0 x23 bD.z)
 (b8.F (e1.1,e1.2.1,e1.2.2.1,e1.2.2.2.1,e1.2.2.2.2,o6_0_1,o6_0_2,o6_0_0,())).bind fun y2=>
 (bif (!y2.1) then
 ir (.inr ((0:Int),(30:Int),()))
 else
 let e3:Int:=(wr (x23+(1:Int)))
 il (e3,y2.2.1,y2.2.2.1,y2.2.2.2.1,()))
 else
 ir (.inl (o6_0_1,o6_0_2,o6_0_0,())))) ((0:Int),true,p1,[],())) fun (o6_0_1_4,o6_0_2_4,o6_0_0_4,_)=>
 (bW.F (o6_0_1_4,o6_0_2_4,o6_0_0_4,())).bind fun y5=>
 (bif y5.2.1 then
 some (y5.1,(0:Int),())
 else
 some ((0:Int),(30:Int),())))
noncomputable def eO.F:=stk eO.B
theorem eO.eq:eO.F=eO.B:=aq _
theorem eO.k:Kk bW.s ae.q [] Tryz.f211 eO.d eO.B:={}
noncomputable def eO.s:SpL:=eO.d.e [] eO.F::bW.s
theorem eO.c:Ck eO.s ae.q:=cS bW.c eO.k
def cZ.d:Fe:=⟨185,2,⟨[(0,.v false [.sl 126 bD]),(1,.v false [.sl 3 (.int .i64)])],[],[],0,[]⟩,⟨[(0,.v false [.bool])],[],[],1000,[]⟩,.n⟩
noncomputable def cZ.B:(List ao)×(List Int)×Unit→Option (Bool×Unit):=fun (p0,p1,_)=>
 (eO.F (p0,p1,())).bind fun y1=>
 (bif (y1.2.1==(0:Int)) then
 (bif (y1.1==(1:Int)) then
 some (true,())
 else
 some ((y1.1==(0:Int)),()))
 else
 some (false,()))
noncomputable def cZ.F:=stk cZ.B
theorem cZ.eq:cZ.F=cZ.B:=aq _
theorem cZ.k:Kk eO.s ae.q [] Tryz.f185 cZ.d cZ.B:={}
noncomputable def cZ.s:SpL:=cZ.d.e [] cZ.F::eO.s
theorem cZ.c:Ck cZ.s ae.q:=cS eO.c cZ.k
def cO.d:Fe:=⟨139,2,⟨[(0,.v false [.sl 84 gv]),(1,.v true [.str,.sl 75 aX,.sl 78 (.sl 126 bD)])],[],[],0,[]⟩,⟨[(0,.v false [.int .i64])],[],[],1000,[]⟩,(.s none .n (.s none .n (.s (some ⟨[],[],[0,3,5],0,[]⟩) (.s none .n (.b (.l ⟨[(24,.v false [.int .i64])],[],[0,3,5,22,23],0,[]⟩ (.s none .n (.s none .n (.s none (.b (.s none .n (.s none .n (.s (some ⟨[(53,.v false [.bool])],[],[0,3,5,22,23,24],0,[]⟩) .n .n)))) .n)))))) (.s (some ⟨[],[],[3,5],0,[]⟩) (.s none .n (.b (.l ⟨[(58,.v false [.int .i64])],[],[0,3,5,56,57],0,[]⟩ (.s none .n (.s none .n (.s none (.b (.s none .n (.s none .n (.s none .n (.s (some ⟨[(12,.v false [.ptr 0 0])],[(0,true,.box 40 [.str,.sl 75 aX,.sl 78 (.sl 126 bD)])],[0,3,5,11,56,57,58],1,[]⟩) .n .n))))) .n)))))) .n))))⟩
noncomputable def cO.l:InT:=[(181,[],Tryz.f181,.n),(182,[(1,181)],Tryz.f182,(.s none .n (.s none (.s none .n (.b (.l ⟨[(8,.v false [.int .i64])],[],[0,1,7],0,[]⟩ (.s none .n (.s none .n (.s none (.b (.s none .n (.s (some ⟨[(16,.v false [.bool])],[],[0,1,5,7,8],0,[]⟩) .n .n))) .n)))))) .n))),(183,[(1,184)],Tryz.f183,.n),(184,[],Tryz.f184,.n),(210,[(1,184)],Tryz.f210,(.s none .n (.s none (.s none .n (.b (.l ⟨[(8,.v false [.int .i64])],[(0,true,.box 79 [.sl 3 (.int .i64)])],[0,1,7],1,[(0,1003)]⟩ (.s none .n (.s none .n (.s none (.b (.s none .n (.s (some ⟨[(16,.v false [.bool])],[(0,true,.box 79 [.sl 3 (.int .i64)])],[0,1,5,7,8],1,[(0,1003)]⟩) .n .n))) .n)))))) .n)))]
noncomputable def cO.B:(List bx)×ByteArray×(List aC)×(List (List ao))×Unit→Option (Int×Unit):=fun (p0,p1_0,p1_1,p1_2,_)=>
 (aA.F (p0,(0:Int),p1_0,p1_1,p1_2,(⟨#[]⟩:ByteArray),(⟨#[]⟩:ByteArray),(⟨#[]⟩:ByteArray),(0:Int),(0:Int),([]:List ao),([]:List Int),false,([]:List cH),())).bind fun y1=>
 jn (S:=Unit) (
 aK (S:=Int×Unit) (fun (x24,_)=>
 (bif (decide (x24<(p1_1.length:Int))) then
 ck (ib x24 p1_1.length)<|
 let e2:aC:=(gt p1_1 x24 aX.z)
 jn (S:=Bool×Unit) (
 aK (S:=Int×Unit) (fun (x8',_)=>
 (bif (decide (x8'<(p1_1.length:Int))) then
 jn (S:=Bool×Unit) (
 ck (ib x8' p1_1.length)<|
 let e3:aC:=(gt p1_1 x8' aX.z)
 il ((sq e3.1 e2.1),())) fun (x16_4,_)=>
 (bif x16_4 then
 Option.map Sum.inr ((bif (x8' !=x24) then
 il (true,())
 else
 (bif (x24==(0:Int)) then
 (bif e2.2.2.1 then
 il (true,())
 else
 (bif (e2.2.1==(1:Int)) then
 il (true,())
 else
 il ((!sq e2.2.2.2.2.1 (⟨#[]⟩:ByteArray)),())))
 else
 il (false,()))))
 else
 let e5:Int:=(wr (x8'+(1:Int)))
 il (e5,()))
 else
 Option.map Sum.inr ((bif ((-1:Int) !=x24) then
 il (true,())
 else
 (bif (x24==(0:Int)) then
 (bif e2.2.2.1 then
 il (true,())
 else
 (bif (e2.2.1==(1:Int)) then
 il (true,())
 else
 il ((!sq e2.2.2.2.2.1 (⟨#[]⟩:ByteArray)),())))
 else
 il (false,())))))) ((0:Int),())) fun (x53_6,_)=>
 (bif x53_6 then
 ir (.inr ((91:Int),()))
 else
 let e7:Int:=(wr (x24+(1:Int)))
 il (e7,()))
 else
 ir (.inl (())))) ((0:Int),())) fun (_)=>
 jn (S:=Unit) (
 aK (S:=Int×Unit) (fun (x58,_)=>
 (bif (decide (x58<(p1_1.length:Int))) then
 ck (ib x58 p1_1.length)<|
 let e9:aC:=(gt p1_1 x58 aX.z)
 (bif (sq e9.2.2.2.2.1 (⟨#[]⟩:ByteArray)) then
 let e10:Int:=(wr (x58+(1:Int)))
 il (e10,())
 else
 jn (S:=ByteArray×(List aC)×(List (List ao))×Unit) (
 (bif (!sq e9.2.2.2.2.1 p1_0) then
 (cF.F (p0,e9.2.2.2.2.1,())).bind fun y11=>
 (bif (decide (y11.1<(0:Int))) then
 ir (.inr (.inr ((92:Int),())))
 else
 ck (ib y11.1 p0.length)<|
 let e12:bx:=(gt p0 y11.1 gv.z)
 (bif (e12.1 !=(0:Int)) then
 ir (.inr (.inr ((92:Int),())))
 else
 ck (ib y11.1 p0.length)<|
 let e13:bx:=(gt p0 y11.1 gv.z)
 il (e13.2.1.1,e13.2.1.2.1,e13.2.1.2.2,())))
 else
 il (p1_0,p1_1,p1_2,()))) fun (o12_0_0_14,o12_0_1_14,o12_0_2_14,_)=>
 ck (ib (0:Int) o12_0_1_14.length)<|
 let e15:aC:=(List.getD o12_0_1_14 0 aX.z)
 (bif (e15.2.1 !=e9.2.1) then
 ir (.inr ((92:Int),()))
 else
 (bif (e9.2.2.2.2.2==(2:Int)) then
 (bif (!e9.2.2.1) then
 ir (.inr ((92:Int),()))
 else
 let e16:Int:=(wr (x58+(1:Int)))
 il (e16,()))
 else
 let e17:Int:=(wr (x58+(1:Int)))
 il (e17,()))))
 else
 ir (.inl (())))) ((0:Int),())) fun (_)=>
 aK (S:=Int×(List Int)×Unit) (fun (x8,ok_1_0,_)=>
 (bif (decide (x8<(p1_2.length:Int))) then
 jn (S:=Bool×(List Int)×Unit) (
 ck (ib x8 p1_2.length)<|
 let e19:(List ao):=(gt p1_2 x8 [])
 (cZ.F (e19,ok_1_0,())).bind fun y20=>
 il ((!y20.1),ok_1_0,())) fun (x16_21,ok_1_0_21,_)=>
 (bif x16_21 then
 Option.map Sum.inr ((bif (decide (x8≥(0:Int))) then
 some ((93:Int),())
 else
 some ((0:Int),())))
 else
 let e22:Int:=(wr (x8+(1:Int)))
 il (e22,ok_1_0_21,()))
 else
 Option.map Sum.inr ((bif (decide ((-1:Int)≥(0:Int))) then
 some ((93:Int),())
 else
 some ((0:Int),()))))) ((0:Int),y1.1,())
noncomputable def cO.F:=stk cO.B
theorem cO.eq:cO.F=cO.B:=aq _
theorem cO.k:Kk cZ.s ae.q cO.l Tryz.f139 cO.d cO.B:={}
noncomputable def cO.s:SpL:=cO.d.e [] cO.F::cZ.s
theorem cO.c:Ck cO.s ae.q:=cS cZ.c cO.k
def dz.d:Fe:=⟨140,2,⟨[(0,.v false [.sl 84 gv]),(1,.v true [.str,.str,.str,.int .i64,.int .i64,.sl 126 bD,.sl 3 (.int .i64),.bool,.sl 156 dW])],[],[],0,[]⟩,⟨[(0,.v false [.bool])],[],[],1000,[]⟩,(.s none .n (.s (some ⟨[],[],[0,3],0,[]⟩) .n (.s none .n (.s none .n (.s none .n (.s none (.s (some ⟨[(83,.v false [.bool])],[],[3,7],0,[]⟩) .n .n) (.s (some ⟨[(7,.v false [.sl 3 (.int .i64)])],[],[3],0,[]⟩) .n (.s (some ⟨[],[],[3,7],0,[]⟩) (.s none .n (.b (.l ⟨[(98,.v false [.int .i64])],[],[3,7,96,97],0,[]⟩ .n))) (.s (some ⟨[],[],[3],0,[]⟩) (.s none .n (.b (.l ⟨[(110,.v false [.int .i64])],[],[3,7,108,109],0,[]⟩ (.s none .n (.s none .n (.s none (.b (.s none .n (.s (some ⟨[(136,.v false [.bool])],[],[3,7,108,109,110],0,[]⟩) .n .n))) .n)))))) .n)))))))))⟩
noncomputable def dz.B:(List bx)×ByteArray×ByteArray×ByteArray×Int×Int×(List ao)×(List Int)×Bool×(List cH)×Unit→Option (Bool×Unit):=fun (p0,p1_0,p1_1,p1_2,p1_3,p1_4,p1_5,p1_6,p1_7,p1_8,_)=>
 jn (S:=Unit) (
 (cF.F (p0,p1_1,())).bind fun y1=>
 (bif (decide (y1.1<(0:Int))) then
 ir (false,())
 else
 (bif (!sq p1_2 (⟨#[]⟩:ByteArray)) then
 (cF.F (p0,p1_2,())).bind fun y2=>
 (bif (decide (y2.1<(0:Int))) then
 ir (false,())
 else
 il (()))
 else
 il (())))) fun (_)=>
 (cF.F (p0,p1_1,())).bind fun y4=>
 ck (ib y4.1 p0.length)<|
 let e5:bx:=(gt p0 y4.1 gv.z)
 (aA.F (p0,e5.1,e5.2.1.1,e5.2.1.2.1,e5.2.1.2.2,e5.2.2.1,e5.2.2.2.1,e5.2.2.2.2.1,e5.2.2.2.2.2.1.1,e5.2.2.2.2.2.1.2,e5.2.2.2.2.2.2.1,e5.2.2.2.2.2.2.2.1,e5.2.2.2.2.2.2.2.2.1,e5.2.2.2.2.2.2.2.2.2,())).bind fun y6=>
 (aI.F (p0,p1_0,p1_1,p1_2,p1_3,p1_4,p1_5,p1_6,p1_7,p1_8,())).bind fun y7=>
 ck (sb (y6.1.length:Int) (y7.1.length:Int) y7.1.length)<|
 jn (S:=Bool×Unit) (
 (bif (!sq p1_2 (⟨#[]⟩:ByteArray)) then
 ck (ib (0:Int) 2)<|
 (bif (decide (p1_3≥(y6.1.length:Int))) then
 il (true,())
 else
 ck (ib (1:Int) 2)<|
 (bif (decide (p1_4≥((Int.toNat (y7.1.length:Int)-Int.toNat (y6.1.length:Int):Nat):Int))) then
 il (true,())
 else
 ck (ib (0:Int) 2)<|
 ck (ib p1_3 y6.1.length)<|
 let e8:Int:=(List.getD y6.1 (Int.toNat p1_3) (0:Int))
 ck (ib (1:Int) 2)<|
 ck (ib p1_4 (Int.toNat (y7.1.length:Int)-Int.toNat (y6.1.length:Int):Nat))<|
 let e9:Int:=(List.getD y7.1 ((Int.toNat (y6.1.length:Int))+(Int.toNat p1_4):Nat) (0:Int))
 il ((e8 !=e9),())))
 else
 il (false,()))) fun (x83_10,_)=>
 (bif x83_10 then
 some (false,())
 else
 jn (S:=(List Int)×Unit) (
 (bif (decide ((p1_5.length:Int)>(0:Int))) then
 (cZ.F (p1_5,y7.1,())).bind fun y11=>
 (bif (!y11.1) then
 ir (false,())
 else
 il (y7.1,()))
 else
 il (y7.1,()))) fun (x7_12,_)=>
 jn (S:=Unit) (
 aK (S:=Int×Unit) (fun (x98,_)=>
 (bif (decide (x98<(p1_6.length:Int))) then
 ck (ib x98 p1_6.length)<|
 let e13:Int:=(gt p1_6 x98 (0:Int))
 (bif (decide (e13≥(x7_12.length:Int))) then
 ir (.inr (false,()))
 else
 let e14:Int:=(wr (x98+(1:Int)))
 il (e14,()))
 else
 ir (.inl (())))) ((0:Int),())) fun (_)=>
 jn (S:=Unit) (
 aK (S:=Int×Unit) (fun (x110,_)=>
 (bif (decide (x110<(p1_8.length:Int))) then
 ck (ib x110 p1_8.length)<|
 let e16:cH:=(gt p1_8 x110 dW.z)
 jn (S:=Bool×Unit) (
 (bif (e16.1 !=(0:Int)) then
 (bif (decide (e16.2≥(x7_12.length:Int))) then
 il (true,())
 else
 (bif (e16.1==(1:Int)) then
 ck (ib e16.2 x7_12.length)<|
 let e17:Int:=(gt x7_12 e16.2 (0:Int))
 il ((e17 !=(2:Int)),())
 else
 il (false,())))
 else
 (bif (e16.1==(1:Int)) then
 ck (ib e16.2 x7_12.length)<|
 let e18:Int:=(gt x7_12 e16.2 (0:Int))
 il ((e18 !=(2:Int)),())
 else
 il (false,())))) fun (x136_19,_)=>
 (bif x136_19 then
 ir (.inr (false,()))
 else
 let e20:Int:=(wr (x110+(1:Int)))
 il (e20,()))
 else
 ir (.inl (())))) ((0:Int),())) fun (_)=>
 let e22:Int:=(wr ((p1_6.length:Int)+(p1_8.length:Int)))
 (bif p1_7 then
 (bif (decide (e22≥(1:Int))) then
 some ((decide (e22≤(40:Int))),())
 else
 some (false,()))
 else
 (bif ((p1_8.length:Int)==(0:Int)) then
 (bif (decide (e22≥(1:Int))) then
 some ((decide (e22≤(40:Int))),())
 else
 some (false,()))
 else
 some (false,()))))
noncomputable def dz.F:=stk dz.B
theorem dz.eq:dz.F=dz.B:=aq _
theorem dz.k:Kk cO.s ae.q [] Tryz.f140 dz.d dz.B:={}
noncomputable def dz.s:SpL:=dz.d.e [] dz.F::cO.s
theorem dz.c:Ck dz.s ae.q:=cS cO.c dz.k
def dx.d:Fe:=⟨103,2,⟨[(0,.v false [.sl 84 gv]),(1,.v true [.int .i64,.str,.sl 75 aX,.sl 78 (.sl 126 bD),.str,.str,.str,.int .i64,.int .i64,.sl 126 bD,.sl 3 (.int .i64),.bool,.sl 156 dW])],[],[],0,[]⟩,⟨[(0,.v false [.int .i64])],[],[],1000,[]⟩,.n⟩
noncomputable def dx.B:(List bx)×Int×ByteArray×(List aC)×(List (List ao))×ByteArray×ByteArray×ByteArray×Int×Int×(List ao)×(List Int)×Bool×(List cH)×Unit→Option (Int×Unit):=fun (p0,p1_0,p1_1,p1_2,p1_3,p1_4,p1_5,p1_6,p1_7,p1_8,p1_9,p1_10,p1_11,p1_12,_)=>
 (gn.F (p1_0,p1_1,p1_2,p1_3,p1_4,p1_5,p1_6,p1_7,p1_8,p1_9,p1_10,p1_11,p1_12,())).bind fun y1=>
 (bif (!y1.1) then
 some ((1:Int),())
 else
 (bif (decide ((p0.length:Int)≥(20:Int))) then
 some ((95:Int),())
 else
 (dK.F (p1_0,p1_1,p1_2,p1_3,p1_4,p1_5,p1_6,p1_7,p1_8,p1_9,p1_10,p1_11,p1_12,())).bind fun y2=>
 (cF.F (p0,y2.1,())).bind fun y3=>
 (bif (decide (y3.1≥(0:Int))) then
 some ((90:Int),())
 else
 (bif (p1_0==(0:Int)) then
 (cO.F (p0,p1_1,p1_2,p1_3,())).bind fun y4=>
 some (y4.1,())
 else
 (dz.F (p0,p1_4,p1_5,p1_6,p1_7,p1_8,p1_9,p1_10,p1_11,p1_12,())).bind fun y5=>
 (bif (!y5.1) then
 some ((94:Int),())
 else
 some ((0:Int),()))))))
noncomputable def dx.F:=stk dx.B
theorem dx.eq:dx.F=dx.B:=aq _
theorem dx.k:Kk dz.s ae.q [] Tryz.f103 dx.d dx.B:={}
noncomputable def dx.s:SpL:=dx.d.e [] dx.F::dz.s
theorem dx.c:Ck dx.s ae.q:=cS dz.c dx.k
def schema_May.d:Fe:=⟨66,1,⟨[(0,.v false [.sl 84 gv])],[],[],0,[]⟩,⟨[(0,.v false [.bool])],[],[],1000,[]⟩,(.s none .n (.s none (.s none .n (.b (.l ⟨[(7,.v false [.int .i64])],[],[0,5,6],0,[]⟩ .n))) .n))⟩
noncomputable def schema_May.B:(List bx)×Unit→Option (Bool×Unit):=fun (p0,_)=>
 aK (S:=Int×Unit) (fun (x7,_)=>
 (bif (decide (x7<(p0.length:Int))) then
 ck (ib x7 p0.length)<|
 let e1:bx:=(gt p0 x7 gv.z)
 ck (sb (0:Int) x7 p0.length)<|
 let e2:List bx:=(List.drop (Int.toNat (0:Int)) (List.take (Int.toNat x7) p0))
 (dx.F (e2,e1.1,e1.2.1.1,e1.2.1.2.1,e1.2.1.2.2,e1.2.2.1,e1.2.2.2.1,e1.2.2.2.2.1,e1.2.2.2.2.2.1.1,e1.2.2.2.2.2.1.2,e1.2.2.2.2.2.2.1,e1.2.2.2.2.2.2.2.1,e1.2.2.2.2.2.2.2.2.1,e1.2.2.2.2.2.2.2.2.2,())).bind fun y3=>
 (bif (y3.1 !=(0:Int)) then
 ir (false,())
 else
 let e4:Int:=(wr (x7+(1:Int)))
 il (e4,()))
 else
 ir (true,()))) ((0:Int),())
noncomputable def schema_May.F:=stk schema_May.B
theorem schema_May.eq:schema_May.F=schema_May.B:=aq _
theorem schema_May.k:Kk dx.s ae.q [] Tryz.f66 schema_May.d schema_May.B:={}
noncomputable def schema_May.s:SpL:=schema_May.d.e [] schema_May.F::dx.s
theorem schema_May.c:Ck schema_May.s ae.q:=cS dx.c schema_May.k
def cT.d:Fe:=⟨61,1,⟨[(0,.v false [.sl 84 gv])],[],[],0,[]⟩,⟨[(0,.v false [.ref 1000])],[(1000,false,.arr 40 io)],[],1001,[]⟩,(.s none .n (.s none .n (.s none (.s none .n (.b (.l ⟨[(3,.v false [.ref 0]),(8,.v false [.int .i64])],[(0,false,.arr 40 io)],[6,7],1,[]⟩ .n))) .n)))⟩
noncomputable def cT.B:(List bx)×Unit→Option ((List fR)×Unit):=fun (p0,_)=>
 aK (S:=Int×(List fR)×Unit) (fun (x8,o3_0,_)=>
 (bif (decide (x8<(p0.length:Int))) then
 ck (ib x8 p0.length)<|
 let e1:bx:=(gt p0 x8 gv.z)
 (bif (e1.1==(0:Int)) then
 ck (Nat.ble (o3_0.length+ [e1.2.1].length) 2199023255552)<|
 let e2:Int:=(wr (x8+(1:Int)))
 il (e2,(o3_0++ [e1.2.1]),())
 else
 let e3:Int:=(wr (x8+(1:Int)))
 il (e3,o3_0,()))
 else
 ir (o3_0,()))) ((0:Int),[],())
noncomputable def cT.F:=stk cT.B
theorem cT.eq:cT.F=cT.B:=aq _
theorem cT.k:Kk schema_May.s ae.q [] Tryz.f61 cT.d cT.B:={}
noncomputable def cT.s:SpL:=cT.d.e [] cT.F::schema_May.s
theorem cT.c:Ck cT.s ae.q:=cS schema_May.c cT.k
def fF.d:Fe:=⟨104,1,⟨[(0,.v false [.int .i64])],[],[],0,[]⟩,⟨[(0,.v false [.bool])],[],[],1000,[]⟩,.n⟩
noncomputable def fF.B:Int×Unit→Option (Bool×Unit):=fun (p0,_)=>
 (bif (decide (p0≥(-1000000000:Int))) then
 some ((decide (p0≤(1000000000:Int))),())
 else
 some (false,()))
noncomputable def fF.F:=stk fF.B
theorem fF.eq:fF.F=fF.B:=aq _
theorem fF.k:Kk cT.s ae.q [] Tryz.f104 fF.d fF.B:={}
noncomputable def fF.s:SpL:=fF.d.e [] fF.F::cT.s
theorem fF.c:Ck fF.s ae.q:=cS cT.c fF.k
def eU.d:Fe:=⟨95,1,⟨[(0,.v true [.int .i64,.int .i64,.str])],[],[],0,[]⟩,⟨[(0,.v false [.bool])],[],[],1000,[]⟩,.n⟩
noncomputable def eU.B:Int×Int×ByteArray×Unit→Option (Bool×Unit):=fun (p0_0,p0_1,p0_2,_)=>
 (dm.F (p0_0,p0_1,p0_2,())).bind fun y1=>
 some ((!y1.1),())
noncomputable def eU.F:=stk eU.B
theorem eU.eq:eU.F=eU.B:=aq _
theorem eU.k:Kk fF.s ae.q [] Tryz.f95 eU.d eU.B:={}
noncomputable def eU.s:SpL:=eU.d.e [] eU.F::fF.s
theorem eU.c:Ck eU.s ae.q:=cS fF.c eU.k
def fO.d:Fe:=⟨55,1,⟨[(0,.v false [.sl 47 bh])],[],[],0,[]⟩,⟨[(0,.v false [.bool])],[],[],1000,[]⟩,.n⟩
noncomputable def fO.l:InT:=[(94,[],Tryz.f94,.n),(134,[],Tryz.f134,(.s none .n (.s none (.s none .n (.b (.l ⟨[(8,.v false [.int .i64])],[],[0,1,7],0,[]⟩ (.s none .n (.s none .n (.s none (.b (.s none .n (.s (some ⟨[(16,.v false [.bool])],[],[0,1,5,7,8],0,[]⟩) .n .n))) .n)))))) .n)))]
noncomputable def fO.B:(List ax)×Unit→Option (Bool×Unit):=fun (p0,_)=>
 (bif (decide ((p0.length:Int)≤(40:Int))) then
 aK (S:=Int×Unit) (fun (x8,_)=>
 (bif (decide (x8<(p0.length:Int))) then
 jn (S:=Bool×Unit) (
 ck (ib x8 p0.length)<|
 let e1:ax:=(gt p0 x8 bh.z)
 (eU.F (e1.1,e1.2.1,e1.2.2,())).bind fun y2=>
 il (y2.1,())) fun (x16_3,_)=>
 (bif x16_3 then
 ir ((!(decide (x8≥(0:Int)))),())
 else
 let e4:Int:=(wr (x8+(1:Int)))
 il (e4,()))
 else
 ir ((!(decide ((-1:Int)≥(0:Int)))),()))) ((0:Int),())
 else
 some (false,()))
noncomputable def fO.F:=stk fO.B
theorem fO.eq:fO.F=fO.B:=aq _
theorem fO.k:Kk eU.s ae.q fO.l Tryz.f55 fO.d fO.B:={}
noncomputable def fO.s:SpL:=fO.d.e [] fO.F::eU.s
theorem fO.c:Ck fO.s ae.q:=cS eU.c fO.k
def db.d:Fe:=⟨200,1,⟨[(0,.v false [.int .i64])],[],[],0,[]⟩,⟨[(0,.v false [.bool])],[],[],1000,[]⟩,.n⟩
noncomputable def db.B:Int×Unit→Option (Bool×Unit):=fun (p0,_)=>
 some ((p0 !=p0),())
noncomputable def db.F:=stk db.B
theorem db.eq:db.F=db.B:=aq _
theorem db.k:Kk fO.s ae.q [] Tryz.f200 db.d db.B:={}
noncomputable def db.s:SpL:=db.d.e [] db.F::fO.s
theorem db.c:Ck db.s ae.q:=cS fO.c db.k
def cD.d:Fe:=⟨173,2,⟨[(0,.v false [.int .i64]),(1,.v false [.int .i64])],[],[],0,[]⟩,⟨[(0,.v false [.int .i64])],[],[],1000,[]⟩,.n⟩
noncomputable def cD.B:Int×Int×Unit→Option (Int×Unit):=fun (p0,p1,_)=>
 (db.F (p0,())).bind fun y1=>
 (db.F (p1,())).bind fun y2=>
 (bif y1.1 then
 (bif y2.1 then
 some ((0:Int),())
 else
 some ((-1:Int),()))
 else
 (bif y2.1 then
 some ((1:Int),())
 else
 (bif (decide (p0<p1)) then
 some ((-1:Int),())
 else
 (bif (decide (p0>p1)) then
 some ((1:Int),())
 else
 some ((0:Int),())))))
noncomputable def cD.F:=stk cD.B
theorem cD.eq:cD.F=cD.B:=aq _
theorem cD.k:Kk db.s ae.q [] Tryz.f173 cD.d cD.B:={}
noncomputable def cD.s:SpL:=cD.d.e [] cD.F::db.s
theorem cD.c:Ck cD.s ae.q:=cS db.c cD.k
def strings_Compare.d:Fe:=⟨174,2,⟨[(0,.v false [.str]),(1,.v false [.str])],[],[],0,[]⟩,⟨[(0,.v false [.int .i64])],[],[],1000,[]⟩,.n⟩
noncomputable def strings_Compare.B:TS strings_Compare.d.si→Option (TS strings_Compare.d.so):=fun (a,b,_)=>some (uk a b,())
noncomputable def strings_Compare.F:=stk strings_Compare.B
theorem strings_Compare.eq:strings_Compare.F=strings_Compare.B:=aq _
theorem strings_Compare.ok:fk PP 174 ⟨2,strings_Compare.d.si,strings_Compare.d.so,strings_Compare.F⟩:=by
 rw [strings_Compare.eq]
 exact ul
noncomputable def strings_Compare.s:SpL:=strings_Compare.d.e [] strings_Compare.F::cD.s
theorem strings_Compare.c:Ck strings_Compare.s ae.q:=gK.consS cD.c [] ⟨_,Tryz.func174,by kernel_rfl,by decide⟩ strings_Compare.ok
def eC.d:Fe:=⟨172,1,⟨[(0,.v false [.sl 3 (.int .i64)])],[],[],0,[]⟩,⟨[(0,.v false [.int .i64])],[],[],1000,[]⟩,(.s none .n (.s none .n (.s none (.s none .n (.b (.l ⟨[(8,.v false [.int .i64])],[],[3,6,7],0,[]⟩ .n))) .n)))⟩
noncomputable def eC.B:(List Int)×Unit→Option (Int×Unit):=fun (p0,_)=>
 aK (S:=Int×Unit) (fun (x8,_)=>
 (bif (decide (x8<(p0.length:Int))) then
 ck (ib x8 p0.length)<|
 let e1:Int:=(gt p0 x8 (0:Int))
 (bif (e1 !=(0:Int)) then
 ir (e1,())
 else
 let e2:Int:=(wr (x8+(1:Int)))
 il (e2,()))
 else
 ir ((0:Int),()))) ((0:Int),())
noncomputable def eC.F:=stk eC.B
theorem eC.eq:eC.F=eC.B:=aq _
theorem eC.k:Kk strings_Compare.s ae.q [] Tryz.f172 eC.d eC.B:={}
noncomputable def eC.s:SpL:=eC.d.e [] eC.F::strings_Compare.s
theorem eC.c:Ck eC.s ae.q:=cS strings_Compare.c eC.k
def dc.d:Fe:=⟨133,2,⟨[(0,.v true [.int .i64,.int .i64,.str]),(1,.v true [.int .i64,.int .i64,.str])],[],[],0,[]⟩,⟨[(0,.v false [.int .i64])],[],[],1000,[]⟩,.n⟩
noncomputable def dc.B:Int×Int×ByteArray×Int×Int×ByteArray×Unit→Option (Int×Unit):=fun (p0_0,p0_1,p0_2,p1_0,p1_1,p1_2,_)=>
 (cD.F (p0_0,p1_0,())).bind fun y1=>
 (cD.F (p0_1,p1_1,())).bind fun y2=>
 (strings_Compare.F (p0_2,p1_2,())).bind fun y3=>
 (eC.F ([y1.1,y2.1,y3.1],())).bind fun y4=>
 some (y4.1,())
noncomputable def dc.F:=stk dc.B
theorem dc.eq:dc.F=dc.B:=aq _
theorem dc.k:Kk eC.s ae.q [] Tryz.f133 dc.d dc.B:={}
noncomputable def dc.s:SpL:=dc.d.e [] dc.F::eC.s
theorem dc.c:Ck dc.s ae.q:=cS eC.c dc.k
def dL.d:Fe:=⟨141,2,⟨[(0,.v false [.sl 47 bh]),(1,.v false [.sl 47 bh])],[],[],0,[]⟩,⟨[(0,.v false [.int .i64])],[],[],1000,[]⟩,.n⟩
noncomputable def dL.l:InT:=[(187,[],Tryz.f187,(.s none .n (.s (some ⟨[],[],[0,1],0,[]⟩) (.s none .n (.b (.l ⟨[(13,.v false [.int .i64])],[],[0,1,2,11,12],0,[]⟩ (.s none .n (.s none .n (.s none (.b (.s none .n (.s none .n (.s none .n (.s (some ⟨[(10,.v false [.int .i64])],[],[0,1,2,11,12,13],0,[]⟩) .n .n))))) .n)))))) .n)))]
noncomputable def dL.B:(List ax)×(List ax)×Unit→Option (Int×Unit):=fun (p0,p1,_)=>
 jn (S:=Unit) (
 aK (S:=Int×Unit) (fun (x13,_)=>
 (bif (decide (x13<(p0.length:Int))) then
 ck (ib x13 p0.length)<|
 let e1:ax:=(gt p0 x13 bh.z)
 (bif (decide (x13≥(p1.length:Int))) then
 ir (.inr ((1:Int),()))
 else
 ck (ib x13 p1.length)<|
 let e2:ax:=(gt p1 x13 bh.z)
 jn (S:=Int×Unit) (
 (dc.F (e1.1,e1.2.1,e1.2.2,e2.1,e2.2.1,e2.2.2,())).bind fun y3=>
 il (y3.1,())) fun (x10_4,_)=>
 (bif (x10_4 !=(0:Int)) then
 ir (.inr (x10_4,()))
 else
 let e5:Int:=(wr (x13+(1:Int)))
 il (e5,())))
 else
 ir (.inl (())))) ((0:Int),())) fun (_)=>
 (bif (decide ((p0.length:Int)<(p1.length:Int))) then
 some ((-1:Int),())
 else
 some ((0:Int),()))
noncomputable def dL.F:=stk dL.B
theorem dL.eq:dL.F=dL.B:=aq _
theorem dL.k:Kk dc.s ae.q dL.l Tryz.f141 dL.d dL.B:={}
noncomputable def dL.s:SpL:=dL.d.e [] dL.F::dc.s
theorem dL.c:Ck dL.s ae.q:=cS dc.c dL.k
def dM.d:Fe:=⟨105,2,⟨[(0,.v false [.sl 47 bh]),(1,.v false [.sl 47 bh])],[],[],0,[]⟩,⟨[(0,.v false [.int .i64])],[],[],1000,[]⟩,.n⟩
noncomputable def dM.B:(List ax)×(List ax)×Unit→Option (Int×Unit):=fun (p0,p1,_)=>
 (dL.F (p0,p1,())).bind fun y1=>
 some (y1.1,())
noncomputable def dM.F:=stk dM.B
theorem dM.eq:dM.F=dM.B:=aq _
theorem dM.k:Kk dL.s ae.q [] Tryz.f105 dM.d dM.B:={}
noncomputable def dM.s:SpL:=dM.d.e [] dM.F::dL.s
theorem dM.c:Ck dM.s ae.q:=cS dL.c dM.k
def gp.d:Fe:=⟨67,1,⟨[(0,.v false [.sl 62 dq])],[],[],0,[]⟩,⟨[(0,.v false [.bool])],[],[],1000,[]⟩,(.s none .n (.s none (.s none .n (.b (.l ⟨[(7,.v false [.int .i64])],[],[0,5,6],0,[]⟩ (.s none .n (.s none .n (.s none (.b (.s none .n (.s (some ⟨[(42,.v false [.bool])],[],[0,5,6,7],0,[]⟩) .n .n))) .n)))))) .n))⟩
noncomputable def gp.B:(List bj)×Unit→Option (Bool×Unit):=fun (p0,_)=>
 aK (S:=Int×Unit) (fun (x7,_)=>
 (bif (decide (x7<(p0.length:Int))) then
 ck (ib x7 p0.length)<|
 let e1:bj:=(gt p0 x7 dq.z)
 jn (S:=Bool×Unit) (
 (bif (e1.2==(0:Int)) then
 il (true,())
 else
 (fF.F (e1.2,())).bind fun y2=>
 (bif (!y2.1) then
 il (true,())
 else
 (fO.F (e1.1,())).bind fun y3=>
 (bif (!y3.1) then
 il (true,())
 else
 (bif (decide (x7>(0:Int))) then
 let e4:Int:=(wr (x7-(1:Int)))
 ck (ib e4 p0.length)<|
 let e5:bj:=(gt p0 e4 dq.z)
 (dM.F (e5.1,e1.1,())).bind fun y6=>
 il ((decide (y6.1≥(0:Int))),())
 else
 il (false,())))))) fun (x42_7,_)=>
 (bif x42_7 then
 ir (false,())
 else
 let e8:Int:=(wr (x7+(1:Int)))
 il (e8,()))
 else
 ir (true,()))) ((0:Int),())
noncomputable def gp.F:=stk gp.B
theorem gp.eq:gp.F=gp.B:=aq _
theorem gp.k:Kk dM.s ae.q [] Tryz.f67 gp.d gp.B:={}
noncomputable def gp.s:SpL:=gp.d.e [] gp.F::dM.s
theorem gp.c:Ck gp.s ae.q:=cS dM.c gp.k
def cR.d:Fe:=⟨25,2,⟨[(0,.v false [.sl 84 gv]),(1,.v false [.sl 44 dS])],[],[],0,[]⟩,⟨[(0,.v false [.bool])],[],[],1000,[]⟩,(.s none .n (.s none .n (.s none .n (.s none .n (.s none (.s none .n (.b (.l ⟨[(22,.v false [.int .i64])],[],[5,20,21],0,[]⟩ (.s none .n (.s none .n (.s (some ⟨[],[],[5,20,21,22],0,[]⟩) (.b (.s none .n (.s (some ⟨[],[],[5,6,7,20,21,22],0,[]⟩) .n (.s none .n (.b (.l ⟨[(44,.v false [.int .i64])],[],[5,6,7,20,21,22,42,43],0,[]⟩ (.s none .n (.s none .n (.s none (.b (.s none .n (.s (some ⟨[(91,.v false [.bool])],[],[5,6,7,20,21,22,42,43,44],0,[]⟩) .n .n))) .n))))))))) .n)))))) .n)))))⟩
noncomputable def cR.B:(List bx)×(List bC)×Unit→Option (Bool×Unit):=fun (p0,p1,_)=>
 (schema_May.F (p0,())).bind fun y1=>
 (bif (!y1.1) then
 some (false,())
 else
 (cT.F (p0,())).bind fun y2=>
 (bif ((y2.1.length:Int) !=(p1.length:Int)) then
 some (false,())
 else
 aK (S:=Int×Unit) (fun (x22,_)=>
 (bif (decide (x22<(p1.length:Int))) then
 jn (S:=Unit) (
 ck (ib x22 p1.length)<|
 let e3:bC:=(gt p1 x22 dS.z)
 jn (S:=Unit) (
 ck (ib x22 y2.1.length)<|
 let e4:fR:=(List.getD y2.1 (Int.toNat x22) io.z)
 (bif (!sq e3.1 e4.1) then
 ir (.inr (.inr (false,())))
 else
 (gp.F (e3.2,())).bind fun y5=>
 (bif (!y5.1) then
 ir (.inr (.inr (false,())))
 else
 il (())))) fun (_)=>
 aK (S:=Int×Unit) (fun (x44',_)=>
 (bif (decide (x44'<(e3.2.length:Int))) then
 ck (ib x44' e3.2.length)<|
 let e7:bj:=(gt e3.2 x44' dq.z)
 jn (S:=Bool×Unit) (
 (bif (e7.2 !=(1:Int)) then
 il (true,())
 else
 ck (ib x22 y2.1.length)<|
 let e8:fR:=(List.getD y2.1 (Int.toNat x22) io.z)
 (bif ((e7.1.length:Int) !=(e8.2.1.length:Int)) then
 il (true,())
 else
 ck (ib (0:Int) e7.1.length)<|
 let e9:ax:=(List.getD e7.1 0 bh.z)
 (bif (e9.1==(0:Int)) then
 il (true,())
 else
 (bif (decide (x44'>(0:Int))) then
 let e10:Int:=(wr (x44'-(1:Int)))
 ck (ib e10 e3.2.length)<|
 let e11:bj:=(gt e3.2 e10 dq.z)
 ck (ib (0:Int) e11.1.length)<|
 let e12:ax:=(List.getD e11.1 0 bh.z)
 ck (ib (0:Int) e7.1.length)<|
 let e13:ax:=(List.getD e7.1 0 bh.z)
 il ((Ty.eq bh e12 e13),())
 else
 il (false,())))))) fun (x91_14,_)=>
 (bif x91_14 then
 ir (.inr (.inr (false,())))
 else
 let e15:Int:=(wr (x44'+(1:Int)))
 il (e15,()))
 else
 ir (.inl (())))) ((0:Int),())) fun (_)=>
 let e17:Int:=(wr (x22+(1:Int)))
 il (e17,())
 else
 ir (true,()))) ((0:Int),())))
noncomputable def cR.F:=stk cR.B
theorem cR.eq:cR.F=cR.B:=aq _
theorem cR.k:Kk gp.s ae.q [] Tryz.f25 cR.d cR.B:={}
noncomputable def cR.s:SpL:=cR.d.e [] cR.F::gp.s
theorem cR.c:Ck cR.s ae.q:=cS gp.c cR.k
def eP.d:Fe:=⟨77,2,⟨[(0,.v false [.sl 44 dS]),(1,.v false [.str])],[],[],0,[]⟩,⟨[(0,.v false [.sl 62 dq])],[],[],1000,[]⟩,.n⟩
noncomputable def eP.l:InT:=[(116,[(1,117)],Tryz.f116,(.s none .n (.s none (.s none .n (.b (.l ⟨[(8,.v false [.int .i64])],[],[0,1,7],0,[]⟩ (.s none .n (.s none .n (.s none (.b (.s none .n (.s (some ⟨[(16,.v false [.bool])],[],[0,1,5,7,8],0,[]⟩) .n .n))) .n)))))) .n))),(117,[],Tryz.f117,.n)]
noncomputable def eP.B:(List bC)×ByteArray×Unit→Option ((List bj)×Unit):=fun (p0,p1,_)=>
 aK (S:=Int×Unit) (fun (x8,_)=>
 (bif (decide (x8<(p0.length:Int))) then
 jn (S:=Bool×Unit) (
 ck (ib x8 p0.length)<|
 let e1:bC:=(gt p0 x8 dS.z)
 il ((sq e1.1 p1),())) fun (x16_2,_)=>
 (bif x16_2 then
 Option.map Sum.inr ((bif (decide (x8<(0:Int))) then
 some (([]:List bj),())
 else
 ck (ib x8 p0.length)<|
 let e3:bC:=(gt p0 x8 dS.z)
 some (e3.2,())))
 else
 let e4:Int:=(wr (x8+(1:Int)))
 il (e4,()))
 else
 Option.map Sum.inr ((bif (decide ((-1:Int)<(0:Int))) then
 some (([]:List bj),())
 else
 ck (ib (-1:Int) p0.length)<|
 let e5:bC:=(gt p0 (-1:Int) dS.z)
 some (e5.2,()))))) ((0:Int),())
noncomputable def eP.F:=stk eP.B
theorem eP.eq:eP.F=eP.B:=aq _
theorem eP.k:Kk cR.s ae.q eP.l Tryz.f77 eP.d eP.B:={}
noncomputable def eP.s:SpL:=eP.d.e [] eP.F::cR.s
theorem eP.c:Ck eP.s ae.q:=cS cR.c eP.k
def bS.d:Fe:=⟨78,1,⟨[(0,.v true [.str,.sl 75 aX,.sl 78 (.sl 126 bD),.sl 62 dq,.sl 44 dS])],[],[],0,[]⟩,⟨[(0,.v false [.int .i64])],[],[],1000,[]⟩,(.s none .n (.s none (.s none .n (.b (.l ⟨[(11,.v false [.int .i64])],[],[1,9,10],0,[]⟩ (.s none .n (.s none .n (.s (some ⟨[],[],[1,9,10,11],0,[]⟩) (.b (.s none .n (.s none .n (.b (.l ⟨[(18,.v false [.int .i64])],[],[1,9,10,11,16,17],0,[]⟩ .n))))) .n)))))) .n))⟩
noncomputable def bS.B:ByteArray×(List aC)×(List (List ao))×(List bj)×(List bC)×Unit→Option (Int×Unit):=fun (p0_0,p0_1,p0_2,p0_3,p0_4,_)=>
 aK (S:=Int×Unit) (fun (x11,_)=>
 (bif (decide (x11<(p0_3.length:Int))) then
 jn (S:=Unit) (
 ck (ib x11 p0_3.length)<|
 let e1:bj:=(gt p0_3 x11 dq.z)
 aK (S:=Int×Unit) (fun (x18',_)=>
 (bif (decide (x18'<(e1.1.length:Int))) then
 ck (ib x18' e1.1.length)<|
 let e2:ax:=(gt e1.1 x18' bh.z)
 ck (ib x18' p0_1.length)<|
 let e3:aC:=(gt p0_1 x18' aX.z)
 (bif (e2.1 !=e3.2.1) then
 (bif e3.2.2.1 then
 (bif (!(e2.1==(0:Int))) then
 ir (.inr (.inr (x18',())))
 else
 let e4:Int:=(wr (x18'+(1:Int)))
 il (e4,()))
 else
 ir (.inr (.inr (x18',()))))
 else
 let e5:Int:=(wr (x18'+(1:Int)))
 il (e5,()))
 else
 ir (.inl (())))) ((0:Int),())) fun (_)=>
 let e7:Int:=(wr (x11+(1:Int)))
 il (e7,())
 else
 ir ((-1:Int),()))) ((0:Int),())
noncomputable def bS.F:=stk bS.B
theorem bS.eq:bS.F=bS.B:=aq _
theorem bS.k:Kk eP.s ae.q [] Tryz.f78 bS.d bS.B:={}
noncomputable def bS.s:SpL:=bS.d.e [] bS.F::eP.s
theorem bS.c:Ck bS.s ae.q:=cS eP.c bS.k
def bM.d:Fe:=⟨79,1,⟨[(0,.v true [.str,.sl 75 aX,.sl 78 (.sl 126 bD),.sl 62 dq,.sl 44 dS])],[],[],0,[]⟩,⟨[(0,.v false [.int .i64])],[],[],1000,[]⟩,(.s none .n (.s none (.s none .n (.b (.l ⟨[(13,.v false [.int .i64])],[],[1,11,12],0,[]⟩ (.s none .n (.s none .n (.s (some ⟨[],[],[1,11,12,13],0,[]⟩) (.b (.s none .n (.s none .n (.s none .n (.s none .n (.b (.l ⟨[(5,.v false [.ref 0]),(25,.v false [.int .i64])],[(0,true,.mp (false,true) .bool)],[1,3,11,12,13,23,24],1,[]⟩ .n))))))) .n)))))) .n))⟩
noncomputable def bM.B:ByteArray×(List aC)×(List (List ao))×(List bj)×(List bC)×Unit→Option (Int×Unit):=fun (p0_0,p0_1,p0_2,p0_3,p0_4,_)=>
 aK (S:=Int×Unit) (fun (x13,_)=>
 (bif (decide (x13<(p0_1.length:Int))) then
 jn (S:=Unit) (
 ck (ib x13 p0_1.length)<|
 let e1:aC:=(gt p0_1 x13 aX.z)
 (bif (!e1.2.2.2.1) then
 il (())
 else
 aK (S:=Int×(List (Value×Bool))×Unit) (fun (x25',o5_0',_)=>
 (bif (decide (x25'<(p0_3.length:Int))) then
 ck (ib x25' p0_3.length)<|
 let e2:bj:=(gt p0_3 x25' dq.z)
 ck (ib x13 e2.1.length)<|
 let e3:ax:=(gt e2.1 x13 bh.z)
 (bif (e3.1 !=(0:Int)) then
 let e4:Bool:=(Option.getD (getKV (kV e3.1 e3.2.1 e3.2.2) o5_0') false)
 (bif e4 then
 ir (.inr (.inr (x13,())))
 else
 let e5:Int:=(wr (x25'+(1:Int)))
 il (e5,(fc (kV e3.1 e3.2.1 e3.2.2) true o5_0'),()))
 else
 let e6:Int:=(wr (x25'+(1:Int)))
 il (e6,(fc (kV e3.1 e3.2.1 e3.2.2) true o5_0'),()))
 else
 ir (.inl (())))) ((0:Int),([]:List (Value×Bool)),()))) fun (_)=>
 let e8:Int:=(wr (x13+(1:Int)))
 il (e8,())
 else
 ir ((-1:Int),()))) ((0:Int),())
noncomputable def bM.F:=stk bM.B
theorem bM.eq:bM.F=bM.B:=aq _
theorem bM.k:Kk bS.s ae.q [] Tryz.f79 bM.d bM.B:={}
noncomputable def bM.s:SpL:=bM.d.e [] bM.F::bS.s
theorem bM.c:Ck bM.s ae.q:=cS bS.c bM.k
def cf.d:Fe:=⟨80,1,⟨[(0,.v true [.str,.sl 75 aX,.sl 78 (.sl 126 bD),.sl 62 dq,.sl 44 dS])],[],[],0,[]⟩,⟨[(0,.v false [.int .i64])],[],[],1000,[]⟩,(.s none .n (.s none (.s none .n (.b (.l ⟨[(14,.v false [.int .i64])],[],[1,12,13],0,[]⟩ (.s none .n (.s none .n (.s (some ⟨[],[],[1,12,13,14],0,[]⟩) (.b (.s none .n (.s none .n (.s none .n (.s (some ⟨[(5,.v false [.ref 0])],[(0,true,.mp (false,true) .bool)],[1,3,12,13,14],1,[]⟩) (.s none .n (.b (.l ⟨[(5,.v false [.ref 0]),(31,.v false [.int .i64])],[(0,true,.mp (false,true) .bool)],[1,3,12,13,14,29,30],1,[]⟩ .n))) (.s none .n (.b (.l ⟨[(44,.v false [.int .i64])],[],[1,3,5,12,13,14,42,43],0,[]⟩ .n)))))))) .n)))))) .n))⟩
noncomputable def cf.B:ByteArray×(List aC)×(List (List ao))×(List bj)×(List bC)×Unit→Option (Int×Unit):=fun (p0_0,p0_1,p0_2,p0_3,p0_4,_)=>
 aK (S:=Int×Unit) (fun (x14,_)=>
 (bif (decide (x14<(p0_1.length:Int))) then
 jn (S:=Unit) (
 ck (ib x14 p0_1.length)<|
 let e1:aC:=(gt p0_1 x14 aX.z)
 (bif (sq e1.2.2.2.2.1 (⟨#[]⟩:ByteArray)) then
 il (())
 else
 jn (S:=(List (Value×Bool))×Unit) (
 (eP.F (p0_4,e1.2.2.2.2.1,())).bind fun y2=>
 aK (S:=Int×(List (Value×Bool))×Unit) (fun (x31',o5_0',_)=>
 (bif (decide (x31'<(y2.1.length:Int))) then
 ck (ib x31' y2.1.length)<|
 let e3:bj:=(gt y2.1 x31' dq.z)
 ck (ib (0:Int) e3.1.length)<|
 let e4:ax:=(List.getD e3.1 0 bh.z)
 let e5:Int:=(wr (x31'+(1:Int)))
 il (e5,(fc (kV e4.1 e4.2.1 e4.2.2) true o5_0'),())
 else
 ir (.inl (o5_0',())))) ((0:Int),(fc (kV (0:Int) (0:Int) (⟨#[]⟩:ByteArray)) true ([]:List (Value×Bool))),())) fun (o5_0_6,_)=>
 aK (S:=Int×Unit) (fun (x44',_)=>
 (bif (decide (x44'<(p0_3.length:Int))) then
 ck (ib x44' p0_3.length)<|
 let e7:bj:=(gt p0_3 x44' dq.z)
 ck (ib x14 e7.1.length)<|
 let e8:ax:=(gt e7.1 x14 bh.z)
 let e9:Bool:=(Option.getD (getKV (kV e8.1 e8.2.1 e8.2.2) o5_0_6) false)
 (bif (!e9) then
 ir (.inr (.inr (x14,())))
 else
 let e10:Int:=(wr (x44'+(1:Int)))
 il (e10,()))
 else
 ir (.inl (())))) ((0:Int),()))) fun (_)=>
 let e12:Int:=(wr (x14+(1:Int)))
 il (e12,())
 else
 ir ((-1:Int),()))) ((0:Int),())
noncomputable def cf.F:=stk cf.B
theorem cf.eq:cf.F=cf.B:=aq _
theorem cf.k:Kk bM.s ae.q [] Tryz.f80 cf.d cf.B:={}
noncomputable def cf.s:SpL:=cf.d.e [] cf.F::bM.s
theorem cf.c:Ck cf.s ae.q:=cS bM.c cf.k
def bc.d:Fe:=⟨193,1,⟨[(0,.v false [.ptr 0 0])],[(0,true,.box 212 [.ref 1,.bool,.sl 47 bh]),(1,true,.arr 47 bh)],[],2,[]⟩,⟨[(0,.v true [.int .i64,.int .i64,.str])],[(0,true,.box 212 [.ref 1001,.bool,.sl 47 bh]),(1001,false,.arr 47 bh)],[],1002,[(0,0)]⟩,.n⟩
noncomputable def bc.B:Bool×(List ax)×(List ax)×Unit→Option (Int×Int×ByteArray×Bool×(List ax)×(List ax)×Unit):=fun (o0_1,o0_2,o0_0,_)=>
 (bif ((o0_0.length:Int)==(0:Int)) then
 some ((0:Int),(0:Int),(⟨#[]⟩:ByteArray),false,o0_2,o0_0,())
 else
 let e1:Int:=(wr ((o0_0.length:Int)-(1:Int)))
 ck (ib e1 o0_0.length)<|
 let e2:ax:=(List.getD o0_0 (Int.toNat e1) bh.z)
 let e3:Int:=(wr ((o0_0.length:Int)-(1:Int)))
 ck (sb (0:Int) e3 o0_0.length)<|
 some (e2.1,e2.2.1,e2.2.2,o0_1,o0_2,(List.take (Int.toNat e3) o0_0),()))
noncomputable def bc.F:=stk bc.B
theorem bc.eq:bc.F=bc.B:=aq _
theorem bc.k:Kk cf.s ae.q [] Tryz.f193 bc.d bc.B:={}
noncomputable def bc.s:SpL:=bc.d.e [] bc.F::cf.s
theorem bc.c:Ck bc.s ae.q:=cS cf.c bc.k
def aQ.d:Fe:=⟨194,2,⟨[(0,.v false [.ptr 0 0]),(1,.v true [.int .i64,.int .i64,.str])],[(0,true,.box 212 [.ref 1,.bool,.sl 47 bh]),(1,true,.arr 47 bh)],[],2,[]⟩,⟨[(0,.tup [])],[(0,true,.box 212 [.ref 1001,.bool,.sl 47 bh]),(1001,false,.arr 47 bh)],[],1002,[(0,0)]⟩,.n⟩
noncomputable def aQ.B:Int×Int×ByteArray×Bool×(List ax)×(List ax)×Unit→Option (Bool×(List ax)×(List ax)×Unit):=fun (p1_0,p1_1,p1_2,o0_1,o0_2,o0_0,_)=>
 ck (Nat.ble (o0_0.length+ [(p1_0,(p1_1,p1_2))].length) 4398046511104)<|
 some (o0_1,o0_2,(o0_0++ [(p1_0,(p1_1,p1_2))]),())
noncomputable def aQ.F:=stk aQ.B
theorem aQ.eq:aQ.F=aQ.B:=aq _
theorem aQ.k:Kk bc.s ae.q [] Tryz.f194 aQ.d aQ.B:={}
noncomputable def aQ.s:SpL:=aQ.d.e [] aQ.F::bc.s
theorem aQ.c:Ck aQ.s ae.q:=cS bc.c aQ.k
def ef.d:Fe:=⟨252,2,⟨[(0,.v false [.int .i64]),(1,.v false [.int .i64])],[],[],0,[]⟩,⟨[(0,.tup [(false,[.int .i64]),(false,[.bool])])],[],[],1000,[]⟩,.n⟩
noncomputable def ef.B:Int×Int×Unit→Option (Int×Bool×Unit):=fun (p0,p1,_)=>
 let e1:Int:=(wr (p0+p1))
 (bif ((decide (e1>p0))==(decide (p1>(0:Int)))) then
 some (e1,true,())
 else
 some (e1,(p1==(0:Int)),()))
noncomputable def ef.F:=stk ef.B
theorem ef.eq:ef.F=ef.B:=aq _
theorem ef.k:Kk aQ.s ae.q [] Tryz.f252 ef.d ef.B:={}
noncomputable def ef.s:SpL:=ef.d.e [] ef.F::aQ.s
theorem ef.c:Ck ef.s ae.q:=cS aQ.c ef.k
def eV.d:Fe:=⟨214,2,⟨[(0,.v true [.int .i64,.int .i64,.str]),(1,.v true [.int .i64,.int .i64,.str])],[],[],0,[]⟩,⟨[(0,.tup [(true,[.int .i64,.int .i64,.str]),(false,[.bool])])],[],[],1000,[]⟩,.n⟩
noncomputable def eV.l:InT:=[(251,[],Tryz.f251,(.s none .n (.s (some ⟨[],[],[2,3,4,6],0,[]⟩) (.b (.s (some ⟨[(10,.v false [.bool])],[],[2,3,4,6],0,[]⟩) .n .n)) (.s (some ⟨[(8,.v false [.int .i64]),(9,.v false [.bool])],[],[6],0,[]⟩) .n .n))))]
noncomputable def eV.B:Int×Int×ByteArray×Int×Int×ByteArray×Unit→Option (Int×Int×ByteArray×Bool×Unit):=fun (p0_0,p0_1,p0_2,p1_0,p1_1,p1_2,_)=>
 jn (S:=Unit) (
 jn (S:=Bool×Unit) (
 (bif (p0_0==(0:Int)) then
 il (true,())
 else
 il ((p1_0==(0:Int)),()))) fun (x10_1,_)=>
 (bif x10_1 then
 ir ((0:Int),(0:Int),(⟨#[]⟩:ByteArray),true,())
 else
 (bif (p0_0 !=(2:Int)) then
 ir ((0:Int),(0:Int),(⟨#[]⟩:ByteArray),false,())
 else
 (bif (p1_0 !=(2:Int)) then
 ir ((0:Int),(0:Int),(⟨#[]⟩:ByteArray),false,())
 else
 il (()))))) fun (_)=>
 jn (S:=Int×Bool×Unit) (
 (ef.F (p0_1,p1_1,())).bind fun y3=>
 il (y3.1,y3.2.1,())) fun (x8_4,x9_4,_)=>
 (bif (!x9_4) then
 some ((0:Int),(0:Int),(⟨#[]⟩:ByteArray),false,())
 else
 some ((2:Int),x8_4,(⟨#[]⟩:ByteArray),true,()))
noncomputable def eV.F:=stk eV.B
theorem eV.eq:eV.F=eV.B:=aq _
theorem eV.k:Kk ef.s ae.q eV.l Tryz.f214 eV.d eV.B:={}
noncomputable def eV.s:SpL:=eV.d.e [] eV.F::ef.s
theorem eV.c:Ck eV.s ae.q:=cS ef.c eV.k
def eg.d:Fe:=⟨253,2,⟨[(0,.v false [.int .i64]),(1,.v false [.int .i64])],[],[],0,[]⟩,⟨[(0,.tup [(false,[.int .i64]),(false,[.bool])])],[],[],1000,[]⟩,.n⟩
noncomputable def eg.B:Int×Int×Unit→Option (Int×Bool×Unit):=fun (p0,p1,_)=>
 let e1:Int:=(wr (p0-p1))
 (bif ((decide (e1<p0))==(decide (p1>(0:Int)))) then
 some (e1,true,())
 else
 some (e1,(p1==(0:Int)),()))
noncomputable def eg.F:=stk eg.B
theorem eg.eq:eg.F=eg.B:=aq _
theorem eg.k:Kk eV.s ae.q [] Tryz.f253 eg.d eg.B:={}
noncomputable def eg.s:SpL:=eg.d.e [] eg.F::eV.s
theorem eg.c:Ck eg.s ae.q:=cS eV.c eg.k
def eW.d:Fe:=⟨215,2,⟨[(0,.v true [.int .i64,.int .i64,.str]),(1,.v true [.int .i64,.int .i64,.str])],[],[],0,[]⟩,⟨[(0,.tup [(true,[.int .i64,.int .i64,.str]),(false,[.bool])])],[],[],1000,[]⟩,.n⟩
noncomputable def eW.l:InT:=[(251,[],Tryz.f251,(.s none .n (.s (some ⟨[],[],[2,3,4,6],0,[]⟩) (.b (.s (some ⟨[(10,.v false [.bool])],[],[2,3,4,6],0,[]⟩) .n .n)) (.s (some ⟨[(8,.v false [.int .i64]),(9,.v false [.bool])],[],[6],0,[]⟩) .n .n))))]
noncomputable def eW.B:Int×Int×ByteArray×Int×Int×ByteArray×Unit→Option (Int×Int×ByteArray×Bool×Unit):=fun (p0_0,p0_1,p0_2,p1_0,p1_1,p1_2,_)=>
 jn (S:=Unit) (
 jn (S:=Bool×Unit) (
 (bif (p0_0==(0:Int)) then
 il (true,())
 else
 il ((p1_0==(0:Int)),()))) fun (x10_1,_)=>
 (bif x10_1 then
 ir ((0:Int),(0:Int),(⟨#[]⟩:ByteArray),true,())
 else
 (bif (p0_0 !=(2:Int)) then
 ir ((0:Int),(0:Int),(⟨#[]⟩:ByteArray),false,())
 else
 (bif (p1_0 !=(2:Int)) then
 ir ((0:Int),(0:Int),(⟨#[]⟩:ByteArray),false,())
 else
 il (()))))) fun (_)=>
 jn (S:=Int×Bool×Unit) (
 (eg.F (p0_1,p1_1,())).bind fun y3=>
 il (y3.1,y3.2.1,())) fun (x8_4,x9_4,_)=>
 (bif (!x9_4) then
 some ((0:Int),(0:Int),(⟨#[]⟩:ByteArray),false,())
 else
 some ((2:Int),x8_4,(⟨#[]⟩:ByteArray),true,()))
noncomputable def eW.F:=stk eW.B
theorem eW.eq:eW.F=eW.B:=aq _
theorem eW.k:Kk eg.s ae.q eW.l Tryz.f215 eW.d eW.B:={}
noncomputable def eW.s:SpL:=eW.d.e [] eW.F::eg.s
theorem eW.c:Ck eW.s ae.q:=cS eg.c eW.k
def dy.d:Fe:=⟨256,1,⟨[(0,.v false [.int .i64])],[],[],0,[]⟩,⟨[(0,.v false [.int .u64])],[],[],1000,[]⟩,.n⟩
noncomputable def dy.B:Int×Unit→Option (Int×Unit):=fun (p0,_)=>
 (bif (decide (p0<(0:Int))) then
 some ((IntKind.u64.wrap (0-(IntKind.u64.wrap (p0)))),())
 else
 some ((IntKind.u64.wrap (p0)),()))
noncomputable def dy.F:=stk dy.B
theorem dy.eq:dy.F=dy.B:=aq _
theorem dy.k:Kk eW.s ae.q [] Tryz.f256 dy.d dy.B:={}
noncomputable def dy.s:SpL:=dy.d.e [] dy.F::eW.s
theorem dy.c:Ck dy.s ae.q:=cS eW.c dy.k
def eh.d:Fe:=⟨254,2,⟨[(0,.v false [.int .i64]),(1,.v false [.int .i64])],[],[],0,[]⟩,⟨[(0,.tup [(false,[.int .i64]),(false,[.bool])])],[],[],1000,[]⟩,.n⟩
noncomputable def eh.B:Int×Int×Unit→Option (Int×Bool×Unit):=fun (p0,p1,_)=>
 (dy.F (p0,())).bind fun y1=>
 (dy.F (p1,())).bind fun y2=>
 (cp.F (y1.1,y2.1,())).bind fun y3=>
 let e4:Int:=(wr (p0*p1))
 (bif (y3.1==(0:Int)) then
 (bif (decide (y3.2.1<(9223372036854775808:Int))) then
 some (e4,true,())
 else
 (bif (y3.2.1==(9223372036854775808:Int)) then
 some (e4,(!((decide (p0<(0:Int)))==(decide (p1<(0:Int))))),())
 else
 some (e4,false,())))
 else
 some (e4,false,()))
noncomputable def eh.F:=stk eh.B
theorem eh.eq:eh.F=eh.B:=aq _
theorem eh.k:Kk dy.s ae.q [] Tryz.f254 eh.d eh.B:={}
noncomputable def eh.s:SpL:=eh.d.e [] eh.F::dy.s
theorem eh.c:Ck eh.s ae.q:=cS dy.c eh.k
def eX.d:Fe:=⟨216,2,⟨[(0,.v true [.int .i64,.int .i64,.str]),(1,.v true [.int .i64,.int .i64,.str])],[],[],0,[]⟩,⟨[(0,.tup [(true,[.int .i64,.int .i64,.str]),(false,[.bool])])],[],[],1000,[]⟩,.n⟩
noncomputable def eX.l:InT:=[(251,[],Tryz.f251,(.s none .n (.s (some ⟨[],[],[2,3,4,6],0,[]⟩) (.b (.s (some ⟨[(10,.v false [.bool])],[],[2,3,4,6],0,[]⟩) .n .n)) (.s (some ⟨[(8,.v false [.int .i64]),(9,.v false [.bool])],[],[6],0,[]⟩) .n .n))))]
noncomputable def eX.B:Int×Int×ByteArray×Int×Int×ByteArray×Unit→Option (Int×Int×ByteArray×Bool×Unit):=fun (p0_0,p0_1,p0_2,p1_0,p1_1,p1_2,_)=>
 jn (S:=Unit) (
 jn (S:=Bool×Unit) (
 (bif (p0_0==(0:Int)) then
 il (true,())
 else
 il ((p1_0==(0:Int)),()))) fun (x10_1,_)=>
 (bif x10_1 then
 ir ((0:Int),(0:Int),(⟨#[]⟩:ByteArray),true,())
 else
 (bif (p0_0 !=(2:Int)) then
 ir ((0:Int),(0:Int),(⟨#[]⟩:ByteArray),false,())
 else
 (bif (p1_0 !=(2:Int)) then
 ir ((0:Int),(0:Int),(⟨#[]⟩:ByteArray),false,())
 else
 il (()))))) fun (_)=>
 jn (S:=Int×Bool×Unit) (
 (eh.F (p0_1,p1_1,())).bind fun y3=>
 il (y3.1,y3.2.1,())) fun (x8_4,x9_4,_)=>
 (bif (!x9_4) then
 some ((0:Int),(0:Int),(⟨#[]⟩:ByteArray),false,())
 else
 some ((2:Int),x8_4,(⟨#[]⟩:ByteArray),true,()))
noncomputable def eX.F:=stk eX.B
theorem eX.eq:eX.F=eX.B:=aq _
theorem eX.k:Kk eh.s ae.q eX.l Tryz.f216 eX.d eX.B:={}
noncomputable def eX.s:SpL:=eX.d.e [] eX.F::eh.s
theorem eX.c:Ck eX.s ae.q:=cS eh.c eX.k
def cq.d:Fe:=⟨119,1,⟨[(0,.v false [.bool])],[],[],0,[]⟩,⟨[(0,.v true [.int .i64,.int .i64,.str])],[],[],1000,[]⟩,.n⟩
noncomputable def cq.B:Bool×Unit→Option (Int×Int×ByteArray×Unit):=fun (p0,_)=>
 (bif p0 then
 some ((1:Int),(1:Int),(⟨#[]⟩:ByteArray),())
 else
 some ((1:Int),(0:Int),(⟨#[]⟩:ByteArray),()))
noncomputable def cq.F:=stk cq.B
theorem cq.eq:cq.F=cq.B:=aq _
theorem cq.k:Kk eX.s ae.q [] Tryz.f119 cq.d cq.B:={}
noncomputable def cq.s:SpL:=cq.d.e [] cq.F::eX.s
theorem cq.c:Ck cq.s ae.q:=cS eX.c cq.k
def aB.d:Fe:=⟨297,2,⟨[(0,.v false [.sl 47 bh]),(1,.v true [.int .i64,.int .i64,.str])],[],[],0,[]⟩,⟨[(0,.v false [.int .i64])],[],[],1000,[]⟩,(.s none .n (.s none (.s none .n (.b (.l ⟨[(8,.v false [.int .i64])],[],[0,3,7],0,[]⟩ .n))) .n))⟩
noncomputable def aB.B:(List ax)×Int×Int×ByteArray×Unit→Option (Int×Unit):=fun (p0,p1_0,p1_1,p1_2,_)=>
 aK (S:=Int×Unit) (fun (x8,_)=>
 (bif (decide (x8<(p0.length:Int))) then
 ck (ib x8 p0.length)<|
 let e1:ax:=(gt p0 x8 bh.z)
 (bif (Ty.eq bh (p1_0,(p1_1,p1_2)) e1) then
 ir (x8,())
 else
 let e2:Int:=(wr (x8+(1:Int)))
 il (e2,()))
 else
 ir ((-1:Int),()))) ((0:Int),())
noncomputable def aB.F:=stk aB.B
theorem aB.eq:aB.F=aB.B:=aq _
theorem aB.k:Kk cq.s ae.q [] Tryz.f297 aB.d aB.B:={}
noncomputable def aB.s:SpL:=aB.d.e [] aB.F::cq.s
theorem aB.c:Ck aB.s ae.q:=cS cq.c aB.k
def ar.d:Fe:=⟨278,2,⟨[(0,.v false [.sl 47 bh]),(1,.v true [.int .i64,.int .i64,.str])],[],[],0,[]⟩,⟨[(0,.v false [.bool])],[],[],1000,[]⟩,.n⟩
noncomputable def ar.B:(List ax)×Int×Int×ByteArray×Unit→Option (Bool×Unit):=fun (p0,p1_0,p1_1,p1_2,_)=>
 (aB.F (p0,p1_0,p1_1,p1_2,())).bind fun y1=>
 some ((decide (y1.1≥(0:Int))),())
noncomputable def ar.F:=stk ar.B
theorem ar.eq:ar.F=ar.B:=aq _
theorem ar.k:Kk aB.s ae.q [] Tryz.f278 ar.d ar.B:={}
noncomputable def ar.s:SpL:=ar.d.e [] ar.F::aB.s
theorem ar.c:Ck ar.s ae.q:=cS aB.c ar.k
def dR.d:Fe:=⟨257,2,⟨[(0,.v false [.bool]),(1,.v false [.sl 47 bh])],[],[],0,[]⟩,⟨[(0,.v true [.int .i64,.int .i64,.str])],[],[],1000,[]⟩,.n⟩
noncomputable def dR.l:InT:=[(279,[(1,280)],Tryz.f279,.n),(280,[],Tryz.f280,.n),(298,[(1,280)],Tryz.f298,(.s none .n (.s none (.s none .n (.b (.l ⟨[(8,.v false [.int .i64])],[],[0,1,7],0,[]⟩ (.s none .n (.s none .n (.s none (.b (.s none .n (.s (some ⟨[(16,.v false [.bool])],[],[0,1,5,7,8],0,[]⟩) .n .n))) .n)))))) .n)))]
noncomputable def dR.B:Bool×(List ax)×Unit→Option (Int×Int×ByteArray×Unit):=fun (p0,p1,_)=>
 (cq.F (p0,())).bind fun y1=>
 (cq.F ((!p0),())).bind fun y2=>
 (ar.F (p1,y1.1,y1.2.1,y1.2.2.1,())).bind fun y3=>
 (bif y3.1 then
 some (y1.1,y1.2.1,y1.2.2.1,())
 else
 aK (S:=Int×Unit) (fun (x8,_)=>
 (bif (decide (x8<(p1.length:Int))) then
 jn (S:=Bool×Unit) (
 ck (ib x8 p1.length)<|
 let e4:ax:=(gt p1 x8 bh.z)
 il ((!(Ty.eq bh e4 (y2.1,(y2.2.1,y2.2.2.1)))),())) fun (x16_5,_)=>
 (bif x16_5 then
 Option.map Sum.inr ((bif (decide (x8≥(0:Int))) then
 some ((0:Int),(0:Int),(⟨#[]⟩:ByteArray),())
 else
 some (y2.1,y2.2.1,y2.2.2.1,())))
 else
 let e6:Int:=(wr (x8+(1:Int)))
 il (e6,()))
 else
 Option.map Sum.inr ((bif (decide ((-1:Int)≥(0:Int))) then
 some ((0:Int),(0:Int),(⟨#[]⟩:ByteArray),())
 else
 some (y2.1,y2.2.1,y2.2.2.1,()))))) ((0:Int),()))
noncomputable def dR.F:=stk dR.B
theorem dR.eq:dR.F=dR.B:=aq _
theorem dR.k:Kk ar.s ae.q dR.l Tryz.f257 dR.d dR.B:={}
noncomputable def dR.s:SpL:=dR.d.e [] dR.F::ar.s
theorem dR.c:Ck dR.s ae.q:=cS ar.c dR.k
def fG.d:Fe:=⟨217,1,⟨[(0,.v false [.sl 47 bh])],[],[],0,[]⟩,⟨[(0,.v true [.int .i64,.int .i64,.str])],[],[],1000,[]⟩,.n⟩
noncomputable def fG.B:(List ax)×Unit→Option (Int×Int×ByteArray×Unit):=fun (p0,_)=>
 (dR.F (false,p0,())).bind fun y1=>
 some (y1.1,y1.2.1,y1.2.2.1,())
noncomputable def fG.F:=stk fG.B
theorem fG.eq:fG.F=fG.B:=aq _
theorem fG.k:Kk dR.s ae.q [] Tryz.f217 fG.d fG.B:={}
noncomputable def fG.s:SpL:=fG.d.e [] fG.F::dR.s
theorem fG.c:Ck fG.s ae.q:=cS dR.c fG.k
def gi.d:Fe:=⟨218,1,⟨[(0,.v false [.sl 47 bh])],[],[],0,[]⟩,⟨[(0,.v true [.int .i64,.int .i64,.str])],[],[],1000,[]⟩,.n⟩
noncomputable def gi.B:(List ax)×Unit→Option (Int×Int×ByteArray×Unit):=fun (p0,_)=>
 (dR.F (true,p0,())).bind fun y1=>
 some (y1.1,y1.2.1,y1.2.2.1,())
noncomputable def gi.F:=stk gi.B
theorem gi.eq:gi.F=gi.B:=aq _
theorem gi.k:Kk fG.s ae.q [] Tryz.f218 gi.d gi.B:={}
noncomputable def gi.s:SpL:=gi.d.e [] gi.F::fG.s
theorem gi.c:Ck gi.s ae.q:=cS fG.c gi.k
def fH.d:Fe:=⟨219,1,⟨[(0,.v true [.int .i64,.int .i64,.str])],[],[],0,[]⟩,⟨[(0,.v true [.int .i64,.int .i64,.str])],[],[],1000,[]⟩,.n⟩
noncomputable def fH.B:Int×Int×ByteArray×Unit→Option (Int×Int×ByteArray×Unit):=fun (p0_0,p0_1,p0_2,_)=>
 (cq.F (true,())).bind fun y1=>
 (bif (Ty.eq bh (p0_0,(p0_1,p0_2)) (y1.1,(y1.2.1,y1.2.2.1))) then
 (cq.F (false,())).bind fun y2=>
 some (y2.1,y2.2.1,y2.2.2.1,())
 else
 (cq.F (false,())).bind fun y3=>
 (bif (Ty.eq bh (p0_0,(p0_1,p0_2)) (y3.1,(y3.2.1,y3.2.2.1))) then
 (cq.F (true,())).bind fun y4=>
 some (y4.1,y4.2.1,y4.2.2.1,())
 else
 some ((0:Int),(0:Int),(⟨#[]⟩:ByteArray),())))
noncomputable def fH.F:=stk fH.B
theorem fH.eq:fH.F=fH.B:=aq _
theorem fH.k:Kk gi.s ae.q [] Tryz.f219 fH.d fH.B:={}
noncomputable def fH.s:SpL:=fH.d.e [] fH.F::gi.s
theorem fH.c:Ck fH.s ae.q:=cS gi.c fH.k
def dC.d:Fe:=⟨220,3,⟨[(0,.v false [.int .i64]),(1,.v true [.int .i64,.int .i64,.str]),(2,.v true [.int .i64,.int .i64,.str])],[],[],0,[]⟩,⟨[(0,.v true [.int .i64,.int .i64,.str])],[],[],1000,[]⟩,(.s none .n (.s (some ⟨[],[],[0,4,5,6],0,[]⟩) .n .n))⟩
noncomputable def dC.B:Int×Int×Int×ByteArray×Int×Int×ByteArray×Unit→Option (Int×Int×ByteArray×Unit):=fun (p0,p1_0,p1_1,p1_2,p2_0,p2_1,p2_2,_)=>
 jn (S:=Unit) (
 (bif (p1_0==(0:Int)) then
 ir ((0:Int),(0:Int),(⟨#[]⟩:ByteArray),())
 else
 (bif (p2_0==(0:Int)) then
 ir ((0:Int),(0:Int),(⟨#[]⟩:ByteArray),())
 else
 il (())))) fun (_)=>
 (dc.F (p1_0,p1_1,p1_2,p2_0,p2_1,p2_2,())).bind fun y2=>
 (bif (p0==(5:Int)) then
 (bif (y2.1==(0:Int)) then
 (cq.F (true,())).bind fun y3=>
 some (y3.1,y3.2.1,y3.2.2.1,())
 else
 (bif (p0==(6:Int)) then
 (cq.F ((decide (y2.1<(0:Int))),())).bind fun y4=>
 some (y4.1,y4.2.1,y4.2.2.1,())
 else
 (cq.F (false,())).bind fun y5=>
 some (y5.1,y5.2.1,y5.2.2.1,())))
 else
 (bif (p0==(6:Int)) then
 (cq.F ((decide (y2.1<(0:Int))),())).bind fun y6=>
 some (y6.1,y6.2.1,y6.2.2.1,())
 else
 (cq.F (false,())).bind fun y7=>
 some (y7.1,y7.2.1,y7.2.2.1,())))
noncomputable def dC.F:=stk dC.B
theorem dC.eq:dC.F=dC.B:=aq _
theorem dC.k:Kk fH.s ae.q [] Tryz.f220 dC.d dC.B:={}
noncomputable def dC.s:SpL:=dC.d.e [] dC.F::fH.s
theorem dC.c:Ck dC.s ae.q:=cS fH.c dC.k
def gH.d:Fe:=⟨196,3,⟨[(0,.v false [.int .i64]),(1,.v true [.int .i64,.int .i64,.str]),(2,.v true [.int .i64,.int .i64,.str])],[],[],0,[]⟩,⟨[(0,.tup [(true,[.int .i64,.int .i64,.str]),(false,[.bool])])],[],[],1000,[]⟩,.n⟩
noncomputable def gH.B:Int×Int×Int×ByteArray×Int×Int×ByteArray×Unit→Option (Int×Int×ByteArray×Bool×Unit):=fun (p0,p1_0,p1_1,p1_2,p2_0,p2_1,p2_2,_)=>
 (bif (p0==(2:Int)) then
 (eV.F (p1_0,p1_1,p1_2,p2_0,p2_1,p2_2,())).bind fun y1=>
 some (y1.1,y1.2.1,y1.2.2.1,y1.2.2.2.1,())
 else
 (bif (p0==(3:Int)) then
 (eW.F (p1_0,p1_1,p1_2,p2_0,p2_1,p2_2,())).bind fun y2=>
 some (y2.1,y2.2.1,y2.2.2.1,y2.2.2.2.1,())
 else
 (bif (p0==(4:Int)) then
 (eX.F (p1_0,p1_1,p1_2,p2_0,p2_1,p2_2,())).bind fun y3=>
 some (y3.1,y3.2.1,y3.2.2.1,y3.2.2.2.1,())
 else
 (bif (p0==(7:Int)) then
 (fG.F ([(p1_0,(p1_1,p1_2)),(p2_0,(p2_1,p2_2))],())).bind fun y4=>
 some (y4.1,y4.2.1,y4.2.2.1,true,())
 else
 (bif (p0==(8:Int)) then
 (gi.F ([(p1_0,(p1_1,p1_2)),(p2_0,(p2_1,p2_2))],())).bind fun y5=>
 some (y5.1,y5.2.1,y5.2.2.1,true,())
 else
 (bif (p0==(9:Int)) then
 (fH.F (p2_0,p2_1,p2_2,())).bind fun y6=>
 some (y6.1,y6.2.1,y6.2.2.1,true,())
 else
 (bif (p0==(10:Int)) then
 (cq.F ((p2_0==(0:Int)),())).bind fun y7=>
 some (y7.1,y7.2.1,y7.2.2.1,true,())
 else
 (dC.F (p0,p1_0,p1_1,p1_2,p2_0,p2_1,p2_2,())).bind fun y8=>
 some (y8.1,y8.2.1,y8.2.2.1,true,()))))))))
noncomputable def gH.F:=stk gH.B
theorem gH.eq:gH.F=gH.B:=aq _
theorem gH.k:Kk dC.s ae.q [] Tryz.f196 gH.d gH.B:={}
noncomputable def gH.s:SpL:=gH.d.e [] gH.F::dC.s
theorem gH.c:Ck gH.s ae.q:=cS dC.c gH.k
def bT.d:Fe:=⟨160,2,⟨[(0,.v false [.ptr 0 0]),(1,.v true [.int .i64,.int .i64,.int .i64,.int .i64,.str])],[(0,true,.box 212 [.ref 1,.bool,.sl 47 bh]),(1,true,.arr 47 bh)],[],2,[]⟩,⟨[(0,.v false [.int .i64])],[(0,true,.box 212 [.ref 1001,.bool,.sl 47 bh]),(1001,false,.arr 47 bh)],[],1002,[(0,0)]⟩,(.s none .n (.s none .n (.s none .n (.s (some ⟨[(0,.v false [.ptr 0 0]),(6,.v false [.ptr 2 0])],[(0,true,.box 212 [.ref 1,.bool,.sl 47 bh]),(1,false,.arr 47 bh),(2,true,.box 47 [.int .i64,.int .i64,.str])],[3,5,7],3,[]⟩) .n (.s (some ⟨[(0,.v false [.ptr 0 0]),(5,.v false [.ptr 2 0])],[(0,true,.box 212 [.ref 1,.bool,.sl 47 bh]),(1,false,.arr 47 bh),(2,true,.box 47 [.int .i64,.int .i64,.str])],[3,6,7],3,[]⟩) .n (.s none (.b (.s (some ⟨[(28,.v false [.bool])],[],[0,3,5,6,7],0,[]⟩) .n .n)) .n))))))⟩
noncomputable def bT.B:Int×Int×Int×Int×ByteArray×Bool×(List ax)×(List ax)×Unit→Option (Int×Bool×(List ax)×(List ax)×Unit):=fun (p1_0,p1_1,p1_2,p1_3,p1_4,o0_1,o0_2,o0_0,_)=>
 (dG.F (p1_0,())).bind fun y1=>
 jn (S:=Bool×(List ax)×(List ax)×Int×Int×ByteArray×Unit) (
 (bif (decide (y1.1>(0:Int))) then
 (bc.F (o0_1,o0_2,o0_0,())).bind fun y2=>
 il (y2.2.2.2.1,y2.2.2.2.2.1,y2.2.2.2.2.2.1,y2.1,y2.2.1,y2.2.2.1,())
 else
 il (o0_1,o0_2,o0_0,(0:Int),(0:Int),(⟨#[]⟩:ByteArray),()))) fun (o0_0_1_3,o0_0_2_3,o0_0_0_3,o6_0_0_3,o6_0_1_3,o6_0_2_3,_)=>
 jn (S:=Bool×(List ax)×(List ax)×Int×Int×ByteArray×Unit) (
 (bif (decide (y1.1>(1:Int))) then
 (bc.F (o0_0_1_3,o0_0_2_3,o0_0_0_3,())).bind fun y4=>
 il (y4.2.2.2.1,y4.2.2.2.2.1,y4.2.2.2.2.2.1,y4.1,y4.2.1,y4.2.2.1,())
 else
 il (o0_0_1_3,o0_0_2_3,o0_0_0_3,(0:Int),(0:Int),(⟨#[]⟩:ByteArray),()))) fun (o0_0_1_5,o0_0_2_5,o0_0_0_5,o5_0_0_5,o5_0_1_5,o5_0_2_5,_)=>
 jn (S:=Bool×Unit) (
 (bif (!o0_0_1_5) then
 il (true,())
 else
 il ((decide (y1.1<(0:Int))),()))) fun (x28_6,_)=>
 (bif x28_6 then
 some ((30:Int),o0_0_1_5,o0_0_2_5,o0_0_0_5,())
 else
 (bif (p1_0==(0:Int)) then
 (bif (decide (p1_1<(0:Int))) then
 some ((30:Int),o0_0_1_5,o0_0_2_5,o0_0_0_5,())
 else
 (bif (decide (p1_1≥(o0_0_2_5.length:Int))) then
 some ((30:Int),o0_0_1_5,o0_0_2_5,o0_0_0_5,())
 else
 ck (ib p1_1 o0_0_2_5.length)<|
 let e7:ax:=(gt o0_0_2_5 p1_1 bh.z)
 (aQ.F (e7.1,e7.2.1,e7.2.2,o0_0_1_5,o0_0_2_5,o0_0_0_5,())).bind fun y8=>
 some ((0:Int),y8.1,y8.2.1,y8.2.2.1,())))
 else
 (bif (p1_0==(1:Int)) then
 (dm.F (p1_2,p1_3,p1_4,())).bind fun y9=>
 (bif (!y9.1) then
 some ((30:Int),o0_0_1_5,o0_0_2_5,o0_0_0_5,())
 else
 (aQ.F (p1_2,p1_3,p1_4,o0_0_1_5,o0_0_2_5,o0_0_0_5,())).bind fun y10=>
 some ((0:Int),y10.1,y10.2.1,y10.2.2.1,()))
 else
 let e11:Int:=(wr ((2:Int)-y1.1))
 ck (sb e11 ([o5_0_0_5,o6_0_0_3].length:Int) [o5_0_0_5,o6_0_0_3].length)<|
 (cQ.F (p1_0,(List.take (Int.toNat ([o5_0_0_5,o6_0_0_3].length:Int)-Int.toNat e11:Nat) (List.drop (Int.toNat e11) [o5_0_0_5,o6_0_0_3])),())).bind fun y12=>
 (bif (!y12.2.1) then
 some ((30:Int),o0_0_1_5,o0_0_2_5,o0_0_0_5,())
 else
 (gH.F (p1_0,o5_0_0_5,o5_0_1_5,o5_0_2_5,o6_0_0_3,o6_0_1_3,o6_0_2_3,())).bind fun y13=>
 (bif (!y13.2.2.2.1) then
 some ((31:Int),o0_0_1_5,o0_0_2_5,o0_0_0_5,())
 else
 (aQ.F (y13.1,y13.2.1,y13.2.2.1,o0_0_1_5,o0_0_2_5,o0_0_0_5,())).bind fun y14=>
 some ((0:Int),y14.1,y14.2.1,y14.2.2.1,()))))))
noncomputable def bT.F:=stk bT.B
theorem bT.eq:bT.F=bT.B:=aq _
theorem bT.k:Kk gH.s ae.q [] Tryz.f160 bT.d bT.B:={}
noncomputable def bT.s:SpL:=bT.d.e [] bT.F::gH.s
theorem bT.c:Ck bT.s ae.q:=cS gH.c bT.k
def bo.d:Fe:=⟨161,1,⟨[(0,.v false [.ptr 0 0])],[(0,true,.box 212 [.ref 1,.bool,.sl 47 bh]),(1,true,.arr 47 bh)],[],2,[]⟩,⟨[(0,.tup [(true,[.int .i64,.int .i64,.str]),(false,[.bool])])],[(0,true,.box 212 [.ref 1001,.bool,.sl 47 bh]),(1001,false,.arr 47 bh)],[],1002,[(0,0)]⟩,.n⟩
noncomputable def bo.B:Bool×(List ax)×(List ax)×Unit→Option (Int×Int×ByteArray×Bool×Bool×(List ax)×(List ax)×Unit):=fun (o0_1,o0_2,o0_0,_)=>
 (bif (!o0_1) then
 some ((0:Int),(0:Int),(⟨#[]⟩:ByteArray),false,o0_1,o0_2,o0_0,())
 else
 (bif ((o0_0.length:Int) !=(1:Int)) then
 some ((0:Int),(0:Int),(⟨#[]⟩:ByteArray),false,o0_1,o0_2,o0_0,())
 else
 ck (ib (0:Int) o0_0.length)<|
 let e1:ax:=(List.getD o0_0 0 bh.z)
 some (e1.1,e1.2.1,e1.2.2,true,o0_1,o0_2,o0_0,())))
noncomputable def bo.F:=stk bo.B
theorem bo.eq:bo.F=bo.B:=aq _
theorem bo.k:Kk bT.s ae.q [] Tryz.f161 bo.d bo.B:={}
noncomputable def bo.s:SpL:=bo.d.e [] bo.F::bT.s
theorem bo.c:Ck bo.s ae.q:=cS bT.c bo.k
def fg.d:Fe:=⟨118,2,⟨[(0,.v false [.sl 126 bD]),(1,.v false [.sl 47 bh])],[],[],0,[]⟩,⟨[(0,.tup [(true,[.int .i64,.int .i64,.str]),(false,[.int .i64])])],[],[],1000,[]⟩,(.s none .n (.s none .n (.s none .n (.s none .n (.s (some ⟨[(6,.v false [.ptr 0 0])],[(0,true,.box 212 [.ref 1,.bool,.sl 47 bh]),(1,false,.arr 47 bh)],[4],2,[]⟩) (.s none .n (.b (.l ⟨[(6,.v false [.ptr 0 0]),(25,.v false [.int .i64])],[(0,true,.box 212 [.ref 1,.bool,.sl 47 bh]),(1,false,.arr 47 bh)],[4,23,24],2,[]⟩ .n))) .n)))))⟩
noncomputable def fg.B:(List ao)×(List ax)×Unit→Option (Int×Int×ByteArray×Int×Unit):=fun (p0,p1,_)=>
 (bif (decide ((p0.length:Int)>(100:Int))) then
 some ((0:Int),(0:Int),(⟨#[]⟩:ByteArray),(1:Int),())
 else
 jn (S:=Bool×(List ax)×(List ax)×Unit) (
 aK (S:=Int×Bool×(List ax)×(List ax)×Unit) (fun (x25,o6_0_1,o6_0_2,o6_0_0,_)=>
 (bif (decide (x25<(p0.length:Int))) then
 ck (ib x25 p0.length)<|
 let e1:ao:=(gt p0 x25 bD.z)
 (bT.F (e1.1,e1.2.1,e1.2.2.1,e1.2.2.2.1,e1.2.2.2.2,o6_0_1,o6_0_2,o6_0_0,())).bind fun y2=>
 (bif (y2.1 !=(0:Int)) then
 ir (.inr ((0:Int),(0:Int),(⟨#[]⟩:ByteArray),y2.1,()))
 else
 let e3:Int:=(wr (x25+(1:Int)))
 il (e3,y2.2.1,y2.2.2.1,y2.2.2.2.1,()))
 else
 ir (.inl (o6_0_1,o6_0_2,o6_0_0,())))) ((0:Int),true,p1,[],())) fun (o6_0_1_4,o6_0_2_4,o6_0_0_4,_)=>
 (bo.F (o6_0_1_4,o6_0_2_4,o6_0_0_4,())).bind fun y5=>
 (bif y5.2.2.2.1 then
 some (y5.1,y5.2.1,y5.2.2.1,(0:Int),())
 else
 some ((0:Int),(0:Int),(⟨#[]⟩:ByteArray),(30:Int),())))
noncomputable def fg.F:=stk fg.B
theorem fg.eq:fg.F=fg.B:=aq _
theorem fg.k:Kk bo.s ae.q [] Tryz.f118 fg.d fg.B:={}
noncomputable def fg.s:SpL:=fg.d.e [] fg.F::bo.s
theorem fg.c:Ck fg.s ae.q:=cS bo.c fg.k
def bN.d:Fe:=⟨81,1,⟨[(0,.v true [.str,.sl 75 aX,.sl 78 (.sl 126 bD),.sl 62 dq,.sl 44 dS])],[],[],0,[]⟩,⟨[(0,.tup [(false,[.int .i64]),(false,[.int .i64])])],[],[],1000,[]⟩,(.s none .n (.s none (.s none .n (.b (.l ⟨[(14,.v false [.int .i64])],[],[1,12,13],0,[]⟩ (.s none .n (.s none .n (.s (some ⟨[],[],[1,12,13,14],0,[]⟩) (.b (.s none .n (.s none .n (.b (.l ⟨[(22,.v false [.int .i64])],[],[1,4,5,12,13,14,20,21],0,[]⟩ .n))))) .n)))))) .n))⟩
noncomputable def bN.B:ByteArray×(List aC)×(List (List ao))×(List bj)×(List bC)×Unit→Option (Int×Int×Unit):=fun (p0_0,p0_1,p0_2,p0_3,p0_4,_)=>
 aK (S:=Int×Unit) (fun (x14,_)=>
 (bif (decide (x14<(p0_2.length:Int))) then
 jn (S:=Unit) (
 ck (ib x14 p0_2.length)<|
 let e1:(List ao):=(gt p0_2 x14 [])
 aK (S:=Int×Unit) (fun (x22',_)=>
 (bif (decide (x22'<(p0_3.length:Int))) then
 ck (ib x22' p0_3.length)<|
 let e2:bj:=(gt p0_3 x22' dq.z)
 (fg.F (e1,e2.1,())).bind fun y3=>
 (bif (y3.2.2.2.1 !=(0:Int)) then
 ir (.inr (.inr (x14,y3.2.2.2.1,())))
 else
 (cq.F (false,())).bind fun y4=>
 (bif (Ty.eq bh (y3.1,(y3.2.1,y3.2.2.1)) (y4.1,(y4.2.1,y4.2.2.1))) then
 ir (.inr (.inr (x14,(183:Int),())))
 else
 let e5:Int:=(wr (x22'+(1:Int)))
 il (e5,())))
 else
 ir (.inl (())))) ((0:Int),())) fun (_)=>
 let e7:Int:=(wr (x14+(1:Int)))
 il (e7,())
 else
 ir ((-1:Int),(0:Int),()))) ((0:Int),())
noncomputable def bN.F:=stk bN.B
theorem bN.eq:bN.F=bN.B:=aq _
theorem bN.k:Kk fg.s ae.q [] Tryz.f81 bN.d bN.B:={}
noncomputable def bN.s:SpL:=bN.d.e [] bN.F::fg.s
theorem bN.c:Ck bN.s ae.q:=cS fg.c bN.k
def dd.d:Fe:=⟨43,2,⟨[(0,.v true [.str,.sl 75 aX,.sl 78 (.sl 126 bD)]),(1,.v false [.sl 44 dS])],[],[],0,[]⟩,⟨[(0,.v true [.int .i64,.str,.int .i64])],[],[],1000,[]⟩,(.s none .n (.s none .n (.s (some ⟨[],[],[2,4,5],0,[]⟩) (.s none .n (.b (.c (.s none .n (.s none .n (.s none (.b (.s none .n (.s (some ⟨[(8,.v false [.int .i64])],[],[2,4,5,7,27,28,29],0,[]⟩) .n .n))) .n))) (.c (.s none .n (.s none .n (.s none (.b (.s none .n (.s (some ⟨[(8,.v false [.int .i64])],[],[2,4,5,7,27,28,29],0,[]⟩) .n .n))) .n))) (.c (.s none .n (.s none .n (.s none (.b (.s none .n (.s (some ⟨[(8,.v false [.int .i64])],[],[2,4,5,7,27,28,29],0,[]⟩) .n .n))) .n))) (.c .n .n)))))) .n)))⟩
noncomputable def dd.B:ByteArray×(List aC)×(List (List ao))×(List bC)×Unit→Option (Int×ByteArray×Int×Unit):=fun (p0_0,p0_1,p0_2,p1,_)=>
 (eP.F (p1,p0_0,())).bind fun y1=>
 jn (S:=Unit) (
 jn (S:=Int×Unit) (
 (bS.F (p0_0,p0_1,p0_2,y1.1,p1,())).bind fun y2=>
 il (y2.1,())) fun (x8_3,_)=>
 (bif (decide (x8_3≥(0:Int))) then
 ir ((180:Int),p0_0,x8_3,())
 else
 jn (S:=Int×Unit) (
 (bM.F (p0_0,p0_1,p0_2,y1.1,p1,())).bind fun y4=>
 il (y4.1,())) fun (x8_5,_)=>
 (bif (decide (x8_5≥(0:Int))) then
 ir ((181:Int),p0_0,x8_5,())
 else
 jn (S:=Int×Unit) (
 (cf.F (p0_0,p0_1,p0_2,y1.1,p1,())).bind fun y6=>
 il (y6.1,())) fun (x8_7,_)=>
 (bif (decide (x8_7≥(0:Int))) then
 ir ((182:Int),p0_0,x8_7,())
 else
 il (()))))) fun (_)=>
 (bN.F (p0_0,p0_1,p0_2,y1.1,p1,())).bind fun y9=>
 (bif (y9.2.1 !=(0:Int)) then
 some (y9.2.1,p0_0,y9.1,())
 else
 some ((0:Int),(⟨#[]⟩:ByteArray),(0:Int),()))
noncomputable def dd.F:=stk dd.B
theorem dd.eq:dd.F=dd.B:=aq _
theorem dd.k:Kk bN.s ae.q [] Tryz.f43 dd.d dd.B:={}
noncomputable def dd.s:SpL:=dd.d.e [] dd.F::bN.s
theorem dd.c:Ck dd.s ae.q:=cS bN.c dd.k
def cz.d:Fe:=⟨13,2,⟨[(0,.v false [.sl 84 gv]),(1,.v false [.sl 44 dS])],[],[],0,[]⟩,⟨[(0,.v true [.int .i64,.str,.int .i64])],[],[],1000,[]⟩,(.s none .n (.s none .n (.s (some ⟨[],[],[4],0,[]⟩) (.s none .n (.b (.l ⟨[(15,.v false [.int .i64])],[],[1,4,13,14],0,[]⟩ .n))) .n)))⟩
noncomputable def cz.B:(List bx)×(List bC)×Unit→Option (Int×ByteArray×Int×Unit):=fun (p0,p1,_)=>
 (cR.F (p0,p1,())).bind fun y1=>
 (bif (!y1.1) then
 some ((1:Int),(⟨#[]⟩:ByteArray),(0:Int),())
 else
 jn (S:=Unit) (
 aK (S:=Int×Unit) (fun (x15,_)=>
 (bif (decide (x15<(p0.length:Int))) then
 ck (ib x15 p0.length)<|
 let e2:bx:=(gt p0 x15 gv.z)
 (bif (e2.1 !=(0:Int)) then
 let e3:Int:=(wr (x15+(1:Int)))
 il (e3,())
 else
 (dd.F (e2.2.1.1,e2.2.1.2.1,e2.2.1.2.2,p1,())).bind fun y4=>
 (bif (y4.1 !=(0:Int)) then
 ir (.inr (y4.1,y4.2.1,y4.2.2.1,()))
 else
 let e5:Int:=(wr (x15+(1:Int)))
 il (e5,())))
 else
 ir (.inl (())))) ((0:Int),())) fun (_)=>
 some ((0:Int),(⟨#[]⟩:ByteArray),(0:Int),()))
noncomputable def cz.F:=stk cz.B
theorem cz.eq:cz.F=cz.B:=aq _
theorem cz.k:Kk dd.s ae.q [] Tryz.f13 cz.d cz.B:={}
noncomputable def cz.s:SpL:=cz.d.e [] cz.F::dd.s
theorem cz.c:Ck cz.s ae.q:=cS dd.c cz.k
def gI.d:Fe:=⟨41,0,⟨[],[],[],0,[]⟩,⟨[(0,.v false [.ref 1000])],[(1000,false,.arr 84 gv)],[],1001,[]⟩,.n⟩
noncomputable def gI.B:Unit→Option ((List bx)×Unit):=fun (_)=>
 (dU.F ((9:Int),())).bind fun y1=>
 some ([((0:Int),(((⟨#[116]⟩:ByteArray),([((⟨#[107]⟩:ByteArray),((2:Int),(false,(false,((⟨#[]⟩:ByteArray),(0:Int))))))],([]:List (List ao)))),((⟨#[]⟩:ByteArray),((⟨#[]⟩:ByteArray),((⟨#[]⟩:ByteArray),(((0:Int),(0:Int)),(([]:List ao),(([]:List Int),(false,([]:List cH)))))))))),((0:Int),(((⟨#[117]⟩:ByteArray),([((⟨#[107]⟩:ByteArray),((2:Int),(false,(false,((⟨#[]⟩:ByteArray),(0:Int)))))),((⟨#[97]⟩:ByteArray),((2:Int),(true,(true,((⟨#[116]⟩:ByteArray),(0:Int))))))],[[((0:Int),((0:Int),((0:Int),((0:Int),(⟨#[]⟩:ByteArray))))),((1:Int),((0:Int),(y1.1,(y1.2.1,y1.2.2.1)))),((6:Int),((0:Int),((0:Int),((0:Int),(⟨#[]⟩:ByteArray)))))]])),((⟨#[]⟩:ByteArray),((⟨#[]⟩:ByteArray),((⟨#[]⟩:ByteArray),(((0:Int),(0:Int)),(([]:List ao),(([]:List Int),(false,([]:List cH))))))))))],())
noncomputable def gI.F:=stk gI.B
theorem gI.k:Kk cz.s ae.q [] Tryz.f41 gI.d gI.B:={}
noncomputable def gI.s:SpL:=gI.d.e [] gI.F::cz.s
theorem gI.c:Ck gI.s ae.q:=cS cz.c gI.k
def iq.d:Fe:=⟨60,3,⟨[(0,.v false [.sl 62 dq]),(1,.v false [.sl 47 bh]),(2,.v false [.int .i64])],[],[],0,[]⟩,⟨[(0,.v false [.ref 1000])],[(1000,false,.arr 62 dq)],[],1001,[]⟩,(.s none .n (.s none .n (.s none .n (.s (some ⟨[(7,.v false [.ref 0]),(8,.v false [.bool])],[(0,false,.arr 62 dq)],[1,2],1,[]⟩) (.s none .n (.b (.l ⟨[(7,.v false [.ref 0]),(8,.v false [.bool]),(9,.v false [.int .i64])],[(0,false,.arr 62 dq)],[0,1,2],1,[]⟩ (.s none .n (.s none (.b (.s none .n (.s (some ⟨[(7,.v false [.ref 0]),(8,.v false [.bool])],[(0,false,.arr 62 dq)],[0,1,2,9,10],1,[]⟩) (.s (some ⟨[(31,.v false [.bool])],[],[0,1,2,7,8,9,10],0,[]⟩) .n .n) .n))) .n))))) .n))))⟩
noncomputable def iq.B:(List bj)×(List ax)×Int×Unit→Option ((List bj)×Unit):=fun (p0,p1,p2,_)=>
 jn (S:=Bool×(List bj)×Unit) (
 aK (S:=Bool×Int×(List bj)×Unit) (fun (x8,x9,o7_0,_)=>
 (bif (decide (x9<(p0.length:Int))) then
 ck (ib x9 p0.length)<|
 let e1:bj:=(gt p0 x9 dq.z)
 (dk.F (e1.1,p1,())).bind fun y2=>
 jn (S:=Bool×(List bj)×Unit) (
 jn (S:=Bool×Unit) (
 (bif (decide (y2.1≥(0:Int))) then
 il ((!x8),())
 else
 il (false,()))) fun (x31_3,_)=>
 (bif x31_3 then
 (bif (y2.1==(0:Int)) then
 ck (ib x9 p0.length)<|
 let e4:bj:=(gt p0 x9 dq.z)
 let e5:Int:=(wr (p2+e4.2))
 (bif (e5 !=(0:Int)) then
 ck (Nat.ble (o7_0.length+ [(p1,e5)].length) 4398046511104)<|
 il (true,(o7_0++ [(p1,e5)]),())
 else
 il (true,o7_0,()))
 else
 (bif (p2 !=(0:Int)) then
 ck (Nat.ble (o7_0.length+ [(p1,p2)].length) 4398046511104)<|
 il (true,(o7_0++ [(p1,p2)]),())
 else
 il (true,o7_0,())))
 else
 il (x8,o7_0,()))) fun (x8_6,o7_0_6,_)=>
 (bif (y2.1 !=(0:Int)) then
 ck (ib x9 p0.length)<|
 let e7:bj:=(gt p0 x9 dq.z)
 ck (Nat.ble (o7_0_6.length+ [e7].length) 4398046511104)<|
 let e8:Int:=(wr (x9+(1:Int)))
 il (x8_6,e8,(o7_0_6++ [e7]),())
 else
 let e9:Int:=(wr (x9+(1:Int)))
 il (x8_6,e9,o7_0_6,()))
 else
 ir (.inl (x8,o7_0,())))) (false,(0:Int),([]:List bj),())) fun (x8_10,o7_0_10,_)=>
 (bif (!x8_10) then
 (bif (p2 !=(0:Int)) then
 ck (Nat.ble (o7_0_10.length+ [(p1,p2)].length) 4398046511104)<|
 some ((o7_0_10++ [(p1,p2)]),())
 else
 some (o7_0_10,()))
 else
 some (o7_0_10,()))
noncomputable def iq.F:=stk iq.B
theorem iq.k:Kk gI.s ae.q [] Tryz.f60 iq.d iq.B:={}
noncomputable def iq.s:SpL:=iq.d.e [] iq.F::gI.s
theorem iq.c:Ck iq.s ae.q:=cS gI.c iq.k
def iU.d:Fe:=⟨36,1,⟨[(0,.v false [.sl 58 (.sl 47 bh)])],[],[],0,[]⟩,⟨[(0,.v false [.ref 1000])],[(1000,false,.arr 62 dq)],[],1001,[]⟩,(.s none .n (.s none .n (.s none (.s none .n (.b (.l ⟨[(3,.v false [.ref 0]),(4,.v false [.int .i64])],[(0,false,.arr 62 dq)],[0],1,[]⟩ .n))) .n)))⟩
noncomputable def iU.B:(List (List ax))×Unit→Option ((List bj)×Unit):=fun (p0,_)=>
 aK (S:=Int×(List bj)×Unit) (fun (x4,o3_0,_)=>
 (bif (decide (x4<(p0.length:Int))) then
 ck (ib x4 p0.length)<|
 let e1:(List ax):=(gt p0 x4 [])
 (gh.F (e1,())).bind fun y2=>
 (bif (!y2.1) then
 ir ([],())
 else
 ck (ib x4 p0.length)<|
 let e3:(List ax):=(gt p0 x4 [])
 (iq.F (o3_0,e3,(1:Int),())).bind fun y4=>
 let e5:Int:=(wr (x4+(1:Int)))
 il (e5,y4.1,()))
 else
 ir (o3_0,()))) ((0:Int),([]:List bj),())
noncomputable def iU.F:=stk iU.B
theorem iU.k:Kk iq.s ae.q [] Tryz.f36 iU.d iU.B:={}
noncomputable def iU.s:SpL:=iU.d.e [] iU.F::iq.s
theorem iU.c:Ck iU.s ae.q:=cS iq.c iU.k
def gj.d:Fe:=⟨42,1,⟨[(0,.v false [.sl 58 (.sl 47 bh)])],[],[],0,[]⟩,⟨[(0,.v false [.ref 1000])],[(1000,false,.arr 44 dS)],[],1001,[]⟩,.n⟩
noncomputable def gj.B:(List (List ax))×Unit→Option ((List bC)×Unit):=fun (p0,_)=>
 (dU.F ((1:Int),())).bind fun y1=>
 (iU.F ([[(y1.1,(y1.2.1,y1.2.2.1))]],())).bind fun y2=>
 (iU.F (p0,())).bind fun y3=>
 some ([((⟨#[116]⟩:ByteArray),y2.1),((⟨#[117]⟩:ByteArray),y3.1)],())
noncomputable def gj.F:=stk gj.B
theorem gj.k:Kk iU.s ae.q [] Tryz.f42 gj.d gj.B:={}
noncomputable def gj.s:SpL:=gj.d.e [] gj.F::iU.s
theorem gj.c:Ck gj.s ae.q:=cS iU.c gj.k
def dB.d:Fe:=⟨15,3,⟨[(0,.v false [.sl 84 gv]),(1,.v false [.sl 44 dS]),(2,.v false [.str])],[],[],0,[]⟩,⟨[(0,.v true [.int .i64,.str,.int .i64])],[],[],1000,[]⟩,(.s none .n (.s none .n (.s (some ⟨[],[],[0,1,6,7],0,[]⟩) .n .n)))⟩
noncomputable def dB.B:(List bx)×(List bC)×ByteArray×Unit→Option (Int×ByteArray×Int×Unit):=fun (p0,p1,p2,_)=>
 (cF.F (p0,p2,())).bind fun y1=>
 jn (S:=Unit) (
 (bif (decide (y1.1<(0:Int))) then
 ir ((1:Int),(⟨#[]⟩:ByteArray),(0:Int),())
 else
 (cR.F (p0,p1,())).bind fun y2=>
 (bif (!y2.1) then
 ir ((1:Int),(⟨#[]⟩:ByteArray),(0:Int),())
 else
 ck (ib y1.1 p0.length)<|
 let e3:bx:=(gt p0 y1.1 gv.z)
 (bif (e3.1 !=(0:Int)) then
 ir ((1:Int),(⟨#[]⟩:ByteArray),(0:Int),())
 else
 il (()))))) fun (_)=>
 ck (ib y1.1 p0.length)<|
 let e5:bx:=(gt p0 y1.1 gv.z)
 (dd.F (e5.2.1.1,e5.2.1.2.1,e5.2.1.2.2,p1,())).bind fun y6=>
 some (y6.1,y6.2.1,y6.2.2.1,())
noncomputable def dB.F:=stk dB.B
theorem dB.eq:dB.F=dB.B:=aq _
theorem dB.k:Kk gj.s ae.q [] Tryz.f15 dB.d dB.B:={}
noncomputable def dB.s:SpL:=dB.d.e [] dB.F::gj.s
theorem dB.c:Ck dB.s ae.q:=cS gj.c dB.k
def fw.d:Fe:=⟨12,0,⟨[],[],[],0,[]⟩,⟨[(0,.v false [.bool])],[],[],1000,[]⟩,.n⟩
noncomputable def fw.B:Unit→Option (Bool×Unit):=fun (_)=>
 (gI.F (())).bind fun y1=>
 (dU.F ((7:Int),())).bind fun y2=>
 (dU.F ((1:Int),())).bind fun y3=>
 (dU.F ((8:Int),())).bind fun y4=>
 (gj.F ([[(y2.1,(y2.2.1,y2.2.2.1)),(y3.1,(y3.2.1,y3.2.2.1))],[(y4.1,(y4.2.1,y4.2.2.1)),((0:Int),((0:Int),(⟨#[]⟩:ByteArray)))]],())).bind fun y5=>
 (cz.F (y1.1,y5.1,())).bind fun y6=>
 (gI.F (())).bind fun y7=>
 (dU.F ((7:Int),())).bind fun y8=>
 (dU.F ((2:Int),())).bind fun y9=>
 (gj.F ([[(y8.1,(y8.2.1,y8.2.2.1)),(y9.1,(y9.2.1,y9.2.2.1))]],())).bind fun y10=>
 (cz.F (y7.1,y10.1,())).bind fun y11=>
 (gI.F (())).bind fun y12=>
 (dU.F ((7:Int),())).bind fun y13=>
 (dU.F ((1:Int),())).bind fun y14=>
 (dU.F ((8:Int),())).bind fun y15=>
 (dU.F ((1:Int),())).bind fun y16=>
 (gj.F ([[(y13.1,(y13.2.1,y13.2.2.1)),(y14.1,(y14.2.1,y14.2.2.1))],[(y15.1,(y15.2.1,y15.2.2.1)),(y16.1,(y16.2.1,y16.2.2.1))]],())).bind fun y17=>
 (cz.F (y12.1,y17.1,())).bind fun y18=>
 (gI.F (())).bind fun y19=>
 (dU.F ((9:Int),())).bind fun y20=>
 (gj.F ([[(y20.1,(y20.2.1,y20.2.2.1)),((0:Int),((0:Int),(⟨#[]⟩:ByteArray)))]],())).bind fun y21=>
 (dB.F (y19.1,y21.1,(⟨#[117]⟩:ByteArray),())).bind fun y22=>
 (gI.F (())).bind fun y23=>
 (gj.F ([[((3:Int),((0:Int),(⟨#[97]⟩:ByteArray))),((0:Int),((0:Int),(⟨#[]⟩:ByteArray)))]],())).bind fun y24=>
 (cz.F (y23.1,y24.1,())).bind fun y25=>
 (bif (Ty.eq gT (y6.1,(y6.2.1,y6.2.2.1)) ((0:Int),((⟨#[]⟩:ByteArray),(0:Int)))) then
 (bif (Ty.eq gT (y11.1,(y11.2.1,y11.2.2.1)) ((182:Int),((⟨#[117]⟩:ByteArray),(1:Int)))) then
 (bif (Ty.eq gT (y18.1,(y18.2.1,y18.2.2.1)) ((181:Int),((⟨#[117]⟩:ByteArray),(1:Int)))) then
 (bif (Ty.eq gT (y22.1,(y22.2.1,y22.2.2.1)) ((183:Int),((⟨#[117]⟩:ByteArray),(0:Int)))) then
 (bif (Ty.eq gT (y25.1,(y25.2.1,y25.2.2.1)) ((180:Int),((⟨#[117]⟩:ByteArray),(0:Int)))) then
 (gI.F (())).bind fun y26=>
 (cz.F (y26.1,([]:List bC),())).bind fun y27=>
 (bif (y27.1==(1:Int)) then
 (gI.F (())).bind fun y28=>
 (gj.F (([]:List (List ax)),())).bind fun y29=>
 (dB.F (y28.1,y29.1,(⟨#[120]⟩:ByteArray),())).bind fun y30=>
 some ((y30.1==(1:Int)),())
 else
 some (false,()))
 else
 some (false,()))
 else
 some (false,()))
 else
 some (false,()))
 else
 some (false,()))
 else
 some (false,()))
noncomputable def fw.F:=stk fw.B
theorem fw.k:Kk dB.s ae.q [] Tryz.f12 fw.d fw.B:={}
noncomputable def fw.s:SpL:=fw.d.e [] fw.F::dB.s
theorem fw.c:Ck fw.s ae.q:=cS dB.c fw.k
def gL.d:Fe:=⟨29,2,⟨[(0,.v false [.sl 44 dS]),(1,.v false [.str])],[],[],0,[]⟩,⟨[(0,.v false [.sl 62 dq])],[],[],1000,[]⟩,(.s none .n (.s none (.s none .n (.b (.l ⟨[(5,.v false [.int .i64])],[],[0,1],0,[]⟩ .n))) .n))⟩
noncomputable def gL.B:(List bC)×ByteArray×Unit→Option ((List bj)×Unit):=fun (p0,p1,_)=>
 aK (S:=Int×Unit) (fun (x5,_)=>
 (bif (decide (x5<(p0.length:Int))) then
 ck (ib x5 p0.length)<|
 let e1:bC:=(gt p0 x5 dS.z)
 (bif (sq e1.1 p1) then
 ck (ib x5 p0.length)<|
 let e2:bC:=(gt p0 x5 dS.z)
 ir (e2.2,())
 else
 let e3:Int:=(wr (x5+(1:Int)))
 il (e3,()))
 else
 ir (([]:List bj),()))) ((0:Int),())
noncomputable def gL.F:=stk gL.B
theorem gL.k:Kk fw.s ae.q [] Tryz.f29 gL.d gL.B:={}
noncomputable def gL.s:SpL:=gL.d.e [] gL.F::fw.s
theorem gL.c:Ck gL.s ae.q:=cS fw.c gL.k
def iu.d:Fe:=⟨30,2,⟨[(0,.v false [.sl 62 dq]),(1,.v true [.int .i64,.int .i64,.str])],[],[],0,[]⟩,⟨[(0,.tup [(false,[.sl 47 bh]),(false,[.bool])])],[],[],1000,[]⟩,(.s none .n (.s none (.s none .n (.b (.l ⟨[(6,.v false [.int .i64])],[],[0,3],0,[]⟩ .n))) .n))⟩
noncomputable def iu.B:(List bj)×Int×Int×ByteArray×Unit→Option ((List ax)×Bool×Unit):=fun (p0,p1_0,p1_1,p1_2,_)=>
 aK (S:=Int×Unit) (fun (x6,_)=>
 (bif (decide (x6<(p0.length:Int))) then
 ck (ib x6 p0.length)<|
 let e1:bj:=(gt p0 x6 dq.z)
 ck (ib (0:Int) e1.1.length)<|
 let e2:ax:=(List.getD e1.1 0 bh.z)
 (bif (Ty.eq bh e2 (p1_0,(p1_1,p1_2))) then
 ck (ib x6 p0.length)<|
 let e3:bj:=(gt p0 x6 dq.z)
 ir (e3.1,true,())
 else
 let e4:Int:=(wr (x6+(1:Int)))
 il (e4,()))
 else
 ir (([]:List ax),false,()))) ((0:Int),())
noncomputable def iu.F:=stk iu.B
theorem iu.k:Kk gL.s ae.q [] Tryz.f30 iu.d iu.B:={}
noncomputable def iu.s:SpL:=iu.d.e [] iu.F::gL.s
theorem iu.c:Ck iu.s ae.q:=cS gL.c iu.k
def iv.d:Fe:=⟨165,1,⟨[(0,.v false [.sl 47 bh])],[],[],0,[]⟩,⟨[(0,.v true [.int .i64,.int .i64,.str])],[],[],1000,[]⟩,(.s none .n (.s none .n (.s (some ⟨[(3,.v false [.bool])],[],[2],0,[]⟩) (.s none .n (.b (.l ⟨[(3,.v false [.bool]),(4,.v false [.int .i64])],[],[0,2],0,[]⟩ .n))) .n)))⟩
noncomputable def iv.B:(List ax)×Unit→Option (Int×Int×ByteArray×Unit):=fun (p0,_)=>
 jn (S:=Bool×Unit) (
 aK (S:=Bool×Int×Unit) (fun (x3,x4,_)=>
 (bif (decide (x4<(p0.length:Int))) then
 ck (ib x4 p0.length)<|
 let e1:ax:=(gt p0 x4 bh.z)
 (cM.F (false,())).bind fun y2=>
 (bif (Ty.eq bh e1 (y2.1,(y2.2.1,y2.2.2.1))) then
 (cM.F (false,())).bind fun y3=>
 ir (.inr (y3.1,y3.2.1,y3.2.2.1,()))
 else
 (bif x3 then
 ck (ib x4 p0.length)<|
 let e4:ax:=(gt p0 x4 bh.z)
 (cM.F (true,())).bind fun y5=>
 let e6:Int:=(wr (x4+(1:Int)))
 il ((Ty.eq bh e4 (y5.1,(y5.2.1,y5.2.2.1))),e6,())
 else
 let e7:Int:=(wr (x4+(1:Int)))
 il (false,e7,())))
 else
 ir (.inl (x3,())))) (true,(0:Int),())) fun (x3_8,_)=>
 (bif x3_8 then
 (cM.F (true,())).bind fun y9=>
 some (y9.1,y9.2.1,y9.2.2.1,())
 else
 some ((0:Int),(0:Int),(⟨#[]⟩:ByteArray),()))
noncomputable def iv.F:=stk iv.B
theorem iv.k:Kk iu.s ae.q [] Tryz.f165 iv.d iv.B:={}
noncomputable def iv.s:SpL:=iv.d.e [] iv.F::iu.s
theorem iv.c:Ck iv.s ae.q:=cS iu.c iv.k
def jd.d:Fe:=⟨166,1,⟨[(0,.v false [.sl 47 bh])],[],[],0,[]⟩,⟨[(0,.v true [.int .i64,.int .i64,.str])],[],[],1000,[]⟩,(.s none .n (.s none .n (.s (some ⟨[(3,.v false [.bool])],[],[2],0,[]⟩) (.s none .n (.b (.l ⟨[(3,.v false [.bool]),(4,.v false [.int .i64])],[],[0,2],0,[]⟩ .n))) .n)))⟩
noncomputable def jd.B:(List ax)×Unit→Option (Int×Int×ByteArray×Unit):=fun (p0,_)=>
 jn (S:=Bool×Unit) (
 aK (S:=Bool×Int×Unit) (fun (x3,x4,_)=>
 (bif (decide (x4<(p0.length:Int))) then
 ck (ib x4 p0.length)<|
 let e1:ax:=(gt p0 x4 bh.z)
 (cM.F (true,())).bind fun y2=>
 (bif (Ty.eq bh e1 (y2.1,(y2.2.1,y2.2.2.1))) then
 (cM.F (true,())).bind fun y3=>
 ir (.inr (y3.1,y3.2.1,y3.2.2.1,()))
 else
 (bif x3 then
 ck (ib x4 p0.length)<|
 let e4:ax:=(gt p0 x4 bh.z)
 (cM.F (false,())).bind fun y5=>
 let e6:Int:=(wr (x4+(1:Int)))
 il ((Ty.eq bh e4 (y5.1,(y5.2.1,y5.2.2.1))),e6,())
 else
 let e7:Int:=(wr (x4+(1:Int)))
 il (false,e7,())))
 else
 ir (.inl (x3,())))) (true,(0:Int),())) fun (x3_8,_)=>
 (bif x3_8 then
 (cM.F (false,())).bind fun y9=>
 some (y9.1,y9.2.1,y9.2.2.1,())
 else
 some ((0:Int),(0:Int),(⟨#[]⟩:ByteArray),()))
noncomputable def jd.F:=stk jd.B
theorem jd.k:Kk iv.s ae.q [] Tryz.f166 jd.d jd.B:={}
noncomputable def jd.s:SpL:=jd.d.e [] jd.F::iv.s
theorem jd.c:Ck jd.s ae.q:=cS iv.c jd.k
def iw.d:Fe:=⟨167,1,⟨[(0,.v true [.int .i64,.int .i64,.str])],[],[],0,[]⟩,⟨[(0,.v true [.int .i64,.int .i64,.str])],[],[],1000,[]⟩,.n⟩
noncomputable def iw.B:Int×Int×ByteArray×Unit→Option (Int×Int×ByteArray×Unit):=fun (p0_0,p0_1,p0_2,_)=>
 (cM.F (true,())).bind fun y1=>
 (bif (Ty.eq bh (p0_0,(p0_1,p0_2)) (y1.1,(y1.2.1,y1.2.2.1))) then
 (cM.F (false,())).bind fun y2=>
 some (y2.1,y2.2.1,y2.2.2.1,())
 else
 (cM.F (false,())).bind fun y3=>
 (bif (Ty.eq bh (p0_0,(p0_1,p0_2)) (y3.1,(y3.2.1,y3.2.2.1))) then
 (cM.F (true,())).bind fun y4=>
 some (y4.1,y4.2.1,y4.2.2.1,())
 else
 some ((0:Int),(0:Int),(⟨#[]⟩:ByteArray),())))
noncomputable def iw.F:=stk iw.B
theorem iw.k:Kk jd.s ae.q [] Tryz.f167 iw.d iw.B:={}
noncomputable def iw.s:SpL:=iw.d.e [] iw.F::jd.s
theorem iw.c:Ck iw.s ae.q:=cS jd.c iw.k
def je.d:Fe:=⟨123,3,⟨[(0,.v false [.int .i64]),(1,.v true [.int .i64,.int .i64,.str]),(2,.v true [.int .i64,.int .i64,.str])],[],[],0,[]⟩,⟨[(0,.tup [(true,[.int .i64,.int .i64,.str]),(false,[.bool])])],[],[],1000,[]⟩,.n⟩
noncomputable def je.B:Int×Int×Int×ByteArray×Int×Int×ByteArray×Unit→Option (Int×Int×ByteArray×Bool×Unit):=fun (p0,p1_0,p1_1,p1_2,p2_0,p2_1,p2_2,_)=>
 (bif (p0==(2:Int)) then
 (fU.F (p1_0,p1_1,p1_2,p2_0,p2_1,p2_2,())).bind fun y1=>
 some (y1.1,y1.2.1,y1.2.2.1,y1.2.2.2.1,())
 else
 (bif (p0==(3:Int)) then
 (fV.F (p1_0,p1_1,p1_2,p2_0,p2_1,p2_2,())).bind fun y2=>
 some (y2.1,y2.2.1,y2.2.2.1,y2.2.2.2.1,())
 else
 (bif (p0==(4:Int)) then
 (fT.F (p1_0,p1_1,p1_2,p2_0,p2_1,p2_2,())).bind fun y3=>
 some (y3.1,y3.2.1,y3.2.2.1,y3.2.2.2.1,())
 else
 (bif (p0==(7:Int)) then
 (iv.F ([(p1_0,(p1_1,p1_2)),(p2_0,(p2_1,p2_2))],())).bind fun y4=>
 some (y4.1,y4.2.1,y4.2.2.1,true,())
 else
 (bif (p0==(8:Int)) then
 (jd.F ([(p1_0,(p1_1,p1_2)),(p2_0,(p2_1,p2_2))],())).bind fun y5=>
 some (y5.1,y5.2.1,y5.2.2.1,true,())
 else
 (bif (p0==(9:Int)) then
 (iw.F (p2_0,p2_1,p2_2,())).bind fun y6=>
 some (y6.1,y6.2.1,y6.2.2.1,true,())
 else
 (bif (p0==(10:Int)) then
 (cM.F ((p2_0==(0:Int)),())).bind fun y7=>
 some (y7.1,y7.2.1,y7.2.2.1,true,())
 else
 (eM.F (p1_0,p1_1,p1_2,p2_0,p2_1,p2_2,())).bind fun y8=>
 (bif y8.1 then
 some ((0:Int),(0:Int),(⟨#[]⟩:ByteArray),true,())
 else
 (bif (p0==(5:Int)) then
 (dj.F (p1_0,p1_1,p1_2,p2_0,p2_1,p2_2,())).bind fun y9=>
 (cM.F ((y9.1==(0:Int)),())).bind fun y10=>
 some (y10.1,y10.2.1,y10.2.2.1,true,())
 else
 (dj.F (p1_0,p1_1,p1_2,p2_0,p2_1,p2_2,())).bind fun y11=>
 (cM.F ((decide (y11.1<(0:Int))),())).bind fun y12=>
 some (y12.1,y12.2.1,y12.2.2.1,true,()))))))))))
noncomputable def je.F:=stk je.B
theorem je.k:Kk iw.s ae.q [] Tryz.f123 je.d je.B:={}
noncomputable def je.s:SpL:=je.d.e [] je.F::iw.s
theorem je.c:Ck je.s ae.q:=cS iw.c je.k
def gU.d:Fe:=⟨82,2,⟨[(0,.v false [.sl 126 bD]),(1,.v false [.sl 47 bh])],[],[],0,[]⟩,⟨[(0,.tup [(true,[.int .i64,.int .i64,.str]),(false,[.int .i64])])],[],[],1000,[]⟩,(.s none .n (.s none .n (.s none .n (.s none .n (.s (some ⟨[(7,.v false [.ref 0])],[(0,false,.arr 47 bh)],[4,6],1,[]⟩) (.s none .n (.b (.l ⟨[(7,.v false [.ref 0]),(8,.v false [.int .i64])],[(0,false,.arr 47 bh)],[0,1,4,6],1,[]⟩ (.s none .n (.s none (.b (.s none .n (.s none .n (.s (some ⟨[],[],[0,1,4,6,7,8,9,10],0,[]⟩) .n (.s none .n (.s none .n (.s none .n (.s (some ⟨[(11,.v false [.ptr 0 0])],[(0,true,.box 47 [.int .i64,.int .i64,.str])],[0,1,4,6,7,8,9,10,12],1,[]⟩) .n .n)))))))) .n))))) .n)))))⟩
noncomputable def gU.B:(List ao)×(List ax)×Unit→Option (Int×Int×ByteArray×Int×Unit):=fun (p0,p1,_)=>
 (bif (decide ((p0.length:Int)>(100:Int))) then
 some ((0:Int),(0:Int),(⟨#[]⟩:ByteArray),(1:Int),())
 else
 jn (S:=(List ax)×Unit) (
 aK (S:=Int×(List ax)×Unit) (fun (x8,o7_0,_)=>
 (bif (decide (x8<(p0.length:Int))) then
 ck (ib x8 p0.length)<|
 let e1:ao:=(gt p0 x8 bD.z)
 (eH.F (e1.1,())).bind fun y2=>
 jn (S:=Unit) (
 (bif (decide (y2.1<(0:Int))) then
 ir (.inr (.inr ((0:Int),(0:Int),(⟨#[]⟩:ByteArray),(30:Int),())))
 else
 (bif (decide ((o7_0.length:Int)<y2.1)) then
 ir (.inr (.inr ((0:Int),(0:Int),(⟨#[]⟩:ByteArray),(30:Int),())))
 else
 il (())))) fun (_)=>
 (bif (e1.1==(0:Int)) then
 (bif (decide (e1.2.1<(0:Int))) then
 ir (.inr ((0:Int),(0:Int),(⟨#[]⟩:ByteArray),(30:Int),()))
 else
 (bif (decide (e1.2.1≥(p1.length:Int))) then
 ir (.inr ((0:Int),(0:Int),(⟨#[]⟩:ByteArray),(30:Int),()))
 else
 ck (ib e1.2.1 p1.length)<|
 let e4:ax:=(gt p1 e1.2.1 bh.z)
 ck (Nat.ble (o7_0.length+ [e4].length) 4398046511104)<|
 let e5:Int:=(wr (x8+(1:Int)))
 il (e5,(o7_0++ [e4]),())))
 else
 (bif (e1.1==(1:Int)) then
 (dT.F (e1.2.2.1,e1.2.2.2.1,e1.2.2.2.2,())).bind fun y6=>
 (bif (!y6.1) then
 ir (.inr ((0:Int),(0:Int),(⟨#[]⟩:ByteArray),(30:Int),()))
 else
 ck (Nat.ble (o7_0.length+ [e1.2.2].length) 4398046511104)<|
 let e7:Int:=(wr (x8+(1:Int)))
 il (e7,(o7_0++ [e1.2.2]),()))
 else
 let e8:Int:=(wr ((o7_0.length:Int)-(1:Int)))
 ck (ib e8 o7_0.length)<|
 let e9:ax:=(List.getD o7_0 (Int.toNat e8) bh.z)
 jn (S:=Int×Int×ByteArray×Unit) (
 (bif (decide (y2.1>(1:Int))) then
 let e10:Int:=(wr ((o7_0.length:Int)-(2:Int)))
 ck (ib e10 o7_0.length)<|
 let e11:ax:=(List.getD o7_0 (Int.toNat e10) bh.z)
 il (e11.1,e11.2.1,e11.2.2,())
 else
 il ((0:Int),(0:Int),(⟨#[]⟩:ByteArray),()))) fun (o11_0_0_12,o11_0_1_12,o11_0_2_12,_)=>
 (da.F (e1.1,o11_0_0_12,e9.1,())).bind fun y13=>
 (bif (!y13.2.1) then
 ir (.inr ((0:Int),(0:Int),(⟨#[]⟩:ByteArray),(30:Int),()))
 else
 (je.F (e1.1,o11_0_0_12,o11_0_1_12,o11_0_2_12,e9.1,e9.2.1,e9.2.2,())).bind fun y14=>
 (bif (!y14.2.2.2.1) then
 ir (.inr ((0:Int),(0:Int),(⟨#[]⟩:ByteArray),(31:Int),()))
 else
 let e15:Int:=(wr ((o7_0.length:Int)-y2.1))
 ck (sb (0:Int) e15 o7_0.length)<|
 ck (Nat.ble (([]:List ax).length+(List.take (Int.toNat e15) o7_0).length) 4398046511104)<|
 ck (Nat.ble ((([]:List ax)++(List.take (Int.toNat e15) o7_0)).length+ [(y14.1,(y14.2.1,y14.2.2.1))].length) 4398046511104)<|
 let e16:Int:=(wr (x8+(1:Int)))
 il (e16,((([]:List ax)++(List.take (Int.toNat e15) o7_0))++ [(y14.1,(y14.2.1,y14.2.2.1))]),())))))
 else
 ir (.inl (o7_0,())))) ((0:Int),([]:List ax),())) fun (o7_0_17,_)=>
 (bif ((o7_0_17.length:Int) !=(1:Int)) then
 some ((0:Int),(0:Int),(⟨#[]⟩:ByteArray),(30:Int),())
 else
 ck (ib (0:Int) o7_0_17.length)<|
 let e18:ax:=(List.getD o7_0_17 0 bh.z)
 some (e18.1,e18.2.1,e18.2.2,(0:Int),())))
noncomputable def gU.F:=stk gU.B
theorem gU.k:Kk je.s ae.q [] Tryz.f82 gU.d gU.B:={}
noncomputable def gU.s:SpL:=gU.d.e [] gU.F::je.s
theorem gU.c:Ck gU.s ae.q:=cS je.c gU.k
def ik.d:Fe:=⟨44,2,⟨[(0,.v true [.str,.sl 75 aX,.sl 78 (.sl 126 bD)]),(1,.v false [.sl 44 dS])],[],[],0,[]⟩,⟨[(0,.v true [.int .i64,.str,.int .i64])],[],[],1000,[]⟩,(.s none .n (.s none .n (.s (some ⟨[],[],[1,2,4,5],0,[]⟩) (.s none .n (.b (.l ⟨[(6,.v false [.int .i64])],[],[1,2,4,5],0,[]⟩ (.s none .n (.s (some ⟨[],[],[1,2,4,5,6],0,[]⟩) (.b (.s none .n (.b (.l ⟨[(7,.v false [.int .i64])],[],[1,2,4,5,6],0,[]⟩ (.s none .n (.s none (.b (.s none .n (.s (some ⟨[(68,.v false [.bool])],[],[1,2,4,5,6,7],0,[]⟩) .n .n))) .n)))))) .n))))) (.s (some ⟨[],[],[1,2,4,5],0,[]⟩) (.s none .n (.b (.l ⟨[(9,.v false [.int .i64])],[],[1,2,4,5],0,[]⟩ (.s none .n (.s (some ⟨[],[],[1,2,4,5,9],0,[]⟩) (.b (.s none .n (.b (.l ⟨[(10,.v false [.int .i64])],[],[1,2,4,5,9],0,[]⟩ (.s (some ⟨[],[],[1,2,4,5,9,10],0,[]⟩) .n (.s (some ⟨[],[],[1,2,4,5,9,10],0,[]⟩) (.b (.s none .n (.b (.l ⟨[(11,.v false [.int .i64])],[],[1,2,4,5,9,10],0,[]⟩ .n)))) .n)))))) .n))))) (.s (some ⟨[],[],[2,4,5],0,[]⟩) (.s none .n (.b (.l ⟨[(12,.v false [.int .i64])],[],[1,2,4,5],0,[]⟩ (.s none .n (.s (some ⟨[],[],[1,2,4,5,12],0,[]⟩) (.b (.s none .n (.b (.l ⟨[(13,.v false [.int .i64])],[],[1,2,4,5,12],0,[]⟩ (.s (some ⟨[],[],[1,2,4,5,12,13],0,[]⟩) .n .n))))) .n))))) (.s (some ⟨[],[],[4],0,[]⟩) (.s none .n (.b (.l ⟨[(17,.v false [.int .i64])],[],[2,4,5],0,[]⟩ (.s none .n (.s (some ⟨[],[],[2,4,5,17],0,[]⟩) (.b (.s none .n (.b (.l ⟨[(18,.v false [.int .i64])],[],[2,4,5,17],0,[]⟩ .n)))) .n))))) .n))))))⟩
noncomputable def ik.B:ByteArray×(List aC)×(List (List ao))×(List bC)×Unit→Option (Int×ByteArray×Int×Unit):=fun (p0_0,p0_1,p0_2,p1,_)=>
 (gL.F (p1,p0_0,())).bind fun y1=>
 jn (S:=Unit) (
 aK (S:=Int×Unit) (fun (x6,_)=>
 (bif (decide (x6<(y1.1.length:Int))) then
 jn (S:=Unit) (
 aK (S:=Int×Unit) (fun (x7',_)=>
 (bif (decide (x7'<(p0_1.length:Int))) then
 ck (ib x6 y1.1.length)<|
 let e2:bj:=(gt y1.1 x6 dq.z)
 ck (ib x7' e2.1.length)<|
 let e3:ax:=(gt e2.1 x7' bh.z)
 jn (S:=Bool×Unit) (
 ck (ib x7' p0_1.length)<|
 let e4:aC:=(gt p0_1 x7' aX.z)
 (bif (e3.1 !=e4.2.1) then
 (bif (e3.1 !=(0:Int)) then
 il (true,())
 else
 ck (ib x7' p0_1.length)<|
 let e5:aC:=(gt p0_1 x7' aX.z)
 il ((!e5.2.2.1),()))
 else
 il (false,()))) fun (x68_6,_)=>
 (bif x68_6 then
 ir (.inr (.inr (.inr ((180:Int),p0_0,x7',()))))
 else
 let e7:Int:=(wr (x7'+(1:Int)))
 il (e7,()))
 else
 ir (.inl (())))) ((0:Int),())) fun (_)=>
 let e9:Int:=(wr (x6+(1:Int)))
 il (e9,())
 else
 ir (.inl (())))) ((0:Int),())) fun (_)=>
 jn (S:=Unit) (
 aK (S:=Int×Unit) (fun (x9,_)=>
 (bif (decide (x9<(p0_1.length:Int))) then
 jn (S:=Unit) (
 aK (S:=Int×Unit) (fun (x10',_)=>
 jn (S:=Unit) (
 (bif (decide (x10'<(y1.1.length:Int))) then
 ck (ib x9 p0_1.length)<|
 let e11:aC:=(gt p0_1 x9 aX.z)
 (bif e11.2.2.2.1 then
 il (())
 else
 ir (.inr (.inl (()))))
 else
 ir (.inr (.inl (()))))) fun (_)=>
 jn (S:=Unit) (
 aK (S:=Int×Unit) (fun (x11'',_)=>
 (bif (decide (x11''<x10')) then
 ck (ib x10' y1.1.length)<|
 let e13:bj:=(gt y1.1 x10' dq.z)
 ck (ib x9 e13.1.length)<|
 let e14:ax:=(gt e13.1 x9 bh.z)
 (bif (e14.1 !=(0:Int)) then
 ck (ib x10' y1.1.length)<|
 let e15:bj:=(gt y1.1 x10' dq.z)
 ck (ib x9 e15.1.length)<|
 let e16:ax:=(gt e15.1 x9 bh.z)
 ck (ib x11'' y1.1.length)<|
 let e17:bj:=(gt y1.1 x11'' dq.z)
 ck (ib x9 e17.1.length)<|
 let e18:ax:=(gt e17.1 x9 bh.z)
 (bif (Ty.eq bh e16 e18) then
 ir (.inr (.inr (.inr (.inr (.inr ((181:Int),p0_0,x9,()))))))
 else
 let e19:Int:=(wr (x11''+(1:Int)))
 il (e19,()))
 else
 let e20:Int:=(wr (x11''+(1:Int)))
 il (e20,()))
 else
 ir (.inl (())))) ((0:Int),())) fun (_)=>
 let e22:Int:=(wr (x10'+(1:Int)))
 il (e22,())) ((0:Int),())) fun (_)=>
 let e24:Int:=(wr (x9+(1:Int)))
 il (e24,())
 else
 ir (.inl (())))) ((0:Int),())) fun (_)=>
 jn (S:=Unit) (
 aK (S:=Int×Unit) (fun (x12,_)=>
 (bif (decide (x12<(p0_1.length:Int))) then
 jn (S:=Unit) (
 aK (S:=Int×Unit) (fun (x13',_)=>
 jn (S:=Unit) (
 (bif (decide (x13'<(y1.1.length:Int))) then
 ck (ib x12 p0_1.length)<|
 let e26:aC:=(gt p0_1 x12 aX.z)
 (bif (!sq e26.2.2.2.2.1 (⟨#[]⟩:ByteArray)) then
 il (())
 else
 ir (.inr (.inl (()))))
 else
 ir (.inr (.inl (()))))) fun (_)=>
 ck (ib x13' y1.1.length)<|
 let e28:bj:=(gt y1.1 x13' dq.z)
 ck (ib x12 e28.1.length)<|
 let e29:ax:=(gt e28.1 x12 bh.z)
 ck (ib x12 p0_1.length)<|
 let e30:aC:=(gt p0_1 x12 aX.z)
 (gL.F (p1,e30.2.2.2.2.1,())).bind fun y31=>
 (iu.F (y31.1,e29.1,e29.2.1,e29.2.2,())).bind fun y32=>
 (bif (e29.1 !=(0:Int)) then
 (bif (!y32.2.1) then
 ir (.inr (.inr (.inr ((182:Int),p0_0,x12,()))))
 else
 let e33:Int:=(wr (x13'+(1:Int)))
 il (e33,()))
 else
 let e34:Int:=(wr (x13'+(1:Int)))
 il (e34,()))) ((0:Int),())) fun (_)=>
 let e36:Int:=(wr (x12+(1:Int)))
 il (e36,())
 else
 ir (.inl (())))) ((0:Int),())) fun (_)=>
 jn (S:=Unit) (
 aK (S:=Int×Unit) (fun (x17,_)=>
 (bif (decide (x17<(p0_2.length:Int))) then
 jn (S:=Unit) (
 aK (S:=Int×Unit) (fun (x18',_)=>
 (bif (decide (x18'<(y1.1.length:Int))) then
 ck (ib x17 p0_2.length)<|
 let e38:(List ao):=(gt p0_2 x17 [])
 ck (ib x18' y1.1.length)<|
 let e39:bj:=(gt y1.1 x18' dq.z)
 (gU.F (e38,e39.1,())).bind fun y40=>
 (bif (y40.2.2.2.1 !=(0:Int)) then
 ir (.inr (.inr (.inr (y40.2.2.2.1,p0_0,x17,()))))
 else
 (cM.F (false,())).bind fun y41=>
 (bif (Ty.eq bh (y40.1,(y40.2.1,y40.2.2.1)) (y41.1,(y41.2.1,y41.2.2.1))) then
 ir (.inr (.inr (.inr ((183:Int),p0_0,x17,()))))
 else
 let e42:Int:=(wr (x18'+(1:Int)))
 il (e42,())))
 else
 ir (.inl (())))) ((0:Int),())) fun (_)=>
 let e44:Int:=(wr (x17+(1:Int)))
 il (e44,())
 else
 ir (.inl (())))) ((0:Int),())) fun (_)=>
 some ((0:Int),(⟨#[]⟩:ByteArray),(0:Int),())
noncomputable def ik.F:=stk ik.B
theorem ik.k:Kk gU.s ae.q [] Tryz.f44 ik.d ik.B:={}
noncomputable def ik.s:SpL:=ik.d.e [] ik.F::gU.s
theorem ik.c:Ck ik.s ae.q:=cS gU.c ik.k
def gD.d:Fe:=⟨14,2,⟨[(0,.v false [.sl 84 gv]),(1,.v false [.sl 44 dS])],[],[],0,[]⟩,⟨[(0,.v true [.int .i64,.str,.int .i64])],[],[],1000,[]⟩,(.s none .n (.s none .n (.s none .n (.s (some ⟨[],[],[4],0,[]⟩) (.s none .n (.b (.l ⟨[(6,.v false [.int .i64])],[],[1,4,5],0,[]⟩ .n))) .n))))⟩
noncomputable def gD.B:(List bx)×(List bC)×Unit→Option (Int×ByteArray×Int×Unit):=fun (p0,p1,_)=>
 (fX.F (p0,p1,())).bind fun y1=>
 (bif (!y1.1) then
 some ((1:Int),(⟨#[]⟩:ByteArray),(0:Int),())
 else
 (dY.F (p0,())).bind fun y2=>
 jn (S:=Unit) (
 aK (S:=Int×Unit) (fun (x6,_)=>
 (bif (decide (x6<(y2.1.length:Int))) then
 ck (ib x6 y2.1.length)<|
 let e3:fR:=(List.getD y2.1 (Int.toNat x6) io.z)
 (ik.F (e3.1,e3.2.1,e3.2.2,p1,())).bind fun y4=>
 (bif (y4.1 !=(0:Int)) then
 ir (.inr (y4.1,y4.2.1,y4.2.2.1,()))
 else
 let e5:Int:=(wr (x6+(1:Int)))
 il (e5,()))
 else
 ir (.inl (())))) ((0:Int),())) fun (_)=>
 some ((0:Int),(⟨#[]⟩:ByteArray),(0:Int),()))
noncomputable def gD.F:=stk gD.B
theorem gD.k:Kk ik.s ae.q [] Tryz.f14 gD.d gD.B:={}
noncomputable def gD.s:SpL:=gD.d.e [] gD.F::ik.s
theorem gD.c:Ck gD.s ae.q:=cS ik.c gD.k
def gE.d:Fe:=⟨16,3,⟨[(0,.v false [.sl 84 gv]),(1,.v false [.sl 44 dS]),(2,.v false [.str])],[],[],0,[]⟩,⟨[(0,.v true [.int .i64,.str,.int .i64])],[],[],1000,[]⟩,(.s none .n (.s none .n (.s (some ⟨[],[],[0,1,6,7],0,[]⟩) .n .n)))⟩
noncomputable def gE.B:(List bx)×(List bC)×ByteArray×Unit→Option (Int×ByteArray×Int×Unit):=fun (p0,p1,p2,_)=>
 (eK.F (p0,p2,())).bind fun y1=>
 jn (S:=Unit) (
 (bif (decide (y1.1<(0:Int))) then
 ir ((1:Int),(⟨#[]⟩:ByteArray),(0:Int),())
 else
 (fX.F (p0,p1,())).bind fun y2=>
 (bif (!y2.1) then
 ir ((1:Int),(⟨#[]⟩:ByteArray),(0:Int),())
 else
 il (())))) fun (_)=>
 ck (ib y1.1 p0.length)<|
 let e4:bx:=(gt p0 y1.1 gv.z)
 (bif (e4.1 !=(0:Int)) then
 some ((1:Int),(⟨#[]⟩:ByteArray),(0:Int),())
 else
 ck (ib y1.1 p0.length)<|
 let e5:bx:=(gt p0 y1.1 gv.z)
 (ik.F (e5.2.1.1,e5.2.1.2.1,e5.2.1.2.2,p1,())).bind fun y6=>
 some (y6.1,y6.2.1,y6.2.2.1,()))
noncomputable def gE.F:=stk gE.B
theorem gE.k:Kk gD.s ae.q [] Tryz.f16 gE.d gE.B:={}
noncomputable def gE.s:SpL:=gE.d.e [] gE.F::gD.s
theorem gE.c:Ck gE.s ae.q:=cS gD.c gE.k
def eR.d:Fe:=⟨3,3,⟨[(0,.v false [.sl 84 gv]),(1,.v false [.sl 44 dS]),(2,.v false [.str])],[],[],0,[]⟩,⟨[(0,.v false [.bool])],[],[],1000,[]⟩,(.s none .n (.s (some ⟨[],[],[0,1,2],0,[]⟩) .n .n))⟩
noncomputable def eR.B:(List bx)×(List bC)×ByteArray×Unit→Option (Bool×Unit):=fun (p0,p1,p2,_)=>
 jn (S:=Unit) (
 (gA.F (p0,())).bind fun y1=>
 (bif y1.1 then
 (fw.F (())).bind fun y2=>
 ir (y2.1,())
 else
 (bif (decide ((p0.length:Int)>(9:Int))) then
 (fw.F (())).bind fun y3=>
 ir (y3.1,())
 else
 (ff.F (p1,())).bind fun y4=>
 (bif (!y4.1) then
 (fw.F (())).bind fun y5=>
 ir (y5.1,())
 else
 il (()))))) fun (_)=>
 (fw.F (())).bind fun y7=>
 (bif y7.1 then
 (cz.F (p0,p1,())).bind fun y8=>
 (gD.F (p0,p1,())).bind fun y9=>
 (bif (Ty.eq gT (y8.1,(y8.2.1,y8.2.2.1)) (y9.1,(y9.2.1,y9.2.2.1))) then
 (dB.F (p0,p1,p2,())).bind fun y10=>
 (gE.F (p0,p1,p2,())).bind fun y11=>
 some ((Ty.eq gT (y10.1,(y10.2.1,y10.2.2.1)) (y11.1,(y11.2.1,y11.2.2.1))),())
 else
 some (false,()))
 else
 some (false,()))
noncomputable def eR.F:=stk eR.B
theorem eR.k:Kk gE.s ae.q [] Tryz.f3 eR.d eR.B:={}
noncomputable def eR.s:SpL:=eR.d.e [] eR.F::gE.s
theorem eR.c:Ck eR.s ae.q:=cS gE.c eR.k
def dN.d:Fe:=⟨4,2,⟨[(0,.v false [.sl 84 gv]),(1,.v false [.sl 44 dS])],[],[],0,[]⟩,⟨[(0,.v false [.bool])],[],[],1000,[]⟩,(.s none .n (.s none (.s (some ⟨[(31,.v false [.bool])],[],[0,1],0,[]⟩) .n .n) (.s none .n (.s none .n (.s none .n (.s (some ⟨[(6,.v false [.ptr 1 0]),(7,.v false [.ref 0])],[(0,false,.arr 44 dS),(1,true,.box 30 [.int .i64,.str,.int .i64])],[0,1],2,[]⟩) (.s none .n (.b (.l ⟨[(6,.v false [.ptr 1 0]),(7,.v false [.ref 0]),(8,.v false [.int .i64])],[(0,false,.arr 44 dS),(1,true,.box 30 [.int .i64,.str,.int .i64])],[0,1,5],2,[]⟩ (.s none .n (.s none (.b (.s none .n (.s (some ⟨[],[],[0,1,5,6,7,8,9],0,[]⟩) .n .n))) .n))))) .n))))))⟩
noncomputable def dN.B:(List bx)×(List bC)×Unit→Option (Bool×Unit):=fun (p0,p1,_)=>
 jn (S:=Bool×Unit) (
 (fw.F (())).bind fun y1=>
 (bif (!y1.1) then
 il (true,())
 else
 (gA.F (p0,())).bind fun y2=>
 (bif y2.1 then
 il (true,())
 else
 (bif (decide ((p0.length:Int)>(9:Int))) then
 il (true,())
 else
 (ff.F (p1,())).bind fun y3=>
 (bif (!y3.1) then
 il (true,())
 else
 (fX.F (p0,p1,())).bind fun y4=>
 il ((!y4.1),())))))) fun (x31_5,_)=>
 (bif x31_5 then
 (fw.F (())).bind fun y6=>
 some (y6.1,())
 else
 (dY.F (p0,())).bind fun y7=>
 jn (S:=(List bC)×Int×ByteArray×Int×Unit) (
 aK (S:=Int×(List bC)×Int×ByteArray×Int×Unit) (fun (x8,o7_0,o6_0_0,o6_0_1,o6_0_2,_)=>
 (bif (decide (x8<(y7.1.length:Int))) then
 ck (ib x8 y7.1.length)<|
 let e8:fR:=(List.getD y7.1 (Int.toNat x8) io.z)
 (dB.F (p0,p1,e8.1,())).bind fun y9=>
 jn (S:=Unit) (
 (bif (y9.1 !=(0:Int)) then
 ck (ib x8 y7.1.length)<|
 let e10:fR:=(List.getD y7.1 (Int.toNat x8) io.z)
 (bif (!sq y9.2.1 e10.1) then
 ir (.inr (.inr (false,())))
 else
 il (()))
 else
 il (()))) fun (_)=>
 (bif (o6_0_0==(0:Int)) then
 ck (ib x8 y7.1.length)<|
 let e12:fR:=(List.getD y7.1 (Int.toNat x8) io.z)
 ck (Nat.ble (o7_0.length+ [(e12.1,([]:List bj))].length) 3518437208883)<|
 let e13:Int:=(wr (x8+(1:Int)))
 il (e13,(o7_0++ [(e12.1,([]:List bj))]),y9.1,y9.2.1,y9.2.2.1,())
 else
 ck (ib x8 y7.1.length)<|
 let e14:fR:=(List.getD y7.1 (Int.toNat x8) io.z)
 ck (Nat.ble (o7_0.length+ [(e14.1,([]:List bj))].length) 3518437208883)<|
 let e15:Int:=(wr (x8+(1:Int)))
 il (e15,(o7_0++ [(e14.1,([]:List bj))]),o6_0_0,o6_0_1,o6_0_2,()))
 else
 ir (.inl (o7_0,o6_0_0,o6_0_1,o6_0_2,())))) ((0:Int),([]:List bC),(0:Int),(⟨#[]⟩:ByteArray),(0:Int),())) fun (o7_0_16,o6_0_0_16,o6_0_1_16,o6_0_2_16,_)=>
 (cz.F (p0,p1,())).bind fun y17=>
 (bif (Ty.eq gT (y17.1,(y17.2.1,y17.2.2.1)) (o6_0_0_16,(o6_0_1_16,o6_0_2_16))) then
 (cz.F (p0,o7_0_16,())).bind fun y18=>
 some ((y18.1==(0:Int)),())
 else
 some (false,())))
noncomputable def dN.F:=stk dN.B
theorem dN.eq:dN.F=dN.B:=aq _
theorem dN.k:Kk eR.s ae.q [] Tryz.f4 dN.d dN.B:={}
end Go.Proofs.Ytpoffnlnhdbpmaa
