import Derived.Test.YtnhiifengimfgaaGreatDoorM5
set_option linter.all false
set_option linter.unusedVariables false
set_option linter.unusedSimpArgs false
set_option linter.unusedSectionVars false
set_option maxRecDepth 100000
namespace Go.Proofs.Ytnhiifengimfgaa
open Go Lv Go.Proofs Go.RowKit Go.Shelf
variable [Lk]
def lex_Lex.d:Fe:=⟨172,1,⟨[(0,.v false [.str])],[],[],0,[]⟩,⟨[(0,.tup [(false,[.ref 1000]),(false,[.int .i64])])],[(1000,false,.arr 136 tTok)],[],1001,[]⟩,(.s none .n (.s none .n (.s none .n (.s none .n (.s none (.s none .n (.b (.l ⟨[(4,.v false [.ptr 1 0]),(5,.v false [.ref 0])],[(0,false,.arr 136 tTok),(1,true,.box 239 [.str,.int .i64])],[0],2,[]⟩ .n))) .n)))))⟩
noncomputable def lex_Lex.B:ByteArray×Unit→Option (Int×(List tTokT)×Unit):=fun (p0,_)=>
  (bif (decide ((p0.size:Int)>(20000:Int))) then
  some ((60:Int),[],())
  else
  (lex_scanner_run.F ([(5:Int)],p0,(0:Int),())).bind fun y1=>
  loopM (S:=(List tTokT)×ByteArray×Int×Unit) (fun (o5_0,o4_0_0,o4_0_1,_)=>
  (bif (decide (o4_0_1<(p0.size:Int))) then
  (lex_scanner_token.F (o4_0_0,o4_0_1,())).bind fun y2=>
  (bif (!y2.2.2.2.2.2.1) then
  ir ((60:Int),[],())
  else
  ck (Nat.ble (o5_0.length+ [(y2.1,(y2.2.1,(y2.2.2.1,(y2.2.2.2.1,y2.2.2.2.2.1))))].length) 2513169434916)<|
  (lex_scanner_run.F ([(5:Int)],y2.2.2.2.2.2.2.1,y2.2.2.2.2.2.2.2.1,())).bind fun y3=>
  il ((o5_0++ [(y2.1,(y2.2.1,(y2.2.2.1,(y2.2.2.2.1,y2.2.2.2.2.1))))]),y3.2.1,y3.2.2.1,()))
  else
  ir ((0:Int),o5_0,()))) ([],y1.2.1,y1.2.2.1,()))
noncomputable def lex_Lex.F:=stk lex_Lex.B
theorem lex_Lex.eq:lex_Lex.F=lex_Lex.B:=stk_eq _
theorem lex_Lex.k:Kk lex_scanner_token.s [] [] Tryz.f172 lex_Lex.d lex_Lex.B:={}
noncomputable def lex_Lex.s:SpL:=lex_Lex.d.e [] lex_Lex.F::lex_scanner_token.s
theorem lex_Lex.c:Ck lex_Lex.s []:=cS lex_scanner_token.c lex_Lex.k
/-! (*levee/ddl.parser).is -/
def ddl_parser_is.d:Fe:=⟨209,2,⟨[(0,.v false [.ptr 0 0]),(1,.v false [.sl 9 .str])],[(0,true,.box 214 [.sl 136 tTok])],[],1,[]⟩,⟨[(0,.v false [.bool])],[(0,true,.box 214 [.sl 136 tTok])],[],1001,[(0,0)]⟩,(.s none .n (.s none (.s none .n (.b (.l ⟨[(9,.v false [.int .i64])],[],[0,7,8],0,[]⟩ .n))) .n))⟩
noncomputable def ddl_parser_is.B:(List ByteArray)×(List tTokT)×Unit→Option (Bool×(List tTokT)×Unit):=fun (p1,o0,_)=>
  loopM (S:=Int×Unit) (fun (x9,_)=>
  (bif (decide (x9<(p1.length:Int))) then
  ck (ib x9 p1.length)<|
  let e1:ByteArray:=(gt p1 x9 (⟨#[]⟩:ByteArray))
  (bif (decide (x9≥(o0.length:Int))) then
  ir (false,o0,())
  else
  ck (ib x9 o0.length)<|
  let e2:tTokT:=(gt o0 x9 tTok.z)
  (bif (e2.1==(1:Int)) then
  ir (false,o0,())
  else
  ck (ib x9 o0.length)<|
  let e3:tTokT:=(gt o0 x9 tTok.z)
  (bif (!sq e3.2.1 e1) then
  ir (false,o0,())
  else
  let e4:Int:=(wr (x9+(1:Int)))
  il (e4,()))))
  else
  ir (true,o0,()))) ((0:Int),())
noncomputable def ddl_parser_is.F:=stk ddl_parser_is.B
theorem ddl_parser_is.eq:ddl_parser_is.F=ddl_parser_is.B:=stk_eq _
theorem ddl_parser_is.k:Kk lex_Lex.s [] [] Tryz.f209 ddl_parser_is.d ddl_parser_is.B:={}
noncomputable def ddl_parser_is.s:SpL:=ddl_parser_is.d.e [] ddl_parser_is.F::lex_Lex.s
theorem ddl_parser_is.c:Ck ddl_parser_is.s []:=cS lex_Lex.c ddl_parser_is.k
/-! (*levee/ddl.parser).take -/
def ddl_parser_take.d:Fe:=⟨202,2,⟨[(0,.v false [.ptr 0 0]),(1,.v false [.sl 9 .str])],[(0,true,.box 214 [.sl 136 tTok])],[],1,[]⟩,⟨[(0,.v false [.bool])],[(0,true,.box 214 [.sl 136 tTok])],[],1001,[(0,0)]⟩,.n⟩
noncomputable def ddl_parser_take.B:(List ByteArray)×(List tTokT)×Unit→Option (Bool×(List tTokT)×Unit):=fun (p1,o0,_)=>
  (ddl_parser_is.F (p1,o0,())).bind fun y1=>
  (bif (!y1.1) then
  some (false,y1.2.1,())
  else
  ck (sb (p1.length:Int) (y1.2.1.length:Int) y1.2.1.length)<|
  let e2:List tTokT:=(List.drop (Int.toNat (p1.length:Int)) (List.take (Int.toNat (y1.2.1.length:Int)) y1.2.1))
  some (true,e2,()))
noncomputable def ddl_parser_take.F:=stk ddl_parser_take.B
theorem ddl_parser_take.eq:ddl_parser_take.F=ddl_parser_take.B:=stk_eq _
theorem ddl_parser_take.k:Kk ddl_parser_is.s [] [] Tryz.f202 ddl_parser_take.d ddl_parser_take.B:={}
noncomputable def ddl_parser_take.s:SpL:=ddl_parser_take.d.e [] ddl_parser_take.F::ddl_parser_is.s
theorem ddl_parser_take.c:Ck ddl_parser_take.s []:=cS ddl_parser_is.c ddl_parser_take.k
/-! levee/ddl.need -/
def ddl_need.d:Fe:=⟨177,1,⟨[(0,.v false [.bool])],[],[],0,[]⟩,⟨[(0,.tup [])],[],[],1000,[]⟩,.n⟩
noncomputable def ddl_need.B:Bool×Unit→Option ((Unit)⊕Int):=fun (p0,_)=>
  (bif (!p0) then
  some (.inr (70:Int))
  else
  some (.inl (())))
noncomputable def ddl_need.F:=stk ddl_need.B
theorem ddl_need.eq:ddl_need.F=ddl_need.B:=stk_eq _
theorem ddl_need.k:Kp ddl_parser_take.s [] [] Tryz.f177 ddl_need.d ddl_need.B:={}
noncomputable def ddl_need.q:SqL:=ddl_need.d.p [] ddl_need.F::[]
theorem ddl_need.c:Ck ddl_parser_take.s ddl_need.q:=cP ddl_parser_take.c ddl_need.k
/-! (*levee/ddl.parser).one -/
def ddl_parser_one.d:Fe:=⟨174,2,⟨[(0,.v false [.ptr 0 0]),(1,.v false [.sl 9 .str])],[(0,true,.box 214 [.sl 136 tTok])],[],1,[]⟩,⟨[(0,.v false [.int .i64])],[(0,true,.box 214 [.sl 136 tTok])],[],1001,[(0,0)]⟩,(.s none .n (.s (some ⟨[],[(0,true,.box 214 [.sl 136 tTok])],[],1,[(0,0)]⟩) (.s none .n (.b (.l ⟨[(0,.v false [.ptr 0 0]),(9,.v false [.int .i64])],[(0,true,.box 214 [.sl 136 tTok])],[7,8],1,[]⟩ .n))) .n))⟩
noncomputable def ddl_parser_one.B:(List ByteArray)×(List tTokT)×Unit→Option ((Int×(List tTokT)×Unit)⊕Int):=fun (p1,o0,_)=>
  jn (S:=(List tTokT)×Unit) (
  loopM (S:=Int×(List tTokT)×Unit) (fun (x9,o0_0,_)=>
  (bif (decide (x9<(p1.length:Int))) then
  ck (ib x9 p1.length)<|
  let e1:ByteArray:=(gt p1 x9 (⟨#[]⟩:ByteArray))
  (ddl_parser_take.F ([e1],o0_0,())).bind fun y2=>
  (bif y2.1 then
  ir (.inr (.inl (x9,y2.2.1,())))
  else
  let e3:Int:=(wr (x9+(1:Int)))
  il (e3,y2.2.1,()))
  else
  ir (.inl (o0_0,())))) ((0:Int),o0,())) fun (oin_0_4,_)=>
  Option.bind (ddl_need.F (false,())) fun zy5=>match zy5 with
  | .inl y5=>
  (some (.inl ((0:Int),oin_0_4,())))
  | .inr n6=>some (.inr n6)
noncomputable def ddl_parser_one.F:=stk ddl_parser_one.B
theorem ddl_parser_one.eq:ddl_parser_one.F=ddl_parser_one.B:=stk_eq _
theorem ddl_parser_one.k:Kp ddl_parser_take.s ddl_need.q [] Tryz.f174 ddl_parser_one.d ddl_parser_one.B:={}
noncomputable def ddl_parser_one.q:SqL:=ddl_parser_one.d.p [] ddl_parser_one.F::ddl_need.q
theorem ddl_parser_one.c:Ck ddl_parser_take.s ddl_parser_one.q:=cP ddl_need.c ddl_parser_one.k
/-! (*levee/ddl.parser).next -/
def ddl_parser_next.d:Fe:=⟨231,1,⟨[(0,.v false [.ptr 0 0])],[(0,true,.box 214 [.sl 136 tTok])],[],1,[]⟩,⟨[(0,.v true [.int .i64,.str,.int .i64,.int .i64,.str])],[(0,true,.box 214 [.sl 136 tTok])],[],1001,[(0,0)]⟩,.n⟩
noncomputable def ddl_parser_next.B:(List tTokT)×Unit→Option ((Int×ByteArray×Int×Int×ByteArray×(List tTokT)×Unit)⊕Int):=fun (o0,_)=>
  Option.bind (ddl_need.F ((decide ((o0.length:Int)>(0:Int))),())) fun zy1=>match zy1 with
  | .inl y1=>
  (ck (ib (0:Int) o0.length)<|
  let e2:tTokT:=(List.getD o0 0 tTok.z)
  ck (sb (1:Int) (o0.length:Int) o0.length)<|
  let e3:List tTokT:=(List.drop (Int.toNat (1:Int)) (List.take (Int.toNat (o0.length:Int)) o0))
  some (.inl (e2.1,e2.2.1,e2.2.2.1,e2.2.2.2.1,e2.2.2.2.2,e3,())))
  | .inr n4=>some (.inr n4)
noncomputable def ddl_parser_next.F:=stk ddl_parser_next.B
theorem ddl_parser_next.eq:ddl_parser_next.F=ddl_parser_next.B:=stk_eq _
theorem ddl_parser_next.k:Kp ddl_parser_take.s ddl_parser_one.q [] Tryz.f231 ddl_parser_next.d ddl_parser_next.B:={}
noncomputable def ddl_parser_next.q:SqL:=ddl_parser_next.d.p [] ddl_parser_next.F::ddl_parser_one.q
theorem ddl_parser_next.c:Ck ddl_parser_take.s ddl_parser_next.q:=cP ddl_parser_one.c ddl_parser_next.k
/-! levee/ddl.keywords -/
def ddl_keywords.d:Fe:=⟨246,0,⟨[],[],[],0,[]⟩,⟨[(0,.v false [.ref 1000])],[(1000,false,.arr 9 .str)],[],1001,[]⟩,.n⟩
noncomputable def ddl_keywords.B:Unit→Option ((List ByteArray)×Unit):=fun (_)=>
  some ([(⟨#[116,97,98,108,101]⟩:ByteArray),(⟨#[99,104,101,99,107]⟩:ByteArray),(⟨#[118,105,101,119]⟩:ByteArray),(⟨#[102,114,111,109]⟩:ByteArray),(⟨#[106,111,105,110]⟩:ByteArray),(⟨#[111,110]⟩:ByteArray),(⟨#[119,104,101,114,101]⟩:ByteArray),(⟨#[112,105,99,107]⟩:ByteArray),(⟨#[103,114,111,117,112]⟩:ByteArray),(⟨#[98,111,111,108]⟩:ByteArray),(⟨#[105,110,116]⟩:ByteArray),(⟨#[116,101,120,116]⟩:ByteArray),(⟨#[110,117,108,108]⟩:ByteArray),(⟨#[117,110,105,113,117,101]⟩:ByteArray),(⟨#[114,101,102]⟩:ByteArray),(⟨#[114,101,115,116,114,105,99,116]⟩:ByteArray),(⟨#[99,97,115,99,97,100,101]⟩:ByteArray),(⟨#[115,101,116,110,117,108,108]⟩:ByteArray),(⟨#[99,111,117,110,116]⟩:ByteArray),(⟨#[115,117,109]⟩:ByteArray),(⟨#[109,105,110]⟩:ByteArray),(⟨#[109,97,120]⟩:ByteArray),(⟨#[116,114,117,101]⟩:ByteArray),(⟨#[102,97,108,115,101]⟩:ByteArray),(⟨#[97,110,100]⟩:ByteArray),(⟨#[111,114]⟩:ByteArray),(⟨#[110,111,116]⟩:ByteArray)],())
noncomputable def ddl_keywords.F:=stk ddl_keywords.B
theorem ddl_keywords.eq:ddl_keywords.F=ddl_keywords.B:=stk_eq _
theorem ddl_keywords.k:Kk ddl_parser_take.s ddl_parser_next.q [] Tryz.f246 ddl_keywords.d ddl_keywords.B:={}
noncomputable def ddl_keywords.s:SpL:=ddl_keywords.d.e [] ddl_keywords.F::ddl_parser_take.s
theorem ddl_keywords.c:Ck ddl_keywords.s ddl_parser_next.q:=cS ddl_parser_next.c ddl_keywords.k
/-! slices.Index[[]string,string] -/
def slices_Index_sl_string_string.d:Fe:=⟨259,2,⟨[(0,.v false [.sl 9 .str]),(1,.v false [.str])],[],[],0,[]⟩,⟨[(0,.v false [.int .i64])],[],[],1000,[]⟩,(.s none .n (.s none (.s none .n (.b (.l ⟨[(8,.v false [.int .i64])],[],[0,1,7],0,[]⟩ .n))) .n))⟩
noncomputable def slices_Index_sl_string_string.B:(List ByteArray)×ByteArray×Unit→Option (Int×Unit):=fun (p0,p1,_)=>
  loopM (S:=Int×Unit) (fun (x8,_)=>
  (bif (decide (x8<(p0.length:Int))) then
  ck (ib x8 p0.length)<|
  let e1:ByteArray:=(gt p0 x8 (⟨#[]⟩:ByteArray))
  (bif (sq p1 e1) then
  ir (x8,())
  else
  let e2:Int:=(wr (x8+(1:Int)))
  il (e2,()))
  else
  ir ((-1:Int),()))) ((0:Int),())
noncomputable def slices_Index_sl_string_string.F:=stk slices_Index_sl_string_string.B
theorem slices_Index_sl_string_string.eq:slices_Index_sl_string_string.F=slices_Index_sl_string_string.B:=stk_eq _
theorem slices_Index_sl_string_string.k:Kk ddl_keywords.s ddl_parser_next.q [] Tryz.f259 slices_Index_sl_string_string.d slices_Index_sl_string_string.B:={}
noncomputable def slices_Index_sl_string_string.s:SpL:=slices_Index_sl_string_string.d.e [] slices_Index_sl_string_string.F::ddl_keywords.s
theorem slices_Index_sl_string_string.c:Ck slices_Index_sl_string_string.s ddl_parser_next.q:=cS ddl_keywords.c slices_Index_sl_string_string.k
/-! slices.Contains[[]string,string] -/
def slices_Contains_sl_string_string.d:Fe:=⟨245,2,⟨[(0,.v false [.sl 9 .str]),(1,.v false [.str])],[],[],0,[]⟩,⟨[(0,.v false [.bool])],[],[],1000,[]⟩,.n⟩
noncomputable def slices_Contains_sl_string_string.B:(List ByteArray)×ByteArray×Unit→Option (Bool×Unit):=fun (p0,p1,_)=>
  (slices_Index_sl_string_string.F (p0,p1,())).bind fun y1=>
  some ((decide (y1.1≥(0:Int))),())
noncomputable def slices_Contains_sl_string_string.F:=stk slices_Contains_sl_string_string.B
theorem slices_Contains_sl_string_string.eq:slices_Contains_sl_string_string.F=slices_Contains_sl_string_string.B:=stk_eq _
theorem slices_Contains_sl_string_string.k:Kk slices_Index_sl_string_string.s ddl_parser_next.q [] Tryz.f245 slices_Contains_sl_string_string.d slices_Contains_sl_string_string.B:={}
noncomputable def slices_Contains_sl_string_string.s:SpL:=slices_Contains_sl_string_string.d.e [] slices_Contains_sl_string_string.F::slices_Index_sl_string_string.s
theorem slices_Contains_sl_string_string.c:Ck slices_Contains_sl_string_string.s ddl_parser_next.q:=cS slices_Index_sl_string_string.c slices_Contains_sl_string_string.k
/-! levee/ddl.Name -/
def ddl_Name.d:Fe:=⟨232,1,⟨[(0,.v false [.str])],[],[],0,[]⟩,⟨[(0,.v false [.bool])],[],[],1000,[]⟩,.n⟩
noncomputable def ddl_Name.B:ByteArray×Unit→Option (Bool×Unit):=fun (p0,_)=>
  (lex_Word.F (p0,())).bind fun y1=>
  (bif y1.1 then
  (ddl_keywords.F (())).bind fun y2=>
  (slices_Contains_sl_string_string.F (y2.1,p0,())).bind fun y3=>
  some ((!y3.1),())
  else
  some (false,()))
noncomputable def ddl_Name.F:=stk ddl_Name.B
theorem ddl_Name.eq:ddl_Name.F=ddl_Name.B:=stk_eq _
theorem ddl_Name.k:Kk slices_Contains_sl_string_string.s ddl_parser_next.q [] Tryz.f232 ddl_Name.d ddl_Name.B:={}
noncomputable def ddl_Name.s:SpL:=ddl_Name.d.e [] ddl_Name.F::slices_Contains_sl_string_string.s
theorem ddl_Name.c:Ck ddl_Name.s ddl_parser_next.q:=cS slices_Contains_sl_string_string.c ddl_Name.k
/-! (*levee/ddl.parser).name -/
def ddl_parser_name.d:Fe:=⟨203,1,⟨[(0,.v false [.ptr 0 0])],[(0,true,.box 214 [.sl 136 tTok])],[],1,[]⟩,⟨[(0,.v false [.str])],[(0,true,.box 214 [.sl 136 tTok])],[],1001,[(0,0)]⟩,.n⟩
noncomputable def ddl_parser_name.B:(List tTokT)×Unit→Option ((ByteArray×(List tTokT)×Unit)⊕Int):=fun (o0,_)=>
  Option.bind (ddl_parser_next.F (o0,())) fun zy1=>match zy1 with
  | .inl y1=>
  ((bif (y1.1==(0:Int)) then
  (ddl_Name.F (y1.2.1,())).bind fun y2=>
  Option.bind (ddl_need.F (y2.1,())) fun zy3=>match zy3 with
  | .inl y3=>
  (some (.inl (y1.2.1,y1.2.2.2.2.2.1,())))
  | .inr n4=>some (.inr n4)
  else
  Option.bind (ddl_need.F (false,())) fun zy5=>match zy5 with
  | .inl y5=>
  (some (.inl (y1.2.1,y1.2.2.2.2.2.1,())))
  | .inr n6=>some (.inr n6)))
  | .inr n7=>some (.inr n7)
noncomputable def ddl_parser_name.F:=stk ddl_parser_name.B
theorem ddl_parser_name.eq:ddl_parser_name.F=ddl_parser_name.B:=stk_eq _
theorem ddl_parser_name.k:Kp ddl_Name.s ddl_parser_next.q [] Tryz.f203 ddl_parser_name.d ddl_parser_name.B:={}
noncomputable def ddl_parser_name.q:SqL:=ddl_parser_name.d.p [] ddl_parser_name.F::ddl_parser_next.q
theorem ddl_parser_name.c:Ck ddl_Name.s ddl_parser_name.q:=cP ddl_Name.c ddl_parser_name.k
/-! (*levee/ddl.parser).columnOf -/
def ddl_parser_columnOf.d:Fe:=⟨206,1,⟨[(0,.v false [.ptr 0 0])],[(0,true,.box 214 [.sl 136 tTok])],[],1,[]⟩,⟨[(0,.v true [.str,.int .i64,.bool,.bool,.str,.int .i64])],[(0,true,.box 214 [.sl 136 tTok])],[],1001,[(0,0)]⟩,.n⟩
noncomputable def ddl_parser_columnOf.B:(List tTokT)×Unit→Option ((ByteArray×Int×Bool×Bool×ByteArray×Int×(List tTokT)×Unit)⊕Int):=fun (o0,_)=>
  Option.bind (ddl_parser_name.F (o0,())) fun zy1=>match zy1 with
  | .inl y1=>
  (Option.bind (ddl_parser_one.F ([(⟨#[98,111,111,108]⟩:ByteArray),(⟨#[105,110,116]⟩:ByteArray),(⟨#[116,101,120,116]⟩:ByteArray)],y1.2.1,())) fun zy2=>match zy2 with
  | .inl y2=>
  (let e3:Int:=(wr ((1:Int)+y2.1))
  (ddl_parser_take.F ([(⟨#[110,117,108,108]⟩:ByteArray)],y2.2.1,())).bind fun y4=>
  (ddl_parser_take.F ([(⟨#[117,110,105,113,117,101]⟩:ByteArray)],y4.2.1,())).bind fun y5=>
  (ddl_parser_take.F ([(⟨#[114,101,102]⟩:ByteArray)],y5.2.1,())).bind fun y6=>
  (bif y6.1 then
  Option.bind (ddl_parser_name.F (y6.2.1,())) fun zy7=>match zy7 with
  | .inl y7=>
  (Option.bind (ddl_parser_one.F ([(⟨#[114,101,115,116,114,105,99,116]⟩:ByteArray),(⟨#[99,97,115,99,97,100,101]⟩:ByteArray),(⟨#[115,101,116,110,117,108,108]⟩:ByteArray)],y7.2.1,())) fun zy8=>match zy8 with
  | .inl y8=>
  (some (.inl (y1.1,e3,y4.1,y5.1,y7.1,y8.1,y8.2.1,())))
  | .inr n9=>some (.inr n9))
  | .inr n10=>some (.inr n10)
  else
  some (.inl (y1.1,e3,y4.1,y5.1,(⟨#[]⟩:ByteArray),(0:Int),y6.2.1,()))))
  | .inr n11=>some (.inr n11))
  | .inr n12=>some (.inr n12)
noncomputable def ddl_parser_columnOf.F:=stk ddl_parser_columnOf.B
theorem ddl_parser_columnOf.eq:ddl_parser_columnOf.F=ddl_parser_columnOf.B:=stk_eq _
theorem ddl_parser_columnOf.k:Kp ddl_Name.s ddl_parser_name.q [] Tryz.f206 ddl_parser_columnOf.d ddl_parser_columnOf.B:={}
noncomputable def ddl_parser_columnOf.q:SqL:=ddl_parser_columnOf.d.p [] ddl_parser_columnOf.F::ddl_parser_name.q
theorem ddl_parser_columnOf.c:Ck ddl_Name.s ddl_parser_columnOf.q:=cP ddl_parser_name.c ddl_parser_columnOf.k
/-! internal/stringslite.HasPrefix -/
def internal_stringslite_HasPrefix.d:Fe:=⟨282,2,⟨[(0,.v false [.str]),(1,.v false [.str])],[],[],0,[]⟩,⟨[(0,.v false [.bool])],[],[],1000,[]⟩,.n⟩
noncomputable def internal_stringslite_HasPrefix.B:ByteArray×ByteArray×Unit→Option (Bool×Unit):=fun (p0,p1,_)=>
  (bif (decide ((p0.size:Int)≥(p1.size:Int))) then
  ck (sb (0:Int) (p1.size:Int) p0.size)<|
  let e1:ByteArray:=(p0.extract (Int.toNat (0:Int)) (Int.toNat (p1.size:Int)))
  some ((sq e1 p1),())
  else
  some (false,()))
noncomputable def internal_stringslite_HasPrefix.F:=stk internal_stringslite_HasPrefix.B
theorem internal_stringslite_HasPrefix.eq:internal_stringslite_HasPrefix.F=internal_stringslite_HasPrefix.B:=stk_eq _
theorem internal_stringslite_HasPrefix.k:Kk ddl_Name.s ddl_parser_columnOf.q [] Tryz.f282 internal_stringslite_HasPrefix.d internal_stringslite_HasPrefix.B:={}
noncomputable def internal_stringslite_HasPrefix.s:SpL:=internal_stringslite_HasPrefix.d.e [] internal_stringslite_HasPrefix.F::ddl_Name.s
theorem internal_stringslite_HasPrefix.c:Ck internal_stringslite_HasPrefix.s ddl_parser_columnOf.q:=cS ddl_parser_columnOf.c internal_stringslite_HasPrefix.k
/-! internal/stringslite.CutPrefix -/
def internal_stringslite_CutPrefix.d:Fe:=⟨274,2,⟨[(0,.v false [.str]),(1,.v false [.str])],[],[],0,[]⟩,⟨[(0,.tup [(false,[.str]),(false,[.bool])])],[],[],1000,[]⟩,.n⟩
noncomputable def internal_stringslite_CutPrefix.B:ByteArray×ByteArray×Unit→Option (ByteArray×Bool×Unit):=fun (p0,p1,_)=>
  (internal_stringslite_HasPrefix.F (p0,p1,())).bind fun y1=>
  (bif (!y1.1) then
  some (p0,false,())
  else
  ck (sb (p1.size:Int) (p0.size:Int) p0.size)<|
  let e2:ByteArray:=(p0.extract (Int.toNat (p1.size:Int)) (Int.toNat (p0.size:Int)))
  some (e2,true,()))
noncomputable def internal_stringslite_CutPrefix.F:=stk internal_stringslite_CutPrefix.B
theorem internal_stringslite_CutPrefix.eq:internal_stringslite_CutPrefix.F=internal_stringslite_CutPrefix.B:=stk_eq _
theorem internal_stringslite_CutPrefix.k:Kk internal_stringslite_HasPrefix.s ddl_parser_columnOf.q [] Tryz.f274 internal_stringslite_CutPrefix.d internal_stringslite_CutPrefix.B:={}
noncomputable def internal_stringslite_CutPrefix.s:SpL:=internal_stringslite_CutPrefix.d.e [] internal_stringslite_CutPrefix.F::internal_stringslite_HasPrefix.s
theorem internal_stringslite_CutPrefix.c:Ck internal_stringslite_CutPrefix.s ddl_parser_columnOf.q:=cS internal_stringslite_HasPrefix.c internal_stringslite_CutPrefix.k
/-! strings.CutPrefix -/
def strings_CutPrefix.d:Fe:=⟨260,2,⟨[(0,.v false [.str]),(1,.v false [.str])],[],[],0,[]⟩,⟨[(0,.tup [(false,[.str]),(false,[.bool])])],[],[],1000,[]⟩,.n⟩
noncomputable def strings_CutPrefix.B:ByteArray×ByteArray×Unit→Option (ByteArray×Bool×Unit):=fun (p0,p1,_)=>
  (internal_stringslite_CutPrefix.F (p0,p1,())).bind fun y1=>
  some (y1.1,y1.2.1,())
noncomputable def strings_CutPrefix.F:=stk strings_CutPrefix.B
theorem strings_CutPrefix.eq:strings_CutPrefix.F=strings_CutPrefix.B:=stk_eq _
theorem strings_CutPrefix.k:Kk internal_stringslite_CutPrefix.s ddl_parser_columnOf.q [] Tryz.f260 strings_CutPrefix.d strings_CutPrefix.B:={}
noncomputable def strings_CutPrefix.s:SpL:=strings_CutPrefix.d.e [] strings_CutPrefix.F::internal_stringslite_CutPrefix.s
theorem strings_CutPrefix.c:Ck strings_CutPrefix.s ddl_parser_columnOf.q:=cS internal_stringslite_CutPrefix.c strings_CutPrefix.k
/-! levee/ddl.column -/
def ddl_column.d:Fe:=⟨248,1,⟨[(0,.v false [.str])],[],[],0,[]⟩,⟨[(0,.tup [(false,[.int .i64]),(false,[.bool])])],[],[],1000,[]⟩,.n⟩
noncomputable def ddl_column.B:ByteArray×Unit→Option (Int×Bool×Unit):=fun (p0,_)=>
  (strings_CutPrefix.F (p0,(⟨#[99]⟩:ByteArray),())).bind fun y1=>
  (strconv_Atoi.F (y1.1,())).bind fun y2=>
  (bif y1.2.1 then
  (bif y2.2.1 then
  (bif (decide (y2.1≤(99:Int))) then
  (strconv_Itoa.F (y2.1,())).bind fun y3=>
  some (y2.1,(sq y3.1 y1.1),())
  else
  some (y2.1,false,()))
  else
  some (y2.1,false,()))
  else
  some (y2.1,false,()))
noncomputable def ddl_column.F:=stk ddl_column.B
theorem ddl_column.eq:ddl_column.F=ddl_column.B:=stk_eq _
theorem ddl_column.k:Kk strings_CutPrefix.s ddl_parser_columnOf.q [] Tryz.f248 ddl_column.d ddl_column.B:={}
noncomputable def ddl_column.s:SpL:=ddl_column.d.e [] ddl_column.F::strings_CutPrefix.s
theorem ddl_column.c:Ck ddl_column.s ddl_parser_columnOf.q:=cS strings_CutPrefix.c ddl_column.k
/-! (*levee/ddl.parser).step -/
def ddl_parser_step.d:Fe:=⟨233,1,⟨[(0,.v false [.ptr 0 0])],[(0,true,.box 214 [.sl 136 tTok])],[],1,[]⟩,⟨[(0,.v true [.int .i64,.int .i64,.int .i64,.int .i64,.str])],[(0,true,.box 214 [.sl 136 tTok])],[],1001,[(0,0)]⟩,(.s none .n (.s none .n (.s none .n (.s none .n (.s none (.s (some ⟨[(4,.v false [.int .i64]),(5,.v false [.bool])],[],[2,3],0,[]⟩) .d .n) (.s none (.s (some ⟨[(6,.v false [.ptr 0 0]),(7,.v false [.bool])],[(0,false,.box 45 [.int .i64,.int .i64,.str])],[2,3],1,[]⟩) .d .n) .n))))))⟩
noncomputable def ddl_parser_step.l:InT:=[(219,[],Tryz.f219,.n),(247,[],Tryz.f247,.n)]
noncomputable def ddl_parser_step.b (A:AgF):(List tTokT)×Unit→Option ((Int×Int×Int×Int×ByteArray×(List tTokT)×Unit)⊕Int):=fun (o0,_)=>
  (ddl_parser_take.F ([(⟨#[110,117,108,108]⟩:ByteArray),(⟨#[63]⟩:ByteArray)],o0,())).bind fun y1=>
  (bif y1.1 then
  some (.inl ((10:Int),(0:Int),(0:Int),(0:Int),(⟨#[]⟩:ByteArray),y1.2.1,()))
  else
  Option.bind (ddl_parser_next.F (y1.2.1,())) fun zy2=>match zy2 with
  | .inl y2=>
  ((bif (y2.1==(1:Int)) then
  some (.inl ((1:Int),(0:Int),y2.2.2.1,y2.2.2.2.1,y2.2.2.2.2.1,y2.2.2.2.2.2.1,()))
  else
  jn (S:=Int×Bool×Unit) (
  (A _ (.n (.n (.n (.n (.n (.n (.n (.n (.n .u []) []) [(.n (.n .u []) [])]) [(.n (.n (.n .u []) []) [])]) []) []) []) []) [(.n (.n (.n (.n (.n (.n (.n (.n .u []) []) [(.n (.n .u []) [])]) [(.n (.n (.n .u []) []) [])]) []) []) []) [(.n (.n (.n (.n (.n (.n (.n .u []) []) [(.n (.n .u []) [])]) [(.n (.n (.n .u []) []) [])]) []) []) [])])]) fun t1=>
  il ((Option.getD (getKV (.string y2.2.1) (putKV (.string (⟨#[110,111,116]⟩:ByteArray)) (9:Int) (putKV (.string (⟨#[111,114]⟩:ByteArray)) (8:Int) (putKV (.string (⟨#[97,110,100]⟩:ByteArray)) (7:Int) (putKV (.string (⟨#[60]⟩:ByteArray)) (6:Int) (putKV (.string (⟨#[61]⟩:ByteArray)) (5:Int) (putKV (.string (⟨#[42]⟩:ByteArray)) (4:Int) (putKV (.string (⟨#[45]⟩:ByteArray)) (3:Int) (putKV (.string (⟨#[43]⟩:ByteArray)) (2:Int) ([]:List (Value×Int))))))))))) (0:Int)),(Option.isSome (getKV (.string y2.2.1) (putKV (.string (⟨#[110,111,116]⟩:ByteArray)) (9:Int) (putKV (.string (⟨#[111,114]⟩:ByteArray)) (8:Int) (putKV (.string (⟨#[97,110,100]⟩:ByteArray)) (7:Int) (putKV (.string (⟨#[60]⟩:ByteArray)) (6:Int) (putKV (.string (⟨#[61]⟩:ByteArray)) (5:Int) (putKV (.string (⟨#[42]⟩:ByteArray)) (4:Int) (putKV (.string (⟨#[45]⟩:ByteArray)) (3:Int) (putKV (.string (⟨#[43]⟩:ByteArray)) (2:Int) ([]:List (Value×Int)))))))))))),()))) fun (x4_3,x5_3,_)=>
  (bif x5_3 then
  some (.inl (x4_3,(0:Int),(0:Int),(0:Int),(⟨#[]⟩:ByteArray),y2.2.2.2.2.2.1,()))
  else
  jn (S:=Bool×Int×Int×ByteArray×Unit) (
  (A _ (.n (.n (.n (.n (.n (.n (.n (.n (.n (.n .u []) []) []) [(.n (.n (.n .u []) []) [(.n (.n .u []) [])])]) [(.n (.n (.n (.n .u []) []) []) [(.n (.n (.n .u []) []) [])]),(.n (.n (.n (.n .u []) []) [(.n (.n .u []) [])]) [(.n (.n (.n .u []) []) [])])]) [(.n (.n (.n (.n (.n .u []) []) [(.n (.n .u []) [])]) [(.n (.n (.n .u []) []) [])]) [])]) [(.n (.n (.n (.n (.n (.n .u []) []) [(.n (.n .u []) [])]) [(.n (.n (.n .u []) []) [])]) []) [])]) [(.n (.n (.n (.n (.n (.n (.n .u []) []) [(.n (.n .u []) [])]) [(.n (.n (.n .u []) []) [])]) []) []) [])]) [(.n (.n (.n (.n (.n (.n (.n (.n .u []) []) [(.n (.n .u []) [])]) [(.n (.n (.n .u []) []) [])]) []) []) []) [])]) [(.n (.n (.n (.n (.n (.n (.n (.n (.n .u []) []) []) [(.n (.n (.n .u []) []) [(.n (.n .u []) [])])]) [(.n (.n (.n (.n .u []) []) []) [(.n (.n (.n .u []) []) [])]),(.n (.n (.n (.n .u []) []) [(.n (.n .u []) [])]) [(.n (.n (.n .u []) []) [])])]) [(.n (.n (.n (.n (.n .u []) []) [(.n (.n .u []) [])]) [(.n (.n (.n .u []) []) [])]) [])]) [(.n (.n (.n (.n (.n (.n .u []) []) [(.n (.n .u []) [])]) [(.n (.n (.n .u []) []) [])]) []) [])]) [(.n (.n (.n (.n (.n (.n (.n .u []) []) [(.n (.n .u []) [])]) [(.n (.n (.n .u []) []) [])]) []) []) [])]) [(.n (.n (.n (.n (.n (.n (.n (.n .u []) []) []) [(.n (.n (.n .u []) []) [(.n (.n .u []) [])])]) [(.n (.n (.n (.n .u []) []) []) [(.n (.n (.n .u []) []) [])]),(.n (.n (.n (.n .u []) []) [(.n (.n .u []) [])]) [(.n (.n (.n .u []) []) [])])]) [(.n (.n (.n (.n (.n .u []) []) [(.n (.n .u []) [])]) [(.n (.n (.n .u []) []) [])]) [])]) [(.n (.n (.n (.n (.n (.n .u []) []) [(.n (.n .u []) [])]) [(.n (.n (.n .u []) []) [])]) []) [])]) [(.n (.n (.n (.n (.n (.n (.n .u []) []) [(.n (.n .u []) [])]) [(.n (.n (.n .u []) []) [])]) []) []) [])]),(.n (.n (.n (.n (.n (.n (.n (.n .u []) []) [(.n (.n .u []) [])]) [(.n (.n (.n .u []) []) [])]) []) []) []) [(.n (.n (.n (.n (.n (.n (.n .u []) []) [(.n (.n .u []) [])]) [(.n (.n (.n .u []) []) [])]) []) []) [])])]),(.n (.n (.n (.n (.n (.n (.n (.n (.n .u []) []) [(.n (.n .u []) [])]) [(.n (.n (.n .u []) []) [])]) []) []) []) []) [(.n (.n (.n (.n (.n (.n (.n (.n .u []) []) [(.n (.n .u []) [])]) [(.n (.n (.n .u []) []) [])]) []) []) []) [(.n (.n (.n (.n (.n (.n (.n .u []) []) [(.n (.n .u []) [])]) [(.n (.n (.n .u []) []) [])]) []) []) [])])])]) fun t1=>
  il ((Option.isSome (getKV (.string y2.2.1) (putKV (.string (⟨#[116,114,117,101]⟩:ByteArray)) ((1:Int),((1:Int),(⟨#[]⟩:ByteArray))) (putKV (.string (⟨#[102,97,108,115,101]⟩:ByteArray)) ((1:Int),((0:Int),(⟨#[]⟩:ByteArray))) (putKV (.string (⟨#[110,117,108,108]⟩:ByteArray)) ((0:Int),((0:Int),(⟨#[]⟩:ByteArray))) ([]:List (Value×tValueT))))))),(Option.getD (getKV (.string y2.2.1) (putKV (.string (⟨#[116,114,117,101]⟩:ByteArray)) ((1:Int),((1:Int),(⟨#[]⟩:ByteArray))) (putKV (.string (⟨#[102,97,108,115,101]⟩:ByteArray)) ((1:Int),((0:Int),(⟨#[]⟩:ByteArray))) (putKV (.string (⟨#[110,117,108,108]⟩:ByteArray)) ((0:Int),((0:Int),(⟨#[]⟩:ByteArray))) ([]:List (Value×tValueT)))))) ((0:Int),((0:Int),(⟨#[]⟩:ByteArray)))).1,(Option.getD (getKV (.string y2.2.1) (putKV (.string (⟨#[116,114,117,101]⟩:ByteArray)) ((1:Int),((1:Int),(⟨#[]⟩:ByteArray))) (putKV (.string (⟨#[102,97,108,115,101]⟩:ByteArray)) ((1:Int),((0:Int),(⟨#[]⟩:ByteArray))) (putKV (.string (⟨#[110,117,108,108]⟩:ByteArray)) ((0:Int),((0:Int),(⟨#[]⟩:ByteArray))) ([]:List (Value×tValueT)))))) ((0:Int),((0:Int),(⟨#[]⟩:ByteArray)))).2.1,(Option.getD (getKV (.string y2.2.1) (putKV (.string (⟨#[116,114,117,101]⟩:ByteArray)) ((1:Int),((1:Int),(⟨#[]⟩:ByteArray))) (putKV (.string (⟨#[102,97,108,115,101]⟩:ByteArray)) ((1:Int),((0:Int),(⟨#[]⟩:ByteArray))) (putKV (.string (⟨#[110,117,108,108]⟩:ByteArray)) ((0:Int),((0:Int),(⟨#[]⟩:ByteArray))) ([]:List (Value×tValueT)))))) ((0:Int),((0:Int),(⟨#[]⟩:ByteArray)))).2.2,()))) fun (x7_4,o6_0_0_4,o6_0_1_4,o6_0_2_4,_)=>
  (bif x7_4 then
  some (.inl ((1:Int),(0:Int),o6_0_0_4,o6_0_1_4,o6_0_2_4,y2.2.2.2.2.2.1,()))
  else
  (ddl_column.F (y2.2.1,())).bind fun y5=>
  Option.bind (ddl_need.F (y5.2.1,())) fun zy6=>match zy6 with
  | .inl y6=>
  (some (.inl ((0:Int),y5.1,(0:Int),(0:Int),(⟨#[]⟩:ByteArray),y2.2.2.2.2.2.1,())))
  | .inr n7=>some (.inr n7)))))
  | .inr n8=>some (.inr n8))
theorem ddl_parser_step.ab:ddl_parser_step.b agT=ddl_parser_step.b agI:=by
  unfold ddl_parser_step.b
  simp only [agT_c,agI_c]
noncomputable def ddl_parser_step.B:=ddl_parser_step.b agI
noncomputable def ddl_parser_step.F:=stk ddl_parser_step.B
theorem ddl_parser_step.eq:ddl_parser_step.F=ddl_parser_step.B:=stk_eq _
theorem ddl_parser_step.k:Kp ddl_column.s ddl_parser_columnOf.q ddl_parser_step.l Tryz.f233 ddl_parser_step.d (ddl_parser_step.b agT):={}
noncomputable def ddl_parser_step.q:SqL:=ddl_parser_step.d.p [] ddl_parser_step.F::ddl_parser_columnOf.q
theorem ddl_parser_step.c:Ck ddl_column.s ddl_parser_step.q:=cPa ddl_column.c ddl_parser_step.k ddl_parser_step.ab
/-! (*levee/ddl.parser).expr -/
def ddl_parser_expr.d:Fe:=⟨207,1,⟨[(0,.v false [.ptr 0 0])],[(0,true,.box 214 [.sl 136 tTok])],[],1,[]⟩,⟨[(0,.v false [.ref 1001])],[(0,true,.box 214 [.sl 136 tTok]),(1001,false,.arr 77 tNode)],[],1002,[(0,0)]⟩,(.s none .n (.s none .n (.s none .n (.s none (.b (.l ⟨[(0,.v false [.ptr 1 0]),(3,.v false [.ref 0])],[(0,false,.arr 77 tNode),(1,true,.box 214 [.sl 136 tTok])],[],2,[]⟩ .n)) .n))))⟩
noncomputable def ddl_parser_expr.B:(List tTokT)×Unit→Option (((List tTokT)×(List tNodeT)×Unit)⊕Int):=fun (o0,_)=>
  (ddl_parser_take.F ([(⟨#[91]⟩:ByteArray)],o0,())).bind fun y1=>
  Option.bind (ddl_need.F (y1.1,())) fun zy2=>match zy2 with
  | .inl y2=>
  (loopM (S:=(List tNodeT)×(List tTokT)×Unit) (fun (o3_0,o0_0,_)=>
  (ddl_parser_take.F ([(⟨#[93]⟩:ByteArray)],o0_0,())).bind fun y3=>
  (bif (!y3.1) then
  Option.bind (ddl_parser_step.F (y3.2.1,())) fun zy4=>match zy4 with
  | .inl y4=>
  (ck (Nat.ble (o3_0.length+ [(y4.1,(y4.2.1,(y4.2.2.1,(y4.2.2.2.1,y4.2.2.2.2.1))))].length) 2932031007402)<|
  Option.bind (ddl_need.F ((decide (((o3_0++ [(y4.1,(y4.2.1,(y4.2.2.1,(y4.2.2.2.1,y4.2.2.2.2.1))))]).length:Int)≤(100:Int))),())) fun zy5=>match zy5 with
  | .inl y5=>
  (il ((o3_0++ [(y4.1,(y4.2.1,(y4.2.2.1,(y4.2.2.2.1,y4.2.2.2.2.1))))]),y4.2.2.2.2.2.1,()))
  | .inr n6=>ir (.inr n6))
  | .inr n7=>ir (.inr n7)
  else
  ir (.inl (y3.2.1,o3_0,())))) ([],y1.2.1,()))
  | .inr n8=>some (.inr n8)
noncomputable def ddl_parser_expr.F:=stk ddl_parser_expr.B
theorem ddl_parser_expr.eq:ddl_parser_expr.F=ddl_parser_expr.B:=stk_eq _
theorem ddl_parser_expr.k:Kp ddl_column.s ddl_parser_step.q [] Tryz.f207 ddl_parser_expr.d ddl_parser_expr.B:={}
noncomputable def ddl_parser_expr.q:SqL:=ddl_parser_expr.d.p [] ddl_parser_expr.F::ddl_parser_step.q
theorem ddl_parser_expr.c:Ck ddl_column.s ddl_parser_expr.q:=cP ddl_parser_step.c ddl_parser_expr.k
/-! (*levee/ddl.parser).table -/
def ddl_parser_table.d:Fe:=⟨175,1,⟨[(0,.v false [.ptr 0 0])],[(0,true,.box 214 [.sl 136 tTok])],[],1,[]⟩,⟨[(0,.v true [.str,.ref 1001,.ref 1002])],[(0,true,.box 214 [.sl 136 tTok]),(1001,false,.arr 43 tColumn),(1002,false,.arr 63 (.sl 77 tNode))],[],1003,[(0,0)]⟩,(.s none .n (.s none .n (.s none .n (.s none .n (.s none .n (.s (some ⟨[(3,.v false [.ptr 2 0])],[(0,true,.box 214 [.sl 136 tTok]),(1,true,.box 212 [.ptr 0 0]),(2,true,.box 41 [.str,.ref 3,.ref 4]),(3,false,.arr 43 tColumn),(4,false,.arr 63 (.sl 77 tNode))],[2],5,[(0,0),(1,1000)]⟩) (.b (.l ⟨[(1,.v false [.ptr 0 0]),(3,.v false [.ptr 2 0])],[(0,true,.box 212 [.ptr 1 0]),(1,true,.box 214 [.sl 136 tTok]),(2,true,.box 41 [.str,.ref 3,.ref 4]),(3,false,.arr 43 tColumn),(4,false,.arr 63 (.sl 77 tNode))],[2],5,[]⟩ (.s none .n (.b (.s (some ⟨[(1,.v false [.ptr 0 0]),(3,.v false [.ptr 2 0])],[(0,true,.box 212 [.ptr 1 0]),(1,true,.box 214 [.sl 136 tTok]),(2,true,.box 41 [.str,.ref 3,.ref 4]),(3,false,.arr 43 tColumn),(4,false,.arr 63 (.sl 77 tNode))],[2],5,[]⟩) .d .n))))) .n))))))⟩
noncomputable def ddl_parser_table.l:InT:=[(204,[(1,205)],Tryz.f204,(.s none .n (.s (some ⟨[(0,.v false [.ptr 3 0])],[(0,true,.box 41 [.str,.ref 1,.ref 2]),(1,false,.arr 43 tColumn),(2,false,.arr 63 (.sl 77 tNode)),(3,true,.box 214 [.sl 136 tTok])],[1,4],4,[(0,1003)]⟩) .n (.b (.l ⟨[(0,.v false [.ptr 3 0]),(4,.v false [.int .i64])],[(0,true,.box 41 [.str,.ref 1,.ref 2]),(1,false,.arr 43 tColumn),(2,false,.arr 63 (.sl 77 tNode)),(3,true,.box 214 [.sl 136 tTok])],[1],4,[(0,1003)]⟩ .n))))),(205,[],Tryz.f205,.d)]
noncomputable def ddl_parser_table.b (A:AgF):(List tTokT)×Unit→Option ((ByteArray×(List tTokT)×(List tColumnT)×(List (List tNodeT))×Unit)⊕Int):=fun (o0,_)=>
  Option.bind (ddl_parser_name.F (o0,())) fun zy1=>match zy1 with
  | .inl y1=>
  ((ddl_parser_take.F ([(⟨#[40]⟩:ByteArray)],y1.2.1,())).bind fun y2=>
  Option.bind (ddl_need.F (y2.1,())) fun zy3=>match zy3 with
  | .inl y3=>
  (jn (S:=ByteArray×(List tColumnT)×(List (List tNodeT))×(List tTokT)×Unit) (
  (A _ (.n (.n (.n (.n (.l [(.n (.n (.l [(.n (.n .u []) [])]) []) [])]) []) []) [(.n (.n (.l [(.n (.n (.l [(.n (.n .u []) [])]) []) [])]) []) [(.l [(.n (.n (.n (.l [(.n (.n .u []) [])]) []) []) [(.n (.n (.l [(.n (.n .u []) [])]) []) [])])])])]) [(.n (.n (.n (.l [(.n (.n (.l [(.n (.n .u []) [])]) []) [])]) []) [(.l [(.n (.n (.n (.l [(.n (.n .u []) [])]) []) []) [(.n (.n (.l [(.n (.n .u []) [])]) []) [])])])]) [(.l [(.n (.n (.n (.n (.l [(.n (.n .u []) [])]) []) []) [(.n (.n (.l [(.n (.n .u []) [])]) []) [])]) [(.n (.n (.n (.l [(.n (.n .u []) [])]) []) []) [])])])])]) fun t1=>
  Option.bind (ddl_parser_columnOf.F (y2.2.1,())) fun zy4=>match zy4 with
  | .inl y4=>
  ((A _ (t1.getD 0 .u) fun t2=>
  ck (Nat.ble [(y4.1,(y4.2.1,(y4.2.2.1,(y4.2.2.2.1,(y4.2.2.2.2.1,y4.2.2.2.2.2.1)))))].length 2513169434916)<|
  (A _ (t2.getD 0 .u) fun t3=>
  il (y1.1,[(y4.1,(y4.2.1,(y4.2.2.1,(y4.2.2.2.1,(y4.2.2.2.2.1,y4.2.2.2.2.2.1)))))],[],y4.2.2.2.2.2.2.1,()))))
  | .inr n5=>ir (.inr n5))) fun (ok_1_0_0_6,ok_1_0_1_6,ok_1_0_2_6,o0_0_6,_)=>
  loopM (S:=Int×ByteArray×(List tColumnT)×(List (List tNodeT))×(List tTokT)×Unit) (fun (x4,ok_1_0_0,ok_1_0_1,ok_1_0_2,o0_0,_)=>
  (ddl_parser_take.F ([(⟨#[44]⟩:ByteArray)],o0_0,())).bind fun y7=>
  (bif y7.1 then
  let e8:Int:=(wr (x4+(1:Int)))
  Option.bind (ddl_need.F ((decide (e8≤(40:Int))),())) fun zy9=>match zy9 with
  | .inl y9=>
  ((A _ (.n (.n (.n (.n (.l [(.n (.n (.l [(.n (.n .u []) [])]) []) [])]) []) []) [(.n (.n (.l [(.n (.n (.l [(.n (.n .u []) [])]) []) [])]) []) [(.l [(.n (.n (.n (.l [(.n (.n .u []) [])]) []) []) [(.n (.n (.l [(.n (.n .u []) [])]) []) [])])])])]) [(.n (.n (.n (.l [(.n (.n (.l [(.n (.n .u []) [])]) []) [])]) []) [(.l [(.n (.n (.n (.l [(.n (.n .u []) [])]) []) []) [(.n (.n (.l [(.n (.n .u []) [])]) []) [])])])]) [(.l [(.n (.n (.n (.n (.l [(.n (.n .u []) [])]) []) []) [(.n (.n (.l [(.n (.n .u []) [])]) []) [])]) [(.n (.n (.n (.l [(.n (.n .u []) [])]) []) []) [])])])])]) fun t1=>
  Option.bind (ddl_parser_columnOf.F (y7.2.1,())) fun zy10=>match zy10 with
  | .inl y10=>
  ((A _ (t1.getD 0 .u) fun t2=>
  ck (Nat.ble (ok_1_0_1.length+ [(y10.1,(y10.2.1,(y10.2.2.1,(y10.2.2.2.1,(y10.2.2.2.2.1,y10.2.2.2.2.2.1)))))].length) 2513169434916)<|
  (A _ (t2.getD 0 .u) fun t3=>
  il (e8,ok_1_0_0,(ok_1_0_1++ [(y10.1,(y10.2.1,(y10.2.2.1,(y10.2.2.2.1,(y10.2.2.2.2.1,y10.2.2.2.2.2.1)))))]),ok_1_0_2,y10.2.2.2.2.2.2.1,()))))
  | .inr n11=>ir (.inr n11)))
  | .inr n12=>ir (.inr n12)
  else
  Option.map Sum.inr ((ddl_parser_take.F ([(⟨#[41]⟩:ByteArray)],y7.2.1,())).bind fun y13=>
  Option.bind (ddl_need.F (y13.1,())) fun zy14=>match zy14 with
  | .inl y14=>
  (jn (S:=(List tTokT)×ByteArray×(List tColumnT)×(List (List tNodeT))×Unit) (
  loopM (S:=(List tTokT)×ByteArray×(List tColumnT)×(List (List tNodeT))×Unit) (fun (o1_0_0,o3_0_0,o3_0_1,o3_0_2,_)=>
  (ddl_parser_take.F ([(⟨#[99,104,101,99,107]⟩:ByteArray)],o1_0_0,())).bind fun y15=>
  (bif y15.1 then
  jn (S:=(List tTokT)×ByteArray×(List tColumnT)×(List (List tNodeT))×Unit) (
  (A _ (.n (.n (.n (.n (.l [(.n (.n (.l [(.n (.n .u []) [])]) []) [])]) []) []) [(.n (.n (.l [(.n (.n (.l [(.n (.n .u []) [])]) []) [])]) []) [(.l [(.n (.n (.n (.l [(.n (.n .u []) [])]) []) []) [(.n (.n (.l [(.n (.n .u []) [])]) []) [])])])])]) [(.n (.n (.n (.l [(.n (.n (.l [(.n (.n .u []) [])]) []) [])]) []) [(.l [(.n (.n (.n (.l [(.n (.n .u []) [])]) []) []) [(.n (.n (.l [(.n (.n .u []) [])]) []) [])])])]) [(.l [(.n (.n (.n (.n (.l [(.n (.n .u []) [])]) []) []) [(.n (.n (.l [(.n (.n .u []) [])]) []) [])]) [(.n (.n (.n (.l [(.n (.n .u []) [])]) []) []) [])])])])]) fun t1=>
  Option.bind (ddl_parser_expr.F (y15.2.1,())) fun zy16=>match zy16 with
  | .inl y16=>
  ((A _ (t1.getD 0 .u) fun t2=>
  ck (Nat.ble (o3_0_2.length+ [y16.2.1].length) 5864062014805)<|
  (A _ (t2.getD 0 .u) fun t3=>
  il (y16.1,o3_0_0,o3_0_1,(o3_0_2++ [y16.2.1]),()))))
  | .inr n17=>ir (.inr (.inr (.inr n17))))) fun (o1_0_0_18,o3_0_0_18,o3_0_1_18,o3_0_2_18,_)=>
  Option.bind (ddl_need.F ((decide ((o3_0_2_18.length:Int)≤(40:Int))),())) fun zy19=>match zy19 with
  | .inl y19=>
  (il (o1_0_0_18,o3_0_0_18,o3_0_1_18,o3_0_2_18,()))
  | .inr n20=>ir (.inr (.inr n20))
  else
  ir (.inl (y15.2.1,o3_0_0,o3_0_1,o3_0_2,())))) (y13.2.1,ok_1_0_0,ok_1_0_1,ok_1_0_2,())) fun (oin_0_21,o3_0_0_21,o3_0_1_21,o3_0_2_21,_)=>
  some (.inl (o3_0_0_21,oin_0_21,o3_0_1_21,o3_0_2_21,())))
  | .inr n22=>some (.inr n22)))) ((1:Int),ok_1_0_0_6,ok_1_0_1_6,ok_1_0_2_6,o0_0_6,()))
  | .inr n23=>some (.inr n23))
  | .inr n24=>some (.inr n24)
theorem ddl_parser_table.ab:ddl_parser_table.b agT=ddl_parser_table.b agI:=by
  unfold ddl_parser_table.b
  simp only [agT_c,agI_c]
noncomputable def ddl_parser_table.B:=ddl_parser_table.b agI
noncomputable def ddl_parser_table.F:=stk ddl_parser_table.B
theorem ddl_parser_table.eq:ddl_parser_table.F=ddl_parser_table.B:=stk_eq _
theorem ddl_parser_table.k:Kp ddl_column.s ddl_parser_expr.q ddl_parser_table.l Tryz.f175 ddl_parser_table.d (ddl_parser_table.b agT):={}
noncomputable def ddl_parser_table.q:SqL:=ddl_parser_table.d.p [] ddl_parser_table.F::ddl_parser_expr.q
theorem ddl_parser_table.c:Ck ddl_column.s ddl_parser_table.q:=cPa ddl_parser_expr.c ddl_parser_table.k ddl_parser_table.ab
/-! (*levee/ddl.parser).col -/
def ddl_parser_col.d:Fe:=⟨208,1,⟨[(0,.v false [.ptr 0 0])],[(0,true,.box 214 [.sl 136 tTok])],[],1,[]⟩,⟨[(0,.v false [.int .i64])],[(0,true,.box 214 [.sl 136 tTok])],[],1001,[(0,0)]⟩,(.s none .n (.s none .n (.s (some ⟨[],[],[3],0,[]⟩) .n .n)))⟩
noncomputable def ddl_parser_col.B:(List tTokT)×Unit→Option ((Int×(List tTokT)×Unit)⊕Int):=fun (o0,_)=>
  Option.bind (ddl_parser_next.F (o0,())) fun zy1=>match zy1 with
  | .inl y1=>
  (jn (S:=Unit) (
  (bif (y1.1==(1:Int)) then
  (bif (y1.2.2.1==(2:Int)) then
  (bif (decide (y1.2.2.2.1≥(0:Int))) then
  Option.bind (ddl_need.F ((decide (y1.2.2.2.1≤(99:Int))),())) fun zy2=>match zy2 with
  | .inl y2=>
  (il (()))
  | .inr n3=>ir (.inr n3)
  else
  Option.bind (ddl_need.F (false,())) fun zy4=>match zy4 with
  | .inl y4=>
  (il (()))
  | .inr n5=>ir (.inr n5))
  else
  Option.bind (ddl_need.F (false,())) fun zy6=>match zy6 with
  | .inl y6=>
  (il (()))
  | .inr n7=>ir (.inr n7))
  else
  Option.bind (ddl_need.F (false,())) fun zy8=>match zy8 with
  | .inl y8=>
  (il (()))
  | .inr n9=>ir (.inr n9))) fun (_)=>
  some (.inl (y1.2.2.2.1,y1.2.2.2.2.2.1,())))
  | .inr n11=>some (.inr n11)
noncomputable def ddl_parser_col.F:=stk ddl_parser_col.B
theorem ddl_parser_col.eq:ddl_parser_col.F=ddl_parser_col.B:=stk_eq _
theorem ddl_parser_col.k:Kp ddl_column.s ddl_parser_table.q [] Tryz.f208 ddl_parser_col.d ddl_parser_col.B:={}
noncomputable def ddl_parser_col.q:SqL:=ddl_parser_col.d.p [] ddl_parser_col.F::ddl_parser_table.q
theorem ddl_parser_col.c:Ck ddl_column.s ddl_parser_col.q:=cP ddl_parser_table.c ddl_parser_col.k
/-! (*levee/ddl.parser).view -/
def ddl_parser_view.d:Fe:=⟨176,1,⟨[(0,.v false [.ptr 0 0])],[(0,true,.box 214 [.sl 136 tTok])],[],1,[]⟩,⟨[(0,.v true [.str,.str,.str,.int .i64,.int .i64,.ref 1001,.ref 1002,.bool,.ref 1003])],[(0,true,.box 214 [.sl 136 tTok]),(1001,false,.arr 77 tNode),(1002,false,.arr 3 (.int .i64)),(1003,false,.arr 103 tAgg)],[],1004,[(0,0)]⟩,(.s none .n (.s none .n (.s none .n (.s none .n (.s (some ⟨[(1,.v false [.ptr 0 0]),(3,.v false [.ptr 2 0])],[(0,true,.box 212 [.ptr 1 0]),(1,true,.box 214 [.sl 136 tTok]),(2,true,.box 67 [.str,.str,.str,.int .i64,.int .i64,.ref 3,.ref 4,.bool,.ref 5]),(3,false,.arr 77 tNode),(4,false,.arr 3 (.int .i64)),(5,false,.arr 103 tAgg)],[2],6,[]⟩) .n (.s (some ⟨[(1,.v false [.ptr 0 0]),(3,.v false [.ptr 2 0])],[(0,true,.box 212 [.ptr 1 0]),(1,true,.box 214 [.sl 136 tTok]),(2,true,.box 67 [.str,.str,.str,.int .i64,.int .i64,.ref 3,.ref 4,.bool,.ref 5]),(3,false,.arr 77 tNode),(4,false,.arr 3 (.int .i64)),(5,false,.arr 103 tAgg)],[2],6,[]⟩) .n (.s none .n (.s (some ⟨[(1,.v false [.ptr 0 0]),(3,.v false [.ptr 2 0])],[(0,true,.box 212 [.ptr 1 0]),(1,true,.box 214 [.sl 136 tTok]),(2,true,.box 67 [.str,.str,.str,.int .i64,.int .i64,.ref 3,.ref 4,.bool,.ref 5]),(3,false,.arr 77 tNode),(4,false,.arr 3 (.int .i64)),(5,false,.arr 103 tAgg)],[2],6,[]⟩) .n .n))))))))⟩
noncomputable def ddl_parser_view.l:InT:=[(204,[(1,210)],Tryz.f204,(.s none .n (.s (some ⟨[(0,.v false [.ptr 4 0])],[(0,true,.box 67 [.str,.str,.str,.int .i64,.int .i64,.ref 1,.ref 2,.bool,.ref 3]),(1,false,.arr 77 tNode),(2,false,.arr 3 (.int .i64)),(3,false,.arr 103 tAgg),(4,true,.box 214 [.sl 136 tTok])],[1,4],5,[(0,1003)]⟩) .n (.b (.l ⟨[(0,.v false [.ptr 4 0]),(4,.v false [.int .i64])],[(0,true,.box 67 [.str,.str,.str,.int .i64,.int .i64,.ref 1,.ref 2,.bool,.ref 3]),(1,false,.arr 77 tNode),(2,false,.arr 3 (.int .i64)),(3,false,.arr 103 tAgg),(4,true,.box 214 [.sl 136 tTok])],[1],5,[(0,1003)]⟩ .n))))),(204,[(1,211)],Tryz.f204,(.s none .n (.s (some ⟨[(0,.v false [.ptr 4 0])],[(0,true,.box 67 [.str,.str,.str,.int .i64,.int .i64,.ref 1,.ref 2,.bool,.ref 3]),(1,false,.arr 77 tNode),(2,false,.arr 3 (.int .i64)),(3,false,.arr 103 tAgg),(4,true,.box 214 [.sl 136 tTok])],[1,4],5,[(0,1003)]⟩) .n (.b (.l ⟨[(0,.v false [.ptr 4 0]),(4,.v false [.int .i64])],[(0,true,.box 67 [.str,.str,.str,.int .i64,.int .i64,.ref 1,.ref 2,.bool,.ref 3]),(1,false,.arr 77 tNode),(2,false,.arr 3 (.int .i64)),(3,false,.arr 103 tAgg),(4,true,.box 214 [.sl 136 tTok])],[1],5,[(0,1003)]⟩ .n))))),(210,[],Tryz.f210,.d),(211,[],Tryz.f211,.n)]
noncomputable def ddl_parser_view.b (A:AgF):(List tTokT)×Unit→Option ((ByteArray×ByteArray×ByteArray×Int×Int×Bool×(List tTokT)×(List tNodeT)×(List Int)×(List tAggT)×Unit)⊕Int):=fun (o0,_)=>
  Option.bind (ddl_parser_name.F (o0,())) fun zy1=>match zy1 with
  | .inl y1=>
  ((ddl_parser_take.F ([(⟨#[102,114,111,109]⟩:ByteArray)],y1.2.1,())).bind fun y2=>
  Option.bind (ddl_need.F (y2.1,())) fun zy3=>match zy3 with
  | .inl y3=>
  (Option.bind (ddl_parser_name.F (y2.2.1,())) fun zy4=>match zy4 with
  | .inl y4=>
  (jn (S:=(List tTokT)×ByteArray×ByteArray×ByteArray×Int×Int×Bool×(List tNodeT)×(List Int)×(List tAggT)×Unit) (
  (ddl_parser_take.F ([(⟨#[106,111,105,110]⟩:ByteArray)],y4.2.1,())).bind fun y5=>
  (bif y5.1 then
  Option.bind (ddl_parser_name.F (y5.2.1,())) fun zy6=>match zy6 with
  | .inl y6=>
  ((ddl_parser_take.F ([(⟨#[111,110]⟩:ByteArray)],y6.2.1,())).bind fun y7=>
  Option.bind (ddl_need.F (y7.1,())) fun zy8=>match zy8 with
  | .inl y8=>
  (Option.bind (ddl_parser_col.F (y7.2.1,())) fun zy9=>match zy9 with
  | .inl y9=>
  (ck (ib (0:Int) 2)<|
  (ddl_parser_take.F ([(⟨#[61]⟩:ByteArray)],y9.2.1,())).bind fun y10=>
  Option.bind (ddl_need.F (y10.1,())) fun zy11=>match zy11 with
  | .inl y11=>
  (Option.bind (ddl_parser_col.F (y10.2.1,())) fun zy12=>match zy12 with
  | .inl y12=>
  (ck (ib (1:Int) 2)<|
  il (y12.2.1,y1.1,y4.1,y6.1,y9.1,y12.1,false,[],[],[],()))
  | .inr n13=>ir (.inr n13))
  | .inr n14=>ir (.inr n14))
  | .inr n15=>ir (.inr n15))
  | .inr n16=>ir (.inr n16))
  | .inr n17=>ir (.inr n17)
  else
  il (y5.2.1,y1.1,y4.1,(⟨#[]⟩:ByteArray),(0:Int),(0:Int),false,[],[],[],()))) fun (o1_0_0_18,o3_0_0_18,o3_0_1_18,o3_0_2_18,o3_0_3_18,o3_0_4_18,o3_0_7_18,o3_0_5_18,o3_0_6_18,o3_0_8_18,_)=>
  jn (S:=(List tTokT)×ByteArray×ByteArray×ByteArray×Int×Int×Bool×(List tNodeT)×(List Int)×(List tAggT)×Unit) (
  (ddl_parser_take.F ([(⟨#[119,104,101,114,101]⟩:ByteArray)],o1_0_0_18,())).bind fun y19=>
  (bif y19.1 then
  Option.bind (ddl_parser_expr.F (y19.2.1,())) fun zy20=>match zy20 with
  | .inl y20=>
  (il (y20.1,o3_0_0_18,o3_0_1_18,o3_0_2_18,o3_0_3_18,o3_0_4_18,o3_0_7_18,y20.2.1,o3_0_6_18,o3_0_8_18,()))
  | .inr n21=>ir (.inr n21)
  else
  il (y19.2.1,o3_0_0_18,o3_0_1_18,o3_0_2_18,o3_0_3_18,o3_0_4_18,o3_0_7_18,o3_0_5_18,o3_0_6_18,o3_0_8_18,()))) fun (o1_0_0_22,o3_0_0_22,o3_0_1_22,o3_0_2_22,o3_0_3_22,o3_0_4_22,o3_0_7_22,o3_0_5_22,o3_0_6_22,o3_0_8_22,_)=>
  (ddl_parser_take.F ([(⟨#[112,105,99,107]⟩:ByteArray)],o1_0_0_22,())).bind fun y23=>
  Option.bind (ddl_need.F (y23.1,())) fun zy24=>match zy24 with
  | .inl y24=>
  (jn (S:=(List tTokT)×ByteArray×ByteArray×ByteArray×Int×Int×Bool×(List tNodeT)×(List Int)×(List tAggT)×Unit) (
  (bif (decide ((y23.2.1.length:Int)>(0:Int))) then
  (ddl_parser_is.F ([(⟨#[103,114,111,117,112]⟩:ByteArray)],y23.2.1,())).bind fun y25=>
  (bif (!y25.1) then
  jn (S:=ByteArray×ByteArray×ByteArray×Int×Int×Bool×(List tNodeT)×(List Int)×(List tAggT)×(List tTokT)×Unit) (
  (A _ (.n (.n (.n (.n (.l [(.n (.n (.l [(.n (.n .u []) [])]) []) [])]) []) []) [(.n (.n (.l [(.n (.n (.l [(.n (.n .u []) [])]) []) [])]) []) [(.l [(.n (.n (.n (.l [(.n (.n .u []) [])]) []) []) [(.n (.n (.l [(.n (.n .u []) [])]) []) [])])])])]) [(.n (.n (.n (.l [(.n (.n (.l [(.n (.n .u []) [])]) []) [])]) []) [(.l [(.n (.n (.n (.l [(.n (.n .u []) [])]) []) []) [(.n (.n (.l [(.n (.n .u []) [])]) []) [])])])]) [(.l [(.n (.n (.n (.n (.l [(.n (.n .u []) [])]) []) []) [(.n (.n (.l [(.n (.n .u []) [])]) []) [])]) [(.n (.n (.n (.l [(.n (.n .u []) [])]) []) []) [])])])])]) fun t1=>
  Option.bind (ddl_parser_col.F (y25.2.1,())) fun zy26=>match zy26 with
  | .inl y26=>
  ((A _ (t1.getD 0 .u) fun t2=>
  ck (Nat.ble (o3_0_6_22.length+ [y26.1].length) 17592186044416)<|
  (A _ (t2.getD 0 .u) fun t3=>
  il (o3_0_0_22,o3_0_1_22,o3_0_2_22,o3_0_3_22,o3_0_4_22,o3_0_7_22,o3_0_5_22,(o3_0_6_22++ [y26.1]),o3_0_8_22,y26.2.1,()))))
  | .inr n27=>ir (.inr (.inr n27)))) fun (ok_1_0_0_28,ok_1_0_1_28,ok_1_0_2_28,ok_1_0_3_28,ok_1_0_4_28,ok_1_0_7_28,ok_1_0_5_28,ok_1_0_6_28,ok_1_0_8_28,o0_0_28,_)=>
  loopM (S:=Int×ByteArray×ByteArray×ByteArray×Int×Int×Bool×(List tNodeT)×(List Int)×(List tAggT)×(List tTokT)×Unit) (fun (x4,ok_1_0_0,ok_1_0_1,ok_1_0_2,ok_1_0_3,ok_1_0_4,ok_1_0_7,ok_1_0_5,ok_1_0_6,ok_1_0_8,o0_0,_)=>
  (ddl_parser_take.F ([(⟨#[44]⟩:ByteArray)],o0_0,())).bind fun y29=>
  (bif y29.1 then
  let e30:Int:=(wr (x4+(1:Int)))
  Option.bind (ddl_need.F ((decide (e30≤(40:Int))),())) fun zy31=>match zy31 with
  | .inl y31=>
  ((A _ (.n (.n (.n (.n (.l [(.n (.n (.l [(.n (.n .u []) [])]) []) [])]) []) []) [(.n (.n (.l [(.n (.n (.l [(.n (.n .u []) [])]) []) [])]) []) [(.l [(.n (.n (.n (.l [(.n (.n .u []) [])]) []) []) [(.n (.n (.l [(.n (.n .u []) [])]) []) [])])])])]) [(.n (.n (.n (.l [(.n (.n (.l [(.n (.n .u []) [])]) []) [])]) []) [(.l [(.n (.n (.n (.l [(.n (.n .u []) [])]) []) []) [(.n (.n (.l [(.n (.n .u []) [])]) []) [])])])]) [(.l [(.n (.n (.n (.n (.l [(.n (.n .u []) [])]) []) []) [(.n (.n (.l [(.n (.n .u []) [])]) []) [])]) [(.n (.n (.n (.l [(.n (.n .u []) [])]) []) []) [])])])])]) fun t1=>
  Option.bind (ddl_parser_col.F (y29.2.1,())) fun zy32=>match zy32 with
  | .inl y32=>
  ((A _ (t1.getD 0 .u) fun t2=>
  ck (Nat.ble (ok_1_0_6.length+ [y32.1].length) 17592186044416)<|
  (A _ (t2.getD 0 .u) fun t3=>
  il (e30,ok_1_0_0,ok_1_0_1,ok_1_0_2,ok_1_0_3,ok_1_0_4,ok_1_0_7,ok_1_0_5,(ok_1_0_6++ [y32.1]),ok_1_0_8,y32.2.1,()))))
  | .inr n33=>ir (.inr (.inr n33))))
  | .inr n34=>ir (.inr (.inr n34))
  else
  ir (.inl (y29.2.1,ok_1_0_0,ok_1_0_1,ok_1_0_2,ok_1_0_3,ok_1_0_4,ok_1_0_7,ok_1_0_5,ok_1_0_6,ok_1_0_8,())))) ((1:Int),ok_1_0_0_28,ok_1_0_1_28,ok_1_0_2_28,ok_1_0_3_28,ok_1_0_4_28,ok_1_0_7_28,ok_1_0_5_28,ok_1_0_6_28,ok_1_0_8_28,o0_0_28,())
  else
  il (y25.2.1,o3_0_0_22,o3_0_1_22,o3_0_2_22,o3_0_3_22,o3_0_4_22,o3_0_7_22,o3_0_5_22,o3_0_6_22,o3_0_8_22,()))
  else
  il (y23.2.1,o3_0_0_22,o3_0_1_22,o3_0_2_22,o3_0_3_22,o3_0_4_22,o3_0_7_22,o3_0_5_22,o3_0_6_22,o3_0_8_22,()))) fun (o1_0_0_35,o3_0_0_35,o3_0_1_35,o3_0_2_35,o3_0_3_35,o3_0_4_35,o3_0_7_35,o3_0_5_35,o3_0_6_35,o3_0_8_35,_)=>
  (ddl_parser_take.F ([(⟨#[103,114,111,117,112]⟩:ByteArray)],o1_0_0_35,())).bind fun y36=>
  (bif y36.1 then
  (bif (decide ((y36.2.1.length:Int)>(0:Int))) then
  jn (S:=ByteArray×ByteArray×ByteArray×Int×Int×Bool×(List tNodeT)×(List Int)×(List tAggT)×(List tTokT)×Unit) (
  Option.bind (ddl_parser_one.F ([(⟨#[99,111,117,110,116]⟩:ByteArray),(⟨#[115,117,109]⟩:ByteArray),(⟨#[109,105,110]⟩:ByteArray),(⟨#[109,97,120]⟩:ByteArray)],y36.2.1,())) fun zy37=>match zy37 with
  | .inl y37=>
  ((bif (y37.1 !=(0:Int)) then
  Option.bind (ddl_parser_col.F (y37.2.1,())) fun zy38=>match zy38 with
  | .inl y38=>
  (ck (Nat.ble (o3_0_8_35.length+ [(y37.1,y38.1)].length) 8796093022208)<|
  il (o3_0_0_35,o3_0_1_35,o3_0_2_35,o3_0_3_35,o3_0_4_35,y36.1,o3_0_5_35,o3_0_6_35,(o3_0_8_35++ [(y37.1,y38.1)]),y38.2.1,()))
  | .inr n39=>ir (.inr n39)
  else
  ck (Nat.ble (o3_0_8_35.length+ [(y37.1,(0:Int))].length) 8796093022208)<|
  il (o3_0_0_35,o3_0_1_35,o3_0_2_35,o3_0_3_35,o3_0_4_35,y36.1,o3_0_5_35,o3_0_6_35,(o3_0_8_35++ [(y37.1,(0:Int))]),y37.2.1,())))
  | .inr n40=>ir (.inr n40)) fun (ok_1_1_0_41,ok_1_1_1_41,ok_1_1_2_41,ok_1_1_3_41,ok_1_1_4_41,ok_1_1_7_41,ok_1_1_5_41,ok_1_1_6_41,ok_1_1_8_41,o0_0_41,_)=>
  loopM (S:=Int×ByteArray×ByteArray×ByteArray×Int×Int×Bool×(List tNodeT)×(List Int)×(List tAggT)×(List tTokT)×Unit) (fun (x4,ok_1_1_0,ok_1_1_1,ok_1_1_2,ok_1_1_3,ok_1_1_4,ok_1_1_7,ok_1_1_5,ok_1_1_6,ok_1_1_8,o0_0,_)=>
  (ddl_parser_take.F ([(⟨#[44]⟩:ByteArray)],o0_0,())).bind fun y42=>
  (bif y42.1 then
  let e43:Int:=(wr (x4+(1:Int)))
  Option.bind (ddl_need.F ((decide (e43≤(40:Int))),())) fun zy44=>match zy44 with
  | .inl y44=>
  (Option.bind (ddl_parser_one.F ([(⟨#[99,111,117,110,116]⟩:ByteArray),(⟨#[115,117,109]⟩:ByteArray),(⟨#[109,105,110]⟩:ByteArray),(⟨#[109,97,120]⟩:ByteArray)],y42.2.1,())) fun zy45=>match zy45 with
  | .inl y45=>
  ((bif (y45.1 !=(0:Int)) then
  Option.bind (ddl_parser_col.F (y45.2.1,())) fun zy46=>match zy46 with
  | .inl y46=>
  (ck (Nat.ble (ok_1_1_8.length+ [(y45.1,y46.1)].length) 8796093022208)<|
  il (e43,ok_1_1_0,ok_1_1_1,ok_1_1_2,ok_1_1_3,ok_1_1_4,ok_1_1_7,ok_1_1_5,ok_1_1_6,(ok_1_1_8++ [(y45.1,y46.1)]),y46.2.1,()))
  | .inr n47=>ir (.inr n47)
  else
  ck (Nat.ble (ok_1_1_8.length+ [(y45.1,(0:Int))].length) 8796093022208)<|
  il (e43,ok_1_1_0,ok_1_1_1,ok_1_1_2,ok_1_1_3,ok_1_1_4,ok_1_1_7,ok_1_1_5,ok_1_1_6,(ok_1_1_8++ [(y45.1,(0:Int))]),y45.2.1,())))
  | .inr n48=>ir (.inr n48))
  | .inr n49=>ir (.inr n49)
  else
  ir (.inl (ok_1_1_0,ok_1_1_1,ok_1_1_2,ok_1_1_3,ok_1_1_4,ok_1_1_7,y42.2.1,ok_1_1_5,ok_1_1_6,ok_1_1_8,())))) ((1:Int),ok_1_1_0_41,ok_1_1_1_41,ok_1_1_2_41,ok_1_1_3_41,ok_1_1_4_41,ok_1_1_7_41,ok_1_1_5_41,ok_1_1_6_41,ok_1_1_8_41,o0_0_41,())
  else
  some (.inl (o3_0_0_35,o3_0_1_35,o3_0_2_35,o3_0_3_35,o3_0_4_35,y36.1,y36.2.1,o3_0_5_35,o3_0_6_35,o3_0_8_35,())))
  else
  some (.inl (o3_0_0_35,o3_0_1_35,o3_0_2_35,o3_0_3_35,o3_0_4_35,y36.1,y36.2.1,o3_0_5_35,o3_0_6_35,o3_0_8_35,()))))
  | .inr n50=>some (.inr n50))
  | .inr n51=>some (.inr n51))
  | .inr n52=>some (.inr n52))
  | .inr n53=>some (.inr n53)
theorem ddl_parser_view.ab:ddl_parser_view.b agT=ddl_parser_view.b agI:=by
  unfold ddl_parser_view.b
  simp only [agT_c,agI_c]
noncomputable def ddl_parser_view.B:=ddl_parser_view.b agI
noncomputable def ddl_parser_view.F:=stk ddl_parser_view.B
theorem ddl_parser_view.eq:ddl_parser_view.F=ddl_parser_view.B:=stk_eq _
theorem ddl_parser_view.k:Kp ddl_column.s ddl_parser_col.q ddl_parser_view.l Tryz.f176 ddl_parser_view.d (ddl_parser_view.b agT):={}
noncomputable def ddl_parser_view.q:SqL:=ddl_parser_view.d.p [] ddl_parser_view.F::ddl_parser_col.q
theorem ddl_parser_view.c:Ck ddl_column.s ddl_parser_view.q:=cPa ddl_parser_col.c ddl_parser_view.k ddl_parser_view.ab
/-! levee/ddl.Parse -/
def ddl_Parse.d:Fe:=⟨144,1,⟨[(0,.v false [.str])],[],[],0,[]⟩,⟨[(0,.tup [(true,[.int .i64,.str,.ref 1000,.ref 1001,.str,.str,.str,.int .i64,.int .i64,.ref 1002,.ref 1003,.bool,.ref 1004]),(false,[.int .i64])])],[(1000,false,.arr 43 tColumn),(1001,false,.arr 63 (.sl 77 tNode)),(1002,false,.arr 77 tNode),(1003,false,.arr 3 (.int .i64)),(1004,false,.arr 103 tAgg)],[],1005,[]⟩,.n⟩
noncomputable def ddl_Parse.B:ByteArray×Unit→Option (Int×ByteArray×ByteArray×ByteArray×ByteArray×Int×Int×Bool×Int×(List tColumnT)×(List (List tNodeT))×(List tNodeT)×(List Int)×(List tAggT)×Unit):=fun (p0,_)=>
  (lex_Lex.F (p0,())).bind fun y1=>
  (bif (y1.1 !=(0:Int)) then
  some ((0:Int),(⟨#[]⟩:ByteArray),(⟨#[]⟩:ByteArray),(⟨#[]⟩:ByteArray),(⟨#[]⟩:ByteArray),(0:Int),(0:Int),false,y1.1,[],[],[],[],[],())
  else
  Option.bind (ddl_parser_one.F ([(⟨#[116,97,98,108,101]⟩:ByteArray),(⟨#[118,105,101,119]⟩:ByteArray)],y1.2.1,())) fun zy2=>match zy2 with
  | .inl y2=>
  ((bif (y2.1==(0:Int)) then
  Option.bind (ddl_parser_table.F (y2.2.1,())) fun zy3=>match zy3 with
  | .inl y3=>
  (Option.bind (ddl_need.F (((y3.2.1.length:Int)==(0:Int)),())) fun zy4=>match zy4 with
  | .inl y4=>
  (some (y2.1,y3.1,(⟨#[]⟩:ByteArray),(⟨#[]⟩:ByteArray),(⟨#[]⟩:ByteArray),(0:Int),(0:Int),false,(0:Int),y3.2.2.1,y3.2.2.2.1,[],[],[],()))
  | .inr n5=>some ((0:Int),(⟨#[]⟩:ByteArray),(⟨#[]⟩:ByteArray),(⟨#[]⟩:ByteArray),(⟨#[]⟩:ByteArray),(0:Int),(0:Int),false,n5,[],[],[],[],[],()))
  | .inr n6=>some ((0:Int),(⟨#[]⟩:ByteArray),(⟨#[]⟩:ByteArray),(⟨#[]⟩:ByteArray),(⟨#[]⟩:ByteArray),(0:Int),(0:Int),false,n6,[],[],[],[],[],())
  else
  Option.bind (ddl_parser_view.F (y2.2.1,())) fun zy7=>match zy7 with
  | .inl y7=>
  (Option.bind (ddl_need.F (((y7.2.2.2.2.2.2.1.length:Int)==(0:Int)),())) fun zy8=>match zy8 with
  | .inl y8=>
  (some (y2.1,(⟨#[]⟩:ByteArray),y7.1,y7.2.1,y7.2.2.1,y7.2.2.2.1,y7.2.2.2.2.1,y7.2.2.2.2.2.1,(0:Int),[],[],y7.2.2.2.2.2.2.2.1,y7.2.2.2.2.2.2.2.2.1,y7.2.2.2.2.2.2.2.2.2.1,()))
  | .inr n9=>some ((0:Int),(⟨#[]⟩:ByteArray),(⟨#[]⟩:ByteArray),(⟨#[]⟩:ByteArray),(⟨#[]⟩:ByteArray),(0:Int),(0:Int),false,n9,[],[],[],[],[],()))
  | .inr n10=>some ((0:Int),(⟨#[]⟩:ByteArray),(⟨#[]⟩:ByteArray),(⟨#[]⟩:ByteArray),(⟨#[]⟩:ByteArray),(0:Int),(0:Int),false,n10,[],[],[],[],[],())))
  | .inr n11=>some ((0:Int),(⟨#[]⟩:ByteArray),(⟨#[]⟩:ByteArray),(⟨#[]⟩:ByteArray),(⟨#[]⟩:ByteArray),(0:Int),(0:Int),false,n11,[],[],[],[],[],()))
noncomputable def ddl_Parse.F:=stk ddl_Parse.B
theorem ddl_Parse.eq:ddl_Parse.F=ddl_Parse.B:=stk_eq _
noncomputable def ddl_Parse.pre:List (Code×H):=[(lC (Tryz.f144.body.getD .skip),.n),(lC (rC' (Tryz.f144.body.getD .skip)),.n),(lC (rC' (rC' (Tryz.f144.body.getD .skip))),.n)]
noncomputable def ddl_Parse.E:Code:=(rC' (rC' (rC' (rC' (Tryz.f144.body.getD .skip)))))
noncomputable def ddl_Parse.G:Code:=(rC' (Tryz.f173.body.getD .skip))
def ddl_Parse.hE:H:=.n
def ddl_Parse.hG:H:=.n
theorem ddl_Parse.ev (x:TS ddl_Parse.d.si):evDef (cx ddl_column.s ddl_parser_view.q) (inl3 (cx ddl_column.s ddl_parser_view.q) []) ddl_Parse.pre ddl_Parse.E ddl_Parse.hE ddl_Parse.G ddl_Parse.hG 2 3 15 5 Tryz.f144.results.toList ddl_Parse.d.si ddl_Parse.d.so x=ddl_Parse.B x:=by kernel_rfl
theorem ddl_Parse.ins:InOk PP []:=by repeat' first|exact trivial|refine And.intro ?_ ?_|kernel_rfl
theorem ddl_Parse.ok:SpecOk PP 144 ⟨1,ddl_Parse.d.si,ddl_Parse.d.so,ddl_Parse.F⟩:=
  def_stk (pre:=ddl_Parse.pre) (i:=4) (om:=opC (lC (rC' (rC' (rC' (Tryz.f144.body.getD .skip))))) 0) (od:=opC (lC (rC' (rC' (rC' (Tryz.f144.body.getD .skip))))) 1) (E:=ddl_Parse.E) (f:=173) (p:=2) (q:=3) (t:=15) (ir:=0) (tr:=5) (or:=opC (lC (Tryz.f173.body.getD .skip)) 0) (G:=ddl_Parse.G) ddl_parser_view.c (inl3_ok ddl_parser_view.c mixed ddl_Parse.ins) mixed Tryz.func144 (by kernel_rfl) ⟨by kernel_rfl,by kernel_rfl,by kernel_rfl,by kernel_rfl,by kernel_rfl,by kernel_rfl⟩ Tryz.func173 (by kernel_rfl) (by kernel_rfl) ⟨⟨#[],by kernel_rfl⟩,by kernel_rfl,by kernel_rfl⟩ (by kernel_rfl) (by kernel_rfl) (by kernel_rfl) (by kernel_rfl) ddl_Parse.hE ddl_Parse.hG (by kernel_rfl) ddl_Parse.ev
noncomputable def ddl_Parse.s:SpL:=ddl_Parse.d.e [] ddl_Parse.F::ddl_column.s
theorem ddl_Parse.c:Ck ddl_Parse.s ddl_parser_view.q:=CxOk.consS ddl_parser_view.c [] ⟨_,Tryz.func144,by kernel_rfl,by decide⟩ ddl_Parse.ok
/-! slices.Equal[levee/api.Expr,levee/api.Node] -/
def slices_Equal_api_Expr_api_Node.d:Fe:=⟨180,2,⟨[(0,.v false [.sl 77 tNode]),(1,.v false [.sl 77 tNode])],[],[],0,[]⟩,⟨[(0,.v false [.bool])],[],[],1000,[]⟩,(.s none .n (.s none .n (.s none (.s none .n (.b (.l ⟨[(13,.v false [.int .i64])],[],[0,1,12],0,[]⟩ .n))) .n)))⟩
noncomputable def slices_Equal_api_Expr_api_Node.B:(List tNodeT)×(List tNodeT)×Unit→Option (Bool×Unit):=fun (p0,p1,_)=>
  (bif ((p0.length:Int) !=(p1.length:Int)) then
  some (false,())
  else
  loopM (S:=Int×Unit) (fun (x13,_)=>
  (bif (decide (x13<(p0.length:Int))) then
  ck (ib x13 p0.length)<|
  let e1:tNodeT:=(gt p0 x13 tNode.z)
  ck (ib x13 p1.length)<|
  let e2:tNodeT:=(gt p1 x13 tNode.z)
  (bif (!(Ty.eq tNode e1 e2)) then
  ir (false,())
  else
  let e3:Int:=(wr (x13+(1:Int)))
  il (e3,()))
  else
  ir (true,()))) ((0:Int),()))
noncomputable def slices_Equal_api_Expr_api_Node.F:=stk slices_Equal_api_Expr_api_Node.B
theorem slices_Equal_api_Expr_api_Node.eq:slices_Equal_api_Expr_api_Node.F=slices_Equal_api_Expr_api_Node.B:=stk_eq _
theorem slices_Equal_api_Expr_api_Node.k:Kk ddl_Parse.s ddl_parser_view.q [] Tryz.f180 slices_Equal_api_Expr_api_Node.d slices_Equal_api_Expr_api_Node.B:={}
noncomputable def slices_Equal_api_Expr_api_Node.s:SpL:=slices_Equal_api_Expr_api_Node.d.e [] slices_Equal_api_Expr_api_Node.F::ddl_Parse.s
theorem slices_Equal_api_Expr_api_Node.c:Ck slices_Equal_api_Expr_api_Node.s ddl_parser_view.q:=cS ddl_Parse.c slices_Equal_api_Expr_api_Node.k
/-! levee/ddl.Same$1 -/
def ddl_Same_1.d:Fe:=⟨179,2,⟨[(0,.v false [.sl 77 tNode]),(1,.v false [.sl 77 tNode])],[],[],0,[]⟩,⟨[(0,.v false [.bool])],[],[],1000,[]⟩,.n⟩
noncomputable def ddl_Same_1.B:(List tNodeT)×(List tNodeT)×Unit→Option (Bool×Unit):=fun (p0,p1,_)=>
  (slices_Equal_api_Expr_api_Node.F (p0,p1,())).bind fun y1=>
  some (y1.1,())
noncomputable def ddl_Same_1.F:=stk ddl_Same_1.B
theorem ddl_Same_1.eq:ddl_Same_1.F=ddl_Same_1.B:=stk_eq _
theorem ddl_Same_1.k:Kk slices_Equal_api_Expr_api_Node.s ddl_parser_view.q [] Tryz.f179 ddl_Same_1.d ddl_Same_1.B:={}
noncomputable def ddl_Same_1.s:SpL:=ddl_Same_1.d.e [] ddl_Same_1.F::slices_Equal_api_Expr_api_Node.s
theorem ddl_Same_1.c:Ck ddl_Same_1.s ddl_parser_view.q:=cS slices_Equal_api_Expr_api_Node.c ddl_Same_1.k
/-! slices.Equal[[]levee/api.Column,levee/api.Column] -/
def slices_Equal_sl_api_Column_api_Column.d:Fe:=⟨181,2,⟨[(0,.v false [.sl 43 tColumn]),(1,.v false [.sl 43 tColumn])],[],[],0,[]⟩,⟨[(0,.v false [.bool])],[],[],1000,[]⟩,(.s none .n (.s none .n (.s none (.s none .n (.b (.l ⟨[(13,.v false [.int .i64])],[],[0,1,12],0,[]⟩ .n))) .n)))⟩
noncomputable def slices_Equal_sl_api_Column_api_Column.B:(List tColumnT)×(List tColumnT)×Unit→Option (Bool×Unit):=fun (p0,p1,_)=>
  (bif ((p0.length:Int) !=(p1.length:Int)) then
  some (false,())
  else
  loopM (S:=Int×Unit) (fun (x13,_)=>
  (bif (decide (x13<(p0.length:Int))) then
  ck (ib x13 p0.length)<|
  let e1:tColumnT:=(gt p0 x13 tColumn.z)
  ck (ib x13 p1.length)<|
  let e2:tColumnT:=(gt p1 x13 tColumn.z)
  (bif (!(Ty.eq tColumn e1 e2)) then
  ir (false,())
  else
  let e3:Int:=(wr (x13+(1:Int)))
  il (e3,()))
  else
  ir (true,()))) ((0:Int),()))
noncomputable def slices_Equal_sl_api_Column_api_Column.F:=stk slices_Equal_sl_api_Column_api_Column.B
theorem slices_Equal_sl_api_Column_api_Column.eq:slices_Equal_sl_api_Column_api_Column.F=slices_Equal_sl_api_Column_api_Column.B:=stk_eq _
theorem slices_Equal_sl_api_Column_api_Column.k:Kk ddl_Same_1.s ddl_parser_view.q [] Tryz.f181 slices_Equal_sl_api_Column_api_Column.d slices_Equal_sl_api_Column_api_Column.B:={}
noncomputable def slices_Equal_sl_api_Column_api_Column.s:SpL:=slices_Equal_sl_api_Column_api_Column.d.e [] slices_Equal_sl_api_Column_api_Column.F::ddl_Same_1.s
theorem slices_Equal_sl_api_Column_api_Column.c:Ck slices_Equal_sl_api_Column_api_Column.s ddl_parser_view.q:=cS ddl_Same_1.c slices_Equal_sl_api_Column_api_Column.k
/-! slices.Equal[[]int,int] -/
def slices_Equal_sl_int_int.d:Fe:=⟨182,2,⟨[(0,.v false [.sl 3 (.int .i64)]),(1,.v false [.sl 3 (.int .i64)])],[],[],0,[]⟩,⟨[(0,.v false [.bool])],[],[],1000,[]⟩,(.s none .n (.s none .n (.s none (.s none .n (.b (.l ⟨[(13,.v false [.int .i64])],[],[0,1,12],0,[]⟩ .n))) .n)))⟩
noncomputable def slices_Equal_sl_int_int.B:(List Int)×(List Int)×Unit→Option (Bool×Unit):=fun (p0,p1,_)=>
  (bif ((p0.length:Int) !=(p1.length:Int)) then
  some (false,())
  else
  loopM (S:=Int×Unit) (fun (x13,_)=>
  (bif (decide (x13<(p0.length:Int))) then
  ck (ib x13 p0.length)<|
  let e1:Int:=(gt p0 x13 (0:Int))
  ck (ib x13 p1.length)<|
  let e2:Int:=(gt p1 x13 (0:Int))
  (bif (e1 !=e2) then
  ir (false,())
  else
  let e3:Int:=(wr (x13+(1:Int)))
  il (e3,()))
  else
  ir (true,()))) ((0:Int),()))
noncomputable def slices_Equal_sl_int_int.F:=stk slices_Equal_sl_int_int.B
theorem slices_Equal_sl_int_int.eq:slices_Equal_sl_int_int.F=slices_Equal_sl_int_int.B:=stk_eq _
theorem slices_Equal_sl_int_int.k:Kk slices_Equal_sl_api_Column_api_Column.s ddl_parser_view.q [] Tryz.f182 slices_Equal_sl_int_int.d slices_Equal_sl_int_int.B:={}
noncomputable def slices_Equal_sl_int_int.s:SpL:=slices_Equal_sl_int_int.d.e [] slices_Equal_sl_int_int.F::slices_Equal_sl_api_Column_api_Column.s
theorem slices_Equal_sl_int_int.c:Ck slices_Equal_sl_int_int.s ddl_parser_view.q:=cS slices_Equal_sl_api_Column_api_Column.c slices_Equal_sl_int_int.k
/-! slices.Equal[[]levee/api.Agg,levee/api.Agg] -/
def slices_Equal_sl_api_Agg_api_Agg.d:Fe:=⟨183,2,⟨[(0,.v false [.sl 103 tAgg]),(1,.v false [.sl 103 tAgg])],[],[],0,[]⟩,⟨[(0,.v false [.bool])],[],[],1000,[]⟩,(.s none .n (.s none .n (.s none (.s none .n (.b (.l ⟨[(13,.v false [.int .i64])],[],[0,1,12],0,[]⟩ .n))) .n)))⟩
noncomputable def slices_Equal_sl_api_Agg_api_Agg.B:(List tAggT)×(List tAggT)×Unit→Option (Bool×Unit):=fun (p0,p1,_)=>
  (bif ((p0.length:Int) !=(p1.length:Int)) then
  some (false,())
  else
  loopM (S:=Int×Unit) (fun (x13,_)=>
  (bif (decide (x13<(p0.length:Int))) then
  ck (ib x13 p0.length)<|
  let e1:tAggT:=(gt p0 x13 tAgg.z)
  ck (ib x13 p1.length)<|
  let e2:tAggT:=(gt p1 x13 tAgg.z)
  (bif (!(Ty.eq tAgg e1 e2)) then
  ir (false,())
  else
  let e3:Int:=(wr (x13+(1:Int)))
  il (e3,()))
  else
  ir (true,()))) ((0:Int),()))
noncomputable def slices_Equal_sl_api_Agg_api_Agg.F:=stk slices_Equal_sl_api_Agg_api_Agg.B
theorem slices_Equal_sl_api_Agg_api_Agg.eq:slices_Equal_sl_api_Agg_api_Agg.F=slices_Equal_sl_api_Agg_api_Agg.B:=stk_eq _
theorem slices_Equal_sl_api_Agg_api_Agg.k:Kk slices_Equal_sl_int_int.s ddl_parser_view.q [] Tryz.f183 slices_Equal_sl_api_Agg_api_Agg.d slices_Equal_sl_api_Agg_api_Agg.B:={}
noncomputable def slices_Equal_sl_api_Agg_api_Agg.s:SpL:=slices_Equal_sl_api_Agg_api_Agg.d.e [] slices_Equal_sl_api_Agg_api_Agg.F::slices_Equal_sl_int_int.s
theorem slices_Equal_sl_api_Agg_api_Agg.c:Ck slices_Equal_sl_api_Agg_api_Agg.s ddl_parser_view.q:=cS slices_Equal_sl_int_int.c slices_Equal_sl_api_Agg_api_Agg.k
/-! levee/ddl.Same -/
def ddl_Same.d:Fe:=⟨145,2,⟨[(0,.v true [.int .i64,.str,.sl 43 tColumn,.sl 63 (.sl 77 tNode),.str,.str,.str,.int .i64,.int .i64,.sl 77 tNode,.sl 3 (.int .i64),.bool,.sl 103 tAgg]),(1,.v true [.int .i64,.str,.sl 43 tColumn,.sl 63 (.sl 77 tNode),.str,.str,.str,.int .i64,.int .i64,.sl 77 tNode,.sl 3 (.int .i64),.bool,.sl 103 tAgg])],[],[],0,[]⟩,⟨[(0,.v false [.bool])],[],[],1000,[]⟩,(.s none .n (.s none .n (.s none .n (.s (some ⟨[(10,.v false [.bool])],[],[2,3,7,8],0,[]⟩) .n (.s (some ⟨[(11,.v false [.bool])],[],[2,3,10],0,[]⟩) .n .n)))))⟩
noncomputable def ddl_Same.l:InT:=[(178,[],Tryz.f178,(.s none .n (.s none .n (.s none (.s none .n (.b (.l ⟨[(17,.v false [.int .i64])],[],[1,2,15,16],0,[]⟩ (.s none .n (.s none .n (.s none (.b (.s none .n (.s none .n (.s (some ⟨[(30,.v false [.bool])],[],[1,2,15,16,17],0,[]⟩) .n .n)))) .n)))))) .n))))]
noncomputable def ddl_Same.B:Int×ByteArray×(List tColumnT)×(List (List tNodeT))×ByteArray×ByteArray×ByteArray×Int×Int×(List tNodeT)×(List Int)×Bool×(List tAggT)×Int×ByteArray×(List tColumnT)×(List (List tNodeT))×ByteArray×ByteArray×ByteArray×Int×Int×(List tNodeT)×(List Int)×Bool×(List tAggT)×Unit→Option (Bool×Unit):=fun (p0_0,p0_1,p0_2,p0_3,p0_4,p0_5,p0_6,p0_7,p0_8,p0_9,p0_10,p0_11,p0_12,p1_0,p1_1,p1_2,p1_3,p1_4,p1_5,p1_6,p1_7,p1_8,p1_9,p1_10,p1_11,p1_12,_)=>
  (bif ((p0_3.length:Int) !=(p1_3.length:Int)) then
  jn (S:=Bool×Unit) (
  (bif (sq p0_1 p1_1) then
  (slices_Equal_sl_api_Column_api_Column.F (p0_2,p1_2,())).bind fun y1=>
  (bif y1.1 then
  il (false,())
  else
  il (false,()))
  else
  il (false,()))) fun (x10_2,_)=>
  jn (S:=Bool×Unit) (
  (bif (sq p0_4 p1_4) then
  (bif (sq p0_5 p1_5) then
  (bif (sq p0_6 p1_6) then
  (bif (Ty.eq tAgg (p0_7,p0_8) (p1_7,p1_8)) then
  (slices_Equal_api_Expr_api_Node.F (p0_9,p1_9,())).bind fun y3=>
  (bif y3.1 then
  (slices_Equal_sl_int_int.F (p0_10,p1_10,())).bind fun y4=>
  (bif y4.1 then
  (bif (p0_11==p1_11) then
  (slices_Equal_sl_api_Agg_api_Agg.F (p0_12,p1_12,())).bind fun y5=>
  il (y5.1,())
  else
  il (false,()))
  else
  il (false,()))
  else
  il (false,()))
  else
  il (false,()))
  else
  il (false,()))
  else
  il (false,()))
  else
  il (false,()))) fun (x11_6,_)=>
  (bif (p0_0==p1_0) then
  (bif x10_2 then
  some (x11_6,())
  else
  some (false,()))
  else
  some (false,()))
  else
  loopM (S:=Int×Unit) (fun (x17,_)=>
  (bif (decide (x17<(p0_3.length:Int))) then
  ck (ib x17 p0_3.length)<|
  let e7:(List tNodeT):=(gt p0_3 x17 [])
  ck (ib x17 p1_3.length)<|
  let e8:(List tNodeT):=(gt p1_3 x17 [])
  jn (S:=Bool×Unit) (
  (ddl_Same_1.F (e7,e8,())).bind fun y9=>
  il ((!y9.1),())) fun (x30_10,_)=>
  (bif x30_10 then
  Option.map Sum.inr (jn (S:=Bool×Unit) (
  (bif (sq p0_1 p1_1) then
  (slices_Equal_sl_api_Column_api_Column.F (p0_2,p1_2,())).bind fun y11=>
  (bif y11.1 then
  il (false,())
  else
  il (false,()))
  else
  il (false,()))) fun (x10_12,_)=>
  jn (S:=Bool×Unit) (
  (bif (sq p0_4 p1_4) then
  (bif (sq p0_5 p1_5) then
  (bif (sq p0_6 p1_6) then
  (bif (Ty.eq tAgg (p0_7,p0_8) (p1_7,p1_8)) then
  (slices_Equal_api_Expr_api_Node.F (p0_9,p1_9,())).bind fun y13=>
  (bif y13.1 then
  (slices_Equal_sl_int_int.F (p0_10,p1_10,())).bind fun y14=>
  (bif y14.1 then
  (bif (p0_11==p1_11) then
  (slices_Equal_sl_api_Agg_api_Agg.F (p0_12,p1_12,())).bind fun y15=>
  il (y15.1,())
  else
  il (false,()))
  else
  il (false,()))
  else
  il (false,()))
  else
  il (false,()))
  else
  il (false,()))
  else
  il (false,()))
  else
  il (false,()))) fun (x11_16,_)=>
  (bif (p0_0==p1_0) then
  (bif x10_12 then
  some (x11_16,())
  else
  some (false,()))
  else
  some (false,())))
  else
  let e17:Int:=(wr (x17+(1:Int)))
  il (e17,()))
  else
  Option.map Sum.inr (jn (S:=Bool×Unit) (
  (bif (sq p0_1 p1_1) then
  (slices_Equal_sl_api_Column_api_Column.F (p0_2,p1_2,())).bind fun y18=>
  (bif y18.1 then
  il (true,())
  else
  il (false,()))
  else
  il (false,()))) fun (x10_19,_)=>
  jn (S:=Bool×Unit) (
  (bif (sq p0_4 p1_4) then
  (bif (sq p0_5 p1_5) then
  (bif (sq p0_6 p1_6) then
  (bif (Ty.eq tAgg (p0_7,p0_8) (p1_7,p1_8)) then
  (slices_Equal_api_Expr_api_Node.F (p0_9,p1_9,())).bind fun y20=>
  (bif y20.1 then
  (slices_Equal_sl_int_int.F (p0_10,p1_10,())).bind fun y21=>
  (bif y21.1 then
  (bif (p0_11==p1_11) then
  (slices_Equal_sl_api_Agg_api_Agg.F (p0_12,p1_12,())).bind fun y22=>
  il (y22.1,())
  else
  il (false,()))
  else
  il (false,()))
  else
  il (false,()))
  else
  il (false,()))
  else
  il (false,()))
  else
  il (false,()))
  else
  il (false,()))) fun (x11_23,_)=>
  (bif (p0_0==p1_0) then
  (bif x10_19 then
  some (x11_23,())
  else
  some (false,()))
  else
  some (false,()))))) ((0:Int),()))
noncomputable def ddl_Same.F:=stk ddl_Same.B
theorem ddl_Same.eq:ddl_Same.F=ddl_Same.B:=stk_eq _
theorem ddl_Same.k:Kk slices_Equal_sl_api_Agg_api_Agg.s ddl_parser_view.q ddl_Same.l Tryz.f145 ddl_Same.d ddl_Same.B:={}
noncomputable def ddl_Same.s:SpL:=ddl_Same.d.e [] ddl_Same.F::slices_Equal_sl_api_Agg_api_Agg.s
theorem ddl_Same.c:Ck ddl_Same.s ddl_parser_view.q:=cS slices_Equal_sl_api_Agg_api_Agg.c ddl_Same.k
/-! levee/ddl.Print -/
def ddl_Print.d:Fe:=⟨118,1,⟨[(0,.v true [.int .i64,.str,.sl 43 tColumn,.sl 63 (.sl 77 tNode),.str,.str,.str,.int .i64,.int .i64,.sl 77 tNode,.sl 3 (.int .i64),.bool,.sl 103 tAgg])],[],[],0,[]⟩,⟨[(0,.v false [.str])],[],[],1000,[]⟩,(.s none .n (.s none .n (.s (some ⟨[(3,.v false [.ptr 0 0])],[(0,true,.box 183 [.ref 1]),(1,false,.arr 9 .str)],[1],2,[]⟩) .n .n)))⟩
noncomputable def ddl_Print.B:Int×ByteArray×(List tColumnT)×(List (List tNodeT))×ByteArray×ByteArray×ByteArray×Int×Int×(List tNodeT)×(List Int)×Bool×(List tAggT)×Unit→Option (ByteArray×Unit):=fun (p0_0,p0_1,p0_2,p0_3,p0_4,p0_5,p0_6,p0_7,p0_8,p0_9,p0_10,p0_11,p0_12,_)=>
  jn (S:=(List ByteArray)×Unit) (
  (bif (p0_0==(0:Int)) then
  (ddl_printer_table.F (p0_1,p0_2,p0_3,[],())).bind fun y1=>
  il (y1.1,())
  else
  (ddl_printer_view.F (p0_4,p0_5,p0_6,p0_7,p0_8,p0_9,p0_10,p0_11,p0_12,[],())).bind fun y2=>
  il (y2.1,()))) fun (o3_0_0_3,_)=>
  (strings_Join.F (o3_0_0_3,(⟨#[32]⟩:ByteArray),())).bind fun y4=>
  (bif (decide ((y4.1.size:Int)>(20000:Int))) then
  some ((⟨#[]⟩:ByteArray),())
  else
  (ddl_Parse.F (y4.1,())).bind fun y5=>
  (bif (y5.2.2.2.2.2.2.2.2.1 !=(0:Int)) then
  some ((⟨#[]⟩:ByteArray),())
  else
  (ddl_Same.F (p0_0,p0_1,p0_2,p0_3,p0_4,p0_5,p0_6,p0_7,p0_8,p0_9,p0_10,p0_11,p0_12,y5.1,y5.2.1,y5.2.2.2.2.2.2.2.2.2.1,y5.2.2.2.2.2.2.2.2.2.2.1,y5.2.2.1,y5.2.2.2.1,y5.2.2.2.2.1,y5.2.2.2.2.2.1,y5.2.2.2.2.2.2.1,y5.2.2.2.2.2.2.2.2.2.2.2.1,y5.2.2.2.2.2.2.2.2.2.2.2.2.1,y5.2.2.2.2.2.2.2.1,y5.2.2.2.2.2.2.2.2.2.2.2.2.2.1,())).bind fun y6=>
  (bif (!y6.1) then
  some ((⟨#[]⟩:ByteArray),())
  else
  some (y4.1,()))))
noncomputable def ddl_Print.F:=stk ddl_Print.B
theorem ddl_Print.eq:ddl_Print.F=ddl_Print.B:=stk_eq _
theorem ddl_Print.k:Kk ddl_Same.s ddl_parser_view.q [] Tryz.f118 ddl_Print.d ddl_Print.B:={}
noncomputable def ddl_Print.s:SpL:=ddl_Print.d.e [] ddl_Print.F::ddl_Same.s
theorem ddl_Print.c:Ck ddl_Print.s ddl_parser_view.q:=cS ddl_Same.c ddl_Print.k
/-! levee/ddl.May -/
def ddl_May.d:Fe:=⟨100,1,⟨[(0,.v true [.int .i64,.str,.sl 43 tColumn,.sl 63 (.sl 77 tNode),.str,.str,.str,.int .i64,.int .i64,.sl 77 tNode,.sl 3 (.int .i64),.bool,.sl 103 tAgg])],[],[],0,[]⟩,⟨[(0,.v false [.bool])],[],[],1000,[]⟩,.n⟩
noncomputable def ddl_May.B:Int×ByteArray×(List tColumnT)×(List (List tNodeT))×ByteArray×ByteArray×ByteArray×Int×Int×(List tNodeT)×(List Int)×Bool×(List tAggT)×Unit→Option (Bool×Unit):=fun (p0_0,p0_1,p0_2,p0_3,p0_4,p0_5,p0_6,p0_7,p0_8,p0_9,p0_10,p0_11,p0_12,_)=>
  (ddl_Print.F (p0_0,p0_1,p0_2,p0_3,p0_4,p0_5,p0_6,p0_7,p0_8,p0_9,p0_10,p0_11,p0_12,())).bind fun y1=>
  some ((!sq y1.1 (⟨#[]⟩:ByteArray)),())
noncomputable def ddl_May.F:=stk ddl_May.B
theorem ddl_May.eq:ddl_May.F=ddl_May.B:=stk_eq _
theorem ddl_May.k:Kk ddl_Print.s ddl_parser_view.q [] Tryz.f100 ddl_May.d ddl_May.B:={}
noncomputable def ddl_May.s:SpL:=ddl_May.d.e [] ddl_May.F::ddl_Print.s
theorem ddl_May.c:Ck ddl_May.s ddl_parser_view.q:=cS ddl_Print.c ddl_May.k
/-! levee/schema.Name -/
def schema_Name.d:Fe:=⟨49,1,⟨[(0,.v true [.int .i64,.str,.sl 43 tColumn,.sl 63 (.sl 77 tNode),.str,.str,.str,.int .i64,.int .i64,.sl 77 tNode,.sl 3 (.int .i64),.bool,.sl 103 tAgg])],[],[],0,[]⟩,⟨[(0,.v false [.str])],[],[],1000,[]⟩,.n⟩
noncomputable def schema_Name.B:Int×ByteArray×(List tColumnT)×(List (List tNodeT))×ByteArray×ByteArray×ByteArray×Int×Int×(List tNodeT)×(List Int)×Bool×(List tAggT)×Unit→Option (ByteArray×Unit):=fun (p0_0,p0_1,p0_2,p0_3,p0_4,p0_5,p0_6,p0_7,p0_8,p0_9,p0_10,p0_11,p0_12,_)=>
  (bif (p0_0==(0:Int)) then
  some (p0_1,())
  else
  some (p0_4,()))
noncomputable def schema_Name.F:=stk schema_Name.B
theorem schema_Name.eq:schema_Name.F=schema_Name.B:=stk_eq _
theorem schema_Name.k:Kk ddl_May.s ddl_parser_view.q [] Tryz.f49 schema_Name.d schema_Name.B:={}
noncomputable def schema_Name.s:SpL:=schema_Name.d.e [] schema_Name.F::ddl_May.s
theorem schema_Name.c:Ck schema_Name.s ddl_parser_view.q:=cS ddl_May.c schema_Name.k
/-! levee/schema.Find -/
def schema_Find.d:Fe:=⟨27,2,⟨[(0,.v false [.sl 69 tDef]),(1,.v false [.str])],[],[],0,[]⟩,⟨[(0,.v false [.int .i64])],[],[],1000,[]⟩,.n⟩
noncomputable def schema_Find.l:InT:=[(47,[(1,48)],Tryz.f47,(.s none .n (.s none (.s none .n (.b (.l ⟨[(8,.v false [.int .i64])],[],[0,1,7],0,[]⟩ (.s none .n (.s none .n (.s none (.b (.s none .n (.s (some ⟨[(16,.v false [.bool])],[],[0,1,5,7,8],0,[]⟩) .n .n))) .n)))))) .n))),(48,[],Tryz.f48,.n)]
noncomputable def schema_Find.B:(List tDefT)×ByteArray×Unit→Option (Int×Unit):=fun (p0,p1,_)=>
  loopM (S:=Int×Unit) (fun (x8,_)=>
  (bif (decide (x8<(p0.length:Int))) then
  jn (S:=Bool×Unit) (
  ck (ib x8 p0.length)<|
  let e1:tDefT:=(gt p0 x8 tDef.z)
  (schema_Name.F (e1.1,e1.2.1.1,e1.2.1.2.1,e1.2.1.2.2,e1.2.2.1,e1.2.2.2.1,e1.2.2.2.2.1,e1.2.2.2.2.2.1.1,e1.2.2.2.2.2.1.2,e1.2.2.2.2.2.2.1,e1.2.2.2.2.2.2.2.1,e1.2.2.2.2.2.2.2.2.1,e1.2.2.2.2.2.2.2.2.2,())).bind fun y2=>
  il ((sq y2.1 p1),())) fun (x16_3,_)=>
  (bif x16_3 then
  ir (x8,())
  else
  let e4:Int:=(wr (x8+(1:Int)))
  il (e4,()))
  else
  ir ((-1:Int),()))) ((0:Int),())
noncomputable def schema_Find.F:=stk schema_Find.B
theorem schema_Find.eq:schema_Find.F=schema_Find.B:=stk_eq _
theorem schema_Find.k:Kk schema_Name.s ddl_parser_view.q schema_Find.l Tryz.f27 schema_Find.d schema_Find.B:={}
noncomputable def schema_Find.s:SpL:=schema_Find.d.e [] schema_Find.F::schema_Name.s
theorem schema_Find.c:Ck schema_Find.s ddl_parser_view.q:=cS schema_Name.c schema_Find.k
/-! math/bits.Mul32 -/
def math_bits_Mul32.d:Fe:=⟨212,2,⟨[(0,.v false [.int .u32]),(1,.v false [.int .u32])],[],[],0,[]⟩,⟨[(0,.tup [(false,[.int .u32]),(false,[.int .u32])])],[],[],1000,[]⟩,.n⟩
noncomputable def math_bits_Mul32.B:Int×Int×Unit→Option (Int×Int×Unit):=fun (p0,p1,_)=>
  let e1:Int:=(IntKind.u64.wrap ((IntKind.u64.wrap (p0))*(IntKind.u64.wrap (p1))))
  ck (!decide ((32:Int)<0))<|
  some ((IntKind.u32.wrap ((Int.fdiv e1 (2^min (Int.toNat (32:Int)) IntKind.u64.bits)))),(IntKind.u32.wrap (e1)),())
noncomputable def math_bits_Mul32.F:=stk math_bits_Mul32.B
theorem math_bits_Mul32.eq:math_bits_Mul32.F=math_bits_Mul32.B:=stk_eq _
theorem math_bits_Mul32.k:Kk schema_Find.s ddl_parser_view.q [] Tryz.f212 math_bits_Mul32.d math_bits_Mul32.B:={}
noncomputable def math_bits_Mul32.s:SpL:=math_bits_Mul32.d.e [] math_bits_Mul32.F::schema_Find.s
theorem math_bits_Mul32.c:Ck math_bits_Mul32.s ddl_parser_view.q:=cS schema_Find.c math_bits_Mul32.k
/-! math/bits.Mul64 -/
def math_bits_Mul64.d:Fe:=⟨193,2,⟨[(0,.v false [.int .u64]),(1,.v false [.int .u64])],[],[],0,[]⟩,⟨[(0,.tup [(false,[.int .u64]),(false,[.int .u64])])],[],[],1000,[]⟩,.n⟩
noncomputable def math_bits_Mul64.B:Int×Int×Unit→Option (Int×Int×Unit):=fun (p0,p1,_)=>
  let e1:Int:=(IntKind.u64.wrap (((BitVec.ofInt IntKind.u64.bits p0&&&BitVec.ofInt IntKind.u64.bits (4294967295:Int)).toNat:Nat)))
  ck (!decide ((32:Int)<0))<|
  let e2:Int:=(IntKind.u64.wrap (((BitVec.ofInt IntKind.u64.bits p1&&&BitVec.ofInt IntKind.u64.bits (4294967295:Int)).toNat:Nat)))
  ck (!decide ((32:Int)<0))<|
  let e3:Int:=(IntKind.u64.wrap (e1*e2))
  let e4:Int:=(IntKind.u64.wrap ((Int.fdiv p0 (2^min (Int.toNat (32:Int)) IntKind.u64.bits))*e2))
  ck (!decide ((32:Int)<0))<|
  let e5:Int:=(IntKind.u64.wrap (e4+(Int.fdiv e3 (2^min (Int.toNat (32:Int)) IntKind.u64.bits))))
  let e6:Int:=(IntKind.u64.wrap (((BitVec.ofInt IntKind.u64.bits e5&&&BitVec.ofInt IntKind.u64.bits (4294967295:Int)).toNat:Nat)))
  ck (!decide ((32:Int)<0))<|
  let e7:Int:=(IntKind.u64.wrap (e1*(Int.fdiv p1 (2^min (Int.toNat (32:Int)) IntKind.u64.bits))))
  let e8:Int:=(IntKind.u64.wrap (e6+e7))
  let e9:Int:=(IntKind.u64.wrap ((Int.fdiv p0 (2^min (Int.toNat (32:Int)) IntKind.u64.bits))*(Int.fdiv p1 (2^min (Int.toNat (32:Int)) IntKind.u64.bits))))
  let e10:Int:=(IntKind.u64.wrap (e9+(Int.fdiv e5 (2^min (Int.toNat (32:Int)) IntKind.u64.bits))))
  ck (!decide ((32:Int)<0))<|
  let e11:Int:=(IntKind.u64.wrap (e10+(Int.fdiv e8 (2^min (Int.toNat (32:Int)) IntKind.u64.bits))))
  let e12:Int:=(IntKind.u64.wrap (p0*p1))
  some (e11,e12,())
noncomputable def math_bits_Mul64.F:=stk math_bits_Mul64.B
theorem math_bits_Mul64.eq:math_bits_Mul64.F=math_bits_Mul64.B:=stk_eq _
theorem math_bits_Mul64.k:Kk math_bits_Mul32.s ddl_parser_view.q [] Tryz.f193 math_bits_Mul64.d math_bits_Mul64.B:={}
noncomputable def math_bits_Mul64.s:SpL:=math_bits_Mul64.d.e [] math_bits_Mul64.F::math_bits_Mul32.s
theorem math_bits_Mul64.c:Ck math_bits_Mul64.s ddl_parser_view.q:=cS math_bits_Mul32.c math_bits_Mul64.k
/-! math/bits.Mul -/
def math_bits_Mul.d:Fe:=⟨184,2,⟨[(0,.v false [.int .u64]),(1,.v false [.int .u64])],[],[],0,[]⟩,⟨[(0,.tup [(false,[.int .u64]),(false,[.int .u64])])],[],[],1000,[]⟩,.n⟩
noncomputable def math_bits_Mul.B:Int×Int×Unit→Option (Int×Int×Unit):=fun (p0,p1,_)=>
  (math_bits_Mul64.F (p0,p1,())).bind fun y1=>
  some (y1.1,y1.2.1,())
noncomputable def math_bits_Mul.F:=stk math_bits_Mul.B
theorem math_bits_Mul.eq:math_bits_Mul.F=math_bits_Mul.B:=stk_eq _
theorem math_bits_Mul.k:Kk math_bits_Mul64.s ddl_parser_view.q [] Tryz.f184 math_bits_Mul.d math_bits_Mul.B:={}
noncomputable def math_bits_Mul.s:SpL:=math_bits_Mul.d.e [] math_bits_Mul.F::math_bits_Mul64.s
theorem math_bits_Mul.c:Ck math_bits_Mul.s ddl_parser_view.q:=cS math_bits_Mul64.c math_bits_Mul.k
/-! slices.Repeat[[]bool,bool] -/
def slices_Repeat_sl_bool_bool.d:Fe:=⟨146,2,⟨[(0,.v false [.sl 4 .bool]),(1,.v false [.int .i64])],[],[],0,[]⟩,⟨[(0,.v false [.ref 1000])],[(1000,false,.arr 4 .bool)],[],1001,[]⟩,(.s none .n (.s (some ⟨[],[],[0,1],0,[]⟩) .n (.s none .n (.s (some ⟨[],[],[0,6],0,[]⟩) .n (.s none .n (.s none .n (.s none (.b (.l ⟨[(7,.v false [.ref 0]),(8,.v false [.int .i64])],[(0,true,.arr 4 .bool)],[],1,[]⟩ .n)) .n)))))))⟩
noncomputable def slices_Repeat_sl_bool_bool.B:(List Bool)×Int×Unit→Option ((List Bool)×Unit):=fun (p0,p1,_)=>
  jn (S:=Unit) (
  (bif (decide (p1<(0:Int))) then
  none
  else
  il (()))) fun (_)=>
  (math_bits_Mul.F ((IntKind.u64.wrap ((p0.length:Int))),(IntKind.u64.wrap (p1)),())).bind fun y2=>
  jn (S:=Unit) (
  (bif (decide (y2.1>(0:Int))) then
  none
  else
  (bif (decide (y2.2.1>(9223372036854775807:Int))) then
  none
  else
  il (())))) fun (_)=>
  ck (decide (0≤(wr (y2.2.1)))&&(decide ((wr (y2.2.1))=(wr (y2.2.1)))&&Nat.ble (Int.toNat (wr (y2.2.1))) 140737488355328))<|
  loopM (S:=Int×(List Bool)×Unit) (fun (x8,o7_0,_)=>
  (bif (decide (x8<(o7_0.length:Int))) then
  ck (sb x8 (o7_0.length:Int) o7_0.length)<|
  ck (sb (0:Int) x8 o7_0.length)<|
  let e4:Int:=(wr (x8+((Nat.min (List.length (List.take (Int.toNat x8-Int.toNat (0:Int):Nat) (List.drop (Int.toNat (0:Int)) o7_0))) (Int.toNat (o7_0.length:Int)-Int.toNat x8:Nat)):Int)))
  il (e4,(List.take (Int.toNat x8) o7_0++List.take (Nat.min (List.length (List.take (Int.toNat x8-Int.toNat (0:Int):Nat) (List.drop (Int.toNat (0:Int)) o7_0))) (Int.toNat (o7_0.length:Int)-Int.toNat x8:Nat)) (List.take (Int.toNat x8-Int.toNat (0:Int):Nat) (List.drop (Int.toNat (0:Int)) o7_0))++List.drop ((Int.toNat x8)+(Nat.min (List.length (List.take (Int.toNat x8-Int.toNat (0:Int):Nat) (List.drop (Int.toNat (0:Int)) o7_0))) (Int.toNat (o7_0.length:Int)-Int.toNat x8:Nat))) o7_0),())
  else
  ir (o7_0,()))) (((Nat.min (List.length p0) (List.replicate (Int.toNat (wr (y2.2.1))) false).length):Int),(List.take 0 (List.replicate (Int.toNat (wr (y2.2.1))) false)++List.take (Nat.min (List.length p0) (List.replicate (Int.toNat (wr (y2.2.1))) false).length) p0++List.drop (0+(Nat.min (List.length p0) (List.replicate (Int.toNat (wr (y2.2.1))) false).length)) (List.replicate (Int.toNat (wr (y2.2.1))) false)),())
noncomputable def slices_Repeat_sl_bool_bool.F:=stk slices_Repeat_sl_bool_bool.B
theorem slices_Repeat_sl_bool_bool.eq:slices_Repeat_sl_bool_bool.F=slices_Repeat_sl_bool_bool.B:=stk_eq _
theorem slices_Repeat_sl_bool_bool.k:Kk math_bits_Mul.s ddl_parser_view.q [] Tryz.f146 slices_Repeat_sl_bool_bool.d slices_Repeat_sl_bool_bool.B:={}
noncomputable def slices_Repeat_sl_bool_bool.s:SpL:=slices_Repeat_sl_bool_bool.d.e [] slices_Repeat_sl_bool_bool.F::math_bits_Mul.s
theorem slices_Repeat_sl_bool_bool.c:Ck slices_Repeat_sl_bool_bool.s ddl_parser_view.q:=cS math_bits_Mul.c slices_Repeat_sl_bool_bool.k
/-! levee/schema.Joined -/
def schema_Joined.d:Fe:=⟨125,2,⟨[(0,.v false [.sl 69 tDef]),(1,.v true [.str,.str,.str,.int .i64,.int .i64,.sl 77 tNode,.sl 3 (.int .i64),.bool,.sl 103 tAgg])],[],[],0,[]⟩,⟨[(0,.v false [.ref 1000])],[(1000,false,.arr 3 (.int .i64))],[],1001,[]⟩,.n⟩
/-! levee/schema.Cols -/
def schema_Cols.d:Fe:=⟨119,2,⟨[(0,.v false [.sl 69 tDef]),(1,.v true [.int .i64,.str,.sl 43 tColumn,.sl 63 (.sl 77 tNode),.str,.str,.str,.int .i64,.int .i64,.sl 77 tNode,.sl 3 (.int .i64),.bool,.sl 103 tAgg])],[],[],0,[]⟩,⟨[(0,.tup [(false,[.ref 1000]),(false,[.ref 1001])])],[(1000,false,.arr 3 (.int .i64)),(1001,false,.arr 4 .bool)],[],1002,[]⟩,(.s none .n (.s none .n (.s none .n (.s (some ⟨[(6,.v false [.ref 0])],[(0,false,.arr 3 (.int .i64))],[0,3],1,[]⟩) (.s none .n (.c (.s none (.s none .n (.b (.l ⟨[(6,.v false [.ref 0]),(7,.v false [.ref 1]),(23,.v false [.int .i64])],[(0,false,.arr 3 (.int .i64)),(1,false,.arr 4 .bool)],[21,22],2,[]⟩ .n))) .n) .n)) (.s none .n (.s (some ⟨[(6,.v false [.ref 0])],[(0,false,.arr 3 (.int .i64))],[3,10],1,[]⟩) (.s none .n (.b (.l ⟨[(6,.v false [.ref 0]),(48,.v false [.int .i64])],[(0,false,.arr 3 (.int .i64))],[3,10,46,47],1,[]⟩ .n))) (.s (some ⟨[(6,.v false [.ref 0])],[(0,false,.arr 3 (.int .i64))],[],1,[]⟩) (.s none .n (.b (.l ⟨[(6,.v false [.ref 0]),(64,.v false [.int .i64])],[(0,false,.arr 3 (.int .i64))],[10,62,63],1,[]⟩ .n))) .n)))))))⟩
noncomputable def schema_Cols.b (f:TS schema_Joined.d.si→Option (TS schema_Joined.d.so)):(List tDefT)×Int×ByteArray×(List tColumnT)×(List (List tNodeT))×ByteArray×ByteArray×ByteArray×Int×Int×(List tNodeT)×(List Int)×Bool×(List tAggT)×Unit→Option ((List Int)×(List Bool)×Unit):=fun (p0,p1_0,p1_1,p1_2,p1_3,p1_4,p1_5,p1_6,p1_7,p1_8,p1_9,p1_10,p1_11,p1_12,_)=>
  jn (S:=(List Int)×Unit) (
  (bif (p1_0==(0:Int)) then
  loopM (S:=Int×(List Int)×(List Bool)×Unit) (fun (x23,o6_0,o7_0,_)=>
  (bif (decide (x23<(p1_2.length:Int))) then
  ck (ib x23 p1_2.length)<|
  let e1:tColumnT:=(gt p1_2 x23 tColumn.z)
  ck (Nat.ble (o6_0.length+ [e1.2.1].length) 17592186044416)<|
  ck (Nat.ble (o7_0.length+ [e1.2.2.1].length) 140737488355328)<|
  let e2:Int:=(wr (x23+(1:Int)))
  il (e2,(o6_0++ [e1.2.1]),(o7_0++ [e1.2.2.1]),())
  else
  ir (.inr (o6_0,o7_0,())))) ((0:Int),[],[],())
  else
  il ([],()))) fun (o6_0_3,_)=>
  (f (p0,p1_4,p1_5,p1_6,p1_7,p1_8,p1_9,p1_10,p1_11,p1_12,())).bind fun y4=>
  jn (S:=(List Int)×Unit) (
  loopM (S:=Int×(List Int)×Unit) (fun (x48,o6_0,_)=>
  (bif (decide (x48<(p1_10.length:Int))) then
  ck (ib x48 p1_10.length)<|
  let e5:Int:=(gt p1_10 x48 (0:Int))
  ck (ib e5 y4.1.length)<|
  let e6:Int:=(List.getD y4.1 (Int.toNat e5) (0:Int))
  ck (Nat.ble (o6_0.length+ [e6].length) 17592186044416)<|
  let e7:Int:=(wr (x48+(1:Int)))
  il (e7,(o6_0++ [e6]),())
  else
  ir (.inl (o6_0,())))) ((0:Int),o6_0_3,())) fun (o6_0_8,_)=>
  jn (S:=(List Int)×Unit) (
  loopM (S:=Int×(List Int)×Unit) (fun (x64,o6_0,_)=>
  (bif (decide (x64<(p1_12.length:Int))) then
  ck (ib x64 p1_12.length)<|
  let e9:tAggT:=(gt p1_12 x64 tAgg.z)
  (bif (e9.1==(2:Int)) then
  ck (ib e9.2 y4.1.length)<|
  let e10:Int:=(List.getD y4.1 (Int.toNat e9.2) (0:Int))
  ck (Nat.ble (o6_0.length+ [e10].length) 17592186044416)<|
  let e11:Int:=(wr (x64+(1:Int)))
  il (e11,(o6_0++ [e10]),())
  else
  (bif (e9.1==(3:Int)) then
  ck (ib e9.2 y4.1.length)<|
  let e12:Int:=(List.getD y4.1 (Int.toNat e9.2) (0:Int))
  ck (Nat.ble (o6_0.length+ [e12].length) 17592186044416)<|
  let e13:Int:=(wr (x64+(1:Int)))
  il (e13,(o6_0++ [e12]),())
  else
  ck (Nat.ble (o6_0.length+ [(2:Int)].length) 17592186044416)<|
  let e14:Int:=(wr (x64+(1:Int)))
  il (e14,(o6_0++ [(2:Int)]),())))
  else
  ir (.inl (o6_0,())))) ((0:Int),o6_0_8,())) fun (o6_0_15,_)=>
  (slices_Repeat_sl_bool_bool.F ([true],(o6_0_15.length:Int),())).bind fun y16=>
  some (o6_0_15,y16.1,())
theorem schema_Cols.k (f:TS schema_Joined.d.si→Option (TS schema_Joined.d.so)):Fk PP (cx (schema_Joined.d.e [] f::slices_Repeat_sl_bool_bool.s) ddl_parser_view.q) [] Tryz.f119 schema_Cols.d (schema_Cols.b f):={}
theorem schema_Cols.en:Lv.Enters PP 119:=⟨_,Tryz.func119,by kernel_rfl,by decide⟩
noncomputable def schema_Joined.b (f:TS schema_Cols.d.si→Option (TS schema_Cols.d.so)):(List tDefT)×ByteArray×ByteArray×ByteArray×Int×Int×(List tNodeT)×(List Int)×Bool×(List tAggT)×Unit→Option ((List Int)×Unit):=fun (p0,p1_0,p1_1,p1_2,p1_3,p1_4,p1_5,p1_6,p1_7,p1_8,_)=>
  (schema_Find.F (p0,p1_1,())).bind fun y1=>
  ck (ib y1.1 p0.length)<|
  let e2:tDefT:=(gt p0 y1.1 tDef.z)
  (f (p0,e2.1,e2.2.1.1,e2.2.1.2.1,e2.2.1.2.2,e2.2.2.1,e2.2.2.2.1,e2.2.2.2.2.1,e2.2.2.2.2.2.1.1,e2.2.2.2.2.2.1.2,e2.2.2.2.2.2.2.1,e2.2.2.2.2.2.2.2.1,e2.2.2.2.2.2.2.2.2.1,e2.2.2.2.2.2.2.2.2.2,())).bind fun y3=>
  (bif (!sq p1_2 (⟨#[]⟩:ByteArray)) then
  (schema_Find.F (p0,p1_2,())).bind fun y4=>
  ck (ib y4.1 p0.length)<|
  let e5:tDefT:=(gt p0 y4.1 tDef.z)
  (f (p0,e5.1,e5.2.1.1,e5.2.1.2.1,e5.2.1.2.2,e5.2.2.1,e5.2.2.2.1,e5.2.2.2.2.1,e5.2.2.2.2.2.1.1,e5.2.2.2.2.2.1.2,e5.2.2.2.2.2.2.1,e5.2.2.2.2.2.2.2.1,e5.2.2.2.2.2.2.2.2.1,e5.2.2.2.2.2.2.2.2.2,())).bind fun y6=>
  ck (Nat.ble (y3.1.length+y6.1.length) 17592186044416)<|
  some ((y3.1++y6.1),())
  else
  some (y3.1,()))
theorem schema_Joined.k (f:TS schema_Cols.d.si→Option (TS schema_Cols.d.so)):Fk PP (cx (schema_Cols.d.e [] f::slices_Repeat_sl_bool_bool.s) ddl_parser_view.q) [] Tryz.f125 schema_Joined.d (schema_Joined.b f):={}
theorem schema_Joined.en:Lv.Enters PP 125:=⟨_,Tryz.func125,by kernel_rfl,by decide⟩
theorem schema_Cols.step (f:TS schema_Joined.d.si→Option (TS schema_Joined.d.so)) (hf:schema_Joined.d.ok PP f):schema_Cols.d.ok PP (schema_Cols.b f):=(schema_Cols.k f).okF (CxOk.consS slices_Repeat_sl_bool_bool.c [] schema_Joined.en hf) mixed
theorem schema_Joined.step (f:TS schema_Cols.d.si→Option (TS schema_Cols.d.so)) (hf:schema_Cols.d.ok PP f):schema_Joined.d.ok PP (schema_Joined.b f):=(schema_Joined.k f).okF (CxOk.consS slices_Repeat_sl_bool_bool.c [] schema_Cols.en hf) mixed
noncomputable def schema_Cols.r:Nat→TS schema_Cols.d.si→Option (TS schema_Cols.d.so)
  |0=>fun _=>none
  |n+1=>schema_Cols.b (schema_Joined.b (schema_Cols.r n))
theorem schema_Cols.r_ok:∀n,schema_Cols.d.ok PP (schema_Cols.r n)
  |0=>fun _ _ h=>by cases h
  |n+1=>schema_Cols.step _ (schema_Joined.step _ (schema_Cols.r_ok n))
noncomputable def schema_Cols.F:TS schema_Cols.d.si→Option (TS schema_Cols.d.so):=stk (schema_Cols.r 64)
theorem schema_Cols.eq:schema_Cols.F=schema_Cols.r 64:=stk_eq _
theorem schema_Cols.ok:schema_Cols.d.ok PP schema_Cols.F:=by
  rw [schema_Cols.eq]
  exact schema_Cols.r_ok 64
noncomputable def schema_Cols.s:SpL:=schema_Cols.d.e [] schema_Cols.F::slices_Repeat_sl_bool_bool.s
theorem schema_Cols.c:Ck schema_Cols.s ddl_parser_view.q:=CxOk.consS slices_Repeat_sl_bool_bool.c [] schema_Cols.en schema_Cols.ok
noncomputable def schema_Joined.F:TS schema_Joined.d.si→Option (TS schema_Joined.d.so):=stk (schema_Joined.b (schema_Cols.r 64))
theorem schema_Joined.eq:schema_Joined.F=schema_Joined.b (schema_Cols.r 64):=stk_eq _
theorem schema_Joined.ok:schema_Joined.d.ok PP schema_Joined.F:=by
  rw [schema_Joined.eq]
  exact schema_Joined.step _ (schema_Cols.r_ok 64)
noncomputable def schema_Joined.s:SpL:=schema_Joined.d.e [] schema_Joined.F::schema_Cols.s
theorem schema_Joined.c:Ck schema_Joined.s ddl_parser_view.q:=CxOk.consS schema_Cols.c [] schema_Joined.en schema_Joined.ok
/-! levee/expr.takes -/
def expr_takes.d:Fe:=⟨129,1,⟨[(0,.v false [.int .i64])],[],[],0,[]⟩,⟨[(0,.v false [.int .i64])],[],[],1000,[]⟩,(.s none .n (.s none (.s none .n (.b (.s (some ⟨[(4,.v false [.bool])],[],[3],0,[]⟩) .n (.c .n (.s (some ⟨[(7,.v false [.bool])],[],[3],0,[]⟩) .n .n))))) .n))⟩
noncomputable def expr_takes.B:Int×Unit→Option (Int×Unit):=fun (p0,_)=>
  jn (S:=Bool×Unit) (
  (bif (p0==(0:Int)) then
  il ((p0==(0:Int)),())
  else
  il ((p0==(1:Int)),()))) fun (x4_1,_)=>
  (bif x4_1 then
  some ((0:Int),())
  else
  jn (S:=Bool×Unit) (
  (bif (p0==(9:Int)) then
  il ((p0==(9:Int)),())
  else
  il ((p0==(10:Int)),()))) fun (x7_2,_)=>
  (bif x7_2 then
  some ((1:Int),())
  else
  (bif (p0==(2:Int)) then
  (bif (p0==(2:Int)) then
  some ((2:Int),())
  else
  some ((-1:Int),()))
  else
  (bif (p0==(3:Int)) then
  (bif (p0==(3:Int)) then
  some ((2:Int),())
  else
  some ((-1:Int),()))
  else
  (bif (p0==(4:Int)) then
  (bif (p0==(4:Int)) then
  some ((2:Int),())
  else
  some ((-1:Int),()))
  else
  (bif (p0==(5:Int)) then
  (bif (p0==(5:Int)) then
  some ((2:Int),())
  else
  some ((-1:Int),()))
  else
  (bif (p0==(6:Int)) then
  (bif (p0==(6:Int)) then
  some ((2:Int),())
  else
  some ((-1:Int),()))
  else
  (bif (p0==(7:Int)) then
  (bif (p0==(7:Int)) then
  some ((2:Int),())
  else
  some ((-1:Int),()))
  else
  (bif (p0==(8:Int)) then
  some ((2:Int),())
  else
  some ((-1:Int),()))))))))))
noncomputable def expr_takes.F:=stk expr_takes.B
theorem expr_takes.eq:expr_takes.F=expr_takes.B:=stk_eq _
theorem expr_takes.k:Kk schema_Joined.s ddl_parser_view.q [] Tryz.f129 expr_takes.d expr_takes.B:={}
noncomputable def expr_takes.s:SpL:=expr_takes.d.e [] expr_takes.F::schema_Joined.s
theorem expr_takes.c:Ck expr_takes.s ddl_parser_view.q:=cS schema_Joined.c expr_takes.k
/-! (*levee/expr.stack[int]).pop -/
def expr_stack_int_pop.d:Fe:=⟨213,1,⟨[(0,.v false [.ptr 0 0])],[(0,true,.box 227 [.ref 1,.bool,.sl 3 (.int .i64)]),(1,true,.arr 3 (.int .i64))],[],2,[]⟩,⟨[(0,.v false [.int .i64])],[(0,true,.box 227 [.ref 1001,.bool,.sl 3 (.int .i64)]),(1001,false,.arr 3 (.int .i64))],[],1002,[(0,0)]⟩,.n⟩
noncomputable def expr_stack_int_pop.B:Bool×(List Int)×(List Int)×Unit→Option (Int×Bool×(List Int)×(List Int)×Unit):=fun (o0_1,o0_2,o0_0,_)=>
  (bif ((o0_0.length:Int)==(0:Int)) then
  some ((0:Int),false,o0_2,o0_0,())
  else
  let e1:Int:=(wr ((o0_0.length:Int)-(1:Int)))
  ck (ib e1 o0_0.length)<|
  let e2:Int:=(List.getD o0_0 (Int.toNat e1) (0:Int))
  let e3:Int:=(wr ((o0_0.length:Int)-(1:Int)))
  ck (sb (0:Int) e3 o0_0.length)<|
  some (e2,o0_1,o0_2,(List.take (Int.toNat e3) o0_0),()))
noncomputable def expr_stack_int_pop.F:=stk expr_stack_int_pop.B
theorem expr_stack_int_pop.eq:expr_stack_int_pop.F=expr_stack_int_pop.B:=stk_eq _
theorem expr_stack_int_pop.k:Kk expr_takes.s ddl_parser_view.q [] Tryz.f213 expr_stack_int_pop.d expr_stack_int_pop.B:={}
noncomputable def expr_stack_int_pop.s:SpL:=expr_stack_int_pop.d.e [] expr_stack_int_pop.F::expr_takes.s
theorem expr_stack_int_pop.c:Ck expr_stack_int_pop.s ddl_parser_view.q:=cS expr_takes.c expr_stack_int_pop.k
/-! (*levee/expr.stack[int]).push -/
def expr_stack_int_push.d:Fe:=⟨214,2,⟨[(0,.v false [.ptr 0 0]),(1,.v false [.int .i64])],[(0,true,.box 227 [.ref 1,.bool,.sl 3 (.int .i64)]),(1,true,.arr 3 (.int .i64))],[],2,[]⟩,⟨[(0,.tup [])],[(0,true,.box 227 [.ref 1001,.bool,.sl 3 (.int .i64)]),(1001,false,.arr 3 (.int .i64))],[],1002,[(0,0)]⟩,.n⟩
noncomputable def expr_stack_int_push.B:Int×Bool×(List Int)×(List Int)×Unit→Option (Bool×(List Int)×(List Int)×Unit):=fun (p1,o0_1,o0_2,o0_0,_)=>
  ck (Nat.ble (o0_0.length+ [p1].length) 17592186044416)<|
  some (o0_1,o0_2,(o0_0++ [p1]),())
noncomputable def expr_stack_int_push.F:=stk expr_stack_int_push.B
theorem expr_stack_int_push.eq:expr_stack_int_push.F=expr_stack_int_push.B:=stk_eq _
theorem expr_stack_int_push.k:Kk expr_stack_int_pop.s ddl_parser_view.q [] Tryz.f214 expr_stack_int_push.d expr_stack_int_push.B:={}
noncomputable def expr_stack_int_push.s:SpL:=expr_stack_int_push.d.e [] expr_stack_int_push.F::expr_stack_int_pop.s
theorem expr_stack_int_push.c:Ck expr_stack_int_push.s ddl_parser_view.q:=cS expr_stack_int_pop.c expr_stack_int_push.k
/-! levee/expr.all -/
def expr_all.d:Fe:=⟨152,2,⟨[(0,.v false [.int .i64]),(1,.v false [.sl 3 (.int .i64)])],[],[],0,[]⟩,⟨[(0,.v false [.bool])],[],[],1000,[]⟩,(.s none .n (.s none (.s none .n (.b (.l ⟨[(9,.v false [.int .i64])],[],[0,7,8],0,[]⟩ .n))) .n))⟩
noncomputable def expr_all.B:Int×(List Int)×Unit→Option (Bool×Unit):=fun (p0,p1,_)=>
  loopM (S:=Int×Unit) (fun (x9,_)=>
  (bif (decide (x9<(p1.length:Int))) then
  ck (ib x9 p1.length)<|
  let e1:Int:=(gt p1 x9 (0:Int))
  (bif (e1 !=p0) then
  (bif (e1 !=(0:Int)) then
  ir (false,())
  else
  let e2:Int:=(wr (x9+(1:Int)))
  il (e2,()))
  else
  let e3:Int:=(wr (x9+(1:Int)))
  il (e3,()))
  else
  ir (true,()))) ((0:Int),())
noncomputable def expr_all.F:=stk expr_all.B
theorem expr_all.eq:expr_all.F=expr_all.B:=stk_eq _
theorem expr_all.k:Kk expr_stack_int_push.s ddl_parser_view.q [] Tryz.f152 expr_all.d expr_all.B:={}
noncomputable def expr_all.s:SpL:=expr_all.d.e [] expr_all.F::expr_stack_int_push.s
theorem expr_all.c:Ck expr_all.s ddl_parser_view.q:=cS expr_stack_int_push.c expr_all.k
/-! levee/expr.leaves -/
def expr_leaves.d:Fe:=⟨132,2,⟨[(0,.v false [.int .i64]),(1,.v false [.sl 3 (.int .i64)])],[],[],0,[]⟩,⟨[(0,.tup [(false,[.int .i64]),(false,[.bool])])],[],[],1000,[]⟩,(.s none .n (.s none (.s none .n (.b (.s (some ⟨[(7,.v false [.bool])],[],[1,6],0,[]⟩) .n (.c .n (.s (some ⟨[(13,.v false [.bool])],[],[1,6],0,[]⟩) .n .n))))) .n))⟩
noncomputable def expr_leaves.B:Int×(List Int)×Unit→Option (Int×Bool×Unit):=fun (p0,p1,_)=>
  jn (S:=Bool×Unit) (
  (bif (p0==(2:Int)) then
  il ((p0==(2:Int)),())
  else
  (bif (p0==(3:Int)) then
  il ((p0==(3:Int)),())
  else
  il ((p0==(4:Int)),())))) fun (x7_1,_)=>
  (bif x7_1 then
  (expr_all.F ((2:Int),p1,())).bind fun y2=>
  some ((2:Int),y2.1,())
  else
  jn (S:=Bool×Unit) (
  (bif (p0==(5:Int)) then
  il ((p0==(5:Int)),())
  else
  il ((p0==(6:Int)),()))) fun (x13_3,_)=>
  (bif x13_3 then
  ck (ib (0:Int) p1.length)<|
  let e4:Int:=(List.getD p1 0 (0:Int))
  ck (ib (1:Int) p1.length)<|
  let e5:Int:=(List.getD p1 1 (0:Int))
  (bif (e4==e5) then
  some ((1:Int),true,())
  else
  ck (ib (0:Int) p1.length)<|
  let e6:Int:=(List.getD p1 0 (0:Int))
  (bif (e6==(0:Int)) then
  some ((1:Int),true,())
  else
  ck (ib (1:Int) p1.length)<|
  let e7:Int:=(List.getD p1 1 (0:Int))
  some ((1:Int),(e7==(0:Int)),())))
  else
  (bif (p0==(7:Int)) then
  (bif (p0==(7:Int)) then
  (expr_all.F ((1:Int),p1,())).bind fun y8=>
  some ((1:Int),y8.1,())
  else
  some ((1:Int),true,()))
  else
  (bif (p0==(8:Int)) then
  (bif (p0==(8:Int)) then
  (expr_all.F ((1:Int),p1,())).bind fun y9=>
  some ((1:Int),y9.1,())
  else
  some ((1:Int),true,()))
  else
  (bif (p0==(9:Int)) then
  (expr_all.F ((1:Int),p1,())).bind fun y10=>
  some ((1:Int),y10.1,())
  else
  some ((1:Int),true,()))))))
noncomputable def expr_leaves.F:=stk expr_leaves.B
theorem expr_leaves.eq:expr_leaves.F=expr_leaves.B:=stk_eq _
theorem expr_leaves.k:Kk expr_all.s ddl_parser_view.q [] Tryz.f132 expr_leaves.d expr_leaves.B:={}
noncomputable def expr_leaves.s:SpL:=expr_leaves.d.e [] expr_leaves.F::expr_all.s
theorem expr_leaves.c:Ck expr_leaves.s ddl_parser_view.q:=cS expr_all.c expr_leaves.k
/-! (*levee/expr.typer).step -/
def expr_typer_step.d:Fe:=⟨185,2,⟨[(0,.v false [.ptr 0 0]),(1,.v true [.int .i64,.int .i64,.int .i64,.int .i64,.str])],[(0,true,.box 227 [.ref 1,.bool,.sl 3 (.int .i64)]),(1,true,.arr 3 (.int .i64))],[],2,[]⟩,⟨[(0,.v false [.bool])],[(0,true,.box 227 [.ref 1001,.bool,.sl 3 (.int .i64)]),(1001,false,.arr 3 (.int .i64))],[],1002,[(0,0)]⟩,(.s none .n (.s none .n (.s (some ⟨[(0,.v false [.ptr 1 0]),(5,.v false [.ref 0])],[(0,false,.arr 3 (.int .i64)),(1,true,.box 227 [.ref 2,.bool,.sl 3 (.int .i64)]),(2,false,.arr 3 (.int .i64))],[3],3,[]⟩) (.s none .n (.b (.l ⟨[(0,.v false [.ptr 1 0]),(5,.v false [.ref 0]),(11,.v false [.int .i64])],[(0,false,.arr 3 (.int .i64)),(1,true,.box 227 [.ref 2,.bool,.sl 3 (.int .i64)]),(2,false,.arr 3 (.int .i64))],[3,10],3,[]⟩ .n))) (.s none (.b (.s (some ⟨[(21,.v false [.bool])],[],[0,3,5],0,[]⟩) .n (.c .n (.s none .n (.c (.s none (.s (some ⟨[(72,.v false [.bool])],[],[0,3],0,[]⟩) .n .n) .n) .n))))) .n))))⟩
noncomputable def expr_typer_step.B:Int×Int×Int×Int×ByteArray×Bool×(List Int)×(List Int)×Unit→Option (Bool×Bool×(List Int)×(List Int)×Unit):=fun (p1_0,p1_1,p1_2,p1_3,p1_4,o0_1,o0_2,o0_0,_)=>
  jn (S:=(List Int)×Bool×(List Int)×(List Int)×Unit) (
  (expr_takes.F (p1_0,())).bind fun y1=>
  loopM (S:=Int×(List Int)×Bool×(List Int)×(List Int)×Unit) (fun (x11,o5_0,o0_0_1,o0_0_2,o0_0_0,_)=>
  (bif (decide (x11<y1.1)) then
  (expr_stack_int_pop.F (o0_0_1,o0_0_2,o0_0_0,())).bind fun y2=>
  ck (Nat.ble (o5_0.length+ [y2.1].length) 17592186044416)<|
  let e3:Int:=(wr (x11+(1:Int)))
  il (e3,(o5_0++ [y2.1]),y2.2.1,y2.2.2.1,y2.2.2.2.1,())
  else
  ir (.inl (o5_0,o0_0_1,o0_0_2,o0_0_0,())))) ((0:Int),[],o0_1,o0_2,o0_0,())) fun (o5_0_4,o0_0_1_4,o0_0_2_4,o0_0_0_4,_)=>
  jn (S:=Bool×Unit) (
  (bif (!o0_0_1_4) then
  il (true,())
  else
  (expr_takes.F (p1_0,())).bind fun y5=>
  il ((decide (y5.1<(0:Int))),()))) fun (x21_6,_)=>
  (bif x21_6 then
  some (false,o0_0_1_4,o0_0_2_4,o0_0_0_4,())
  else
  (bif (p1_0==(0:Int)) then
  jn (S:=Bool×Unit) (
  (bif (decide (p1_1<(0:Int))) then
  il (true,())
  else
  (bif (decide (p1_1≥(o0_0_2_4.length:Int))) then
  il (true,())
  else
  ck (ib p1_1 o0_0_2_4.length)<|
  let e7:Int:=(gt o0_0_2_4 p1_1 (0:Int))
  (bif (decide (e7<(1:Int))) then
  il (true,())
  else
  ck (ib p1_1 o0_0_2_4.length)<|
  let e8:Int:=(gt o0_0_2_4 p1_1 (0:Int))
  il ((decide (e8>(3:Int))),()))))) fun (x72_9,_)=>
  (bif x72_9 then
  some (false,o0_0_1_4,o0_0_2_4,o0_0_0_4,())
  else
  ck (ib p1_1 o0_0_2_4.length)<|
  let e10:Int:=(gt o0_0_2_4 p1_1 (0:Int))
  (expr_stack_int_push.F (e10,o0_0_1_4,o0_0_2_4,o0_0_0_4,())).bind fun y11=>
  some (true,y11.1,y11.2.1,y11.2.2.1,()))
  else
  (bif (p1_0==(1:Int)) then
  (expr_stack_int_push.F (p1_2,o0_0_1_4,o0_0_2_4,o0_0_0_4,())).bind fun y12=>
  (value_May.F (p1_2,p1_3,p1_4,())).bind fun y13=>
  some (y13.1,y12.1,y12.2.1,y12.2.2.1,())
  else
  (expr_leaves.F (p1_0,o5_0_4,())).bind fun y14=>
  (expr_stack_int_push.F (y14.1,o0_0_1_4,o0_0_2_4,o0_0_0_4,())).bind fun y15=>
  some (y14.2.1,y15.1,y15.2.1,y15.2.2.1,()))))
noncomputable def expr_typer_step.F:=stk expr_typer_step.B
theorem expr_typer_step.eq:expr_typer_step.F=expr_typer_step.B:=stk_eq _
theorem expr_typer_step.k:Kk expr_leaves.s ddl_parser_view.q [] Tryz.f185 expr_typer_step.d expr_typer_step.B:={}
noncomputable def expr_typer_step.s:SpL:=expr_typer_step.d.e [] expr_typer_step.F::expr_leaves.s
theorem expr_typer_step.c:Ck expr_typer_step.s ddl_parser_view.q:=cS expr_leaves.c expr_typer_step.k
/-! (*levee/expr.stack[int]).one -/
def expr_stack_int_one.d:Fe:=⟨186,1,⟨[(0,.v false [.ptr 0 0])],[(0,true,.box 227 [.ref 1,.bool,.sl 3 (.int .i64)]),(1,true,.arr 3 (.int .i64))],[],2,[]⟩,⟨[(0,.tup [(false,[.int .i64]),(false,[.bool])])],[(0,true,.box 227 [.ref 1001,.bool,.sl 3 (.int .i64)]),(1001,false,.arr 3 (.int .i64))],[],1002,[(0,0)]⟩,.n⟩
noncomputable def expr_stack_int_one.B:Bool×(List Int)×(List Int)×Unit→Option (Int×Bool×Bool×(List Int)×(List Int)×Unit):=fun (o0_1,o0_2,o0_0,_)=>
  (bif (!o0_1) then
  some ((0:Int),false,o0_1,o0_2,o0_0,())
  else
  (bif ((o0_0.length:Int) !=(1:Int)) then
  some ((0:Int),false,o0_1,o0_2,o0_0,())
  else
  ck (ib (0:Int) o0_0.length)<|
  let e1:Int:=(List.getD o0_0 0 (0:Int))
  some (e1,true,o0_1,o0_2,o0_0,())))
noncomputable def expr_stack_int_one.F:=stk expr_stack_int_one.B
theorem expr_stack_int_one.eq:expr_stack_int_one.F=expr_stack_int_one.B:=stk_eq _
theorem expr_stack_int_one.k:Kk expr_typer_step.s ddl_parser_view.q [] Tryz.f186 expr_stack_int_one.d expr_stack_int_one.B:={}
noncomputable def expr_stack_int_one.s:SpL:=expr_stack_int_one.d.e [] expr_stack_int_one.F::expr_typer_step.s
theorem expr_stack_int_one.c:Ck expr_stack_int_one.s ddl_parser_view.q:=cS expr_typer_step.c expr_stack_int_one.k
/-! levee/expr.Type -/
def expr_Type.d:Fe:=⟨148,2,⟨[(0,.v false [.sl 77 tNode]),(1,.v false [.sl 3 (.int .i64)])],[],[],0,[]⟩,⟨[(0,.tup [(false,[.int .i64]),(false,[.int .i64])])],[],[],1000,[]⟩,(.s none .n (.s none .n (.s none .n (.s none .n (.s (some ⟨[(6,.v false [.ptr 0 0])],[(0,true,.box 227 [.ref 1,.bool,.sl 3 (.int .i64)]),(1,false,.arr 3 (.int .i64))],[],2,[]⟩) (.s none .n (.b (.l ⟨[(6,.v false [.ptr 0 0]),(23,.v false [.int .i64])],[(0,true,.box 227 [.ref 1,.bool,.sl 3 (.int .i64)]),(1,false,.arr 3 (.int .i64))],[21,22],2,[]⟩ .n))) .n)))))⟩
noncomputable def expr_Type.B:(List tNodeT)×(List Int)×Unit→Option (Int×Int×Unit):=fun (p0,p1,_)=>
  (bif (decide ((p0.length:Int)>(100:Int))) then
  some ((0:Int),(1:Int),())
  else
  jn (S:=Bool×(List Int)×(List Int)×Unit) (
  loopM (S:=Int×Bool×(List Int)×(List Int)×Unit) (fun (x23,o6_0_1,o6_0_2,o6_0_0,_)=>
  (bif (decide (x23<(p0.length:Int))) then
  ck (ib x23 p0.length)<|
  let e1:tNodeT:=(gt p0 x23 tNode.z)
  (expr_typer_step.F (e1.1,e1.2.1,e1.2.2.1,e1.2.2.2.1,e1.2.2.2.2,o6_0_1,o6_0_2,o6_0_0,())).bind fun y2=>
  (bif (!y2.1) then
  ir (.inr ((0:Int),(30:Int),()))
  else
  let e3:Int:=(wr (x23+(1:Int)))
  il (e3,y2.2.1,y2.2.2.1,y2.2.2.2.1,()))
  else
  ir (.inl (o6_0_1,o6_0_2,o6_0_0,())))) ((0:Int),true,p1,[],())) fun (o6_0_1_4,o6_0_2_4,o6_0_0_4,_)=>
  (expr_stack_int_one.F (o6_0_1_4,o6_0_2_4,o6_0_0_4,())).bind fun y5=>
  (bif y5.2.1 then
  some (y5.1,(0:Int),())
  else
  some ((0:Int),(30:Int),())))
noncomputable def expr_Type.F:=stk expr_Type.B
theorem expr_Type.eq:expr_Type.F=expr_Type.B:=stk_eq _
theorem expr_Type.k:Kk expr_stack_int_one.s ddl_parser_view.q [] Tryz.f148 expr_Type.d expr_Type.B:={}
noncomputable def expr_Type.s:SpL:=expr_Type.d.e [] expr_Type.F::expr_stack_int_one.s
theorem expr_Type.c:Ck expr_Type.s ddl_parser_view.q:=cS expr_stack_int_one.c expr_Type.k
/-! levee/schema.truth -/
def schema_truth.d:Fe:=⟨124,2,⟨[(0,.v false [.sl 77 tNode]),(1,.v false [.sl 3 (.int .i64)])],[],[],0,[]⟩,⟨[(0,.v false [.bool])],[],[],1000,[]⟩,.n⟩
noncomputable def schema_truth.B:(List tNodeT)×(List Int)×Unit→Option (Bool×Unit):=fun (p0,p1,_)=>
  (expr_Type.F (p0,p1,())).bind fun y1=>
  (bif (y1.2.1==(0:Int)) then
  (bif (y1.1==(1:Int)) then
  some (true,())
  else
  some ((y1.1==(0:Int)),()))
  else
  some (false,()))
noncomputable def schema_truth.F:=stk schema_truth.B
theorem schema_truth.eq:schema_truth.F=schema_truth.B:=stk_eq _
theorem schema_truth.k:Kk expr_Type.s ddl_parser_view.q [] Tryz.f124 schema_truth.d schema_truth.B:={}
noncomputable def schema_truth.s:SpL:=schema_truth.d.e [] schema_truth.F::expr_Type.s
theorem schema_truth.c:Ck schema_truth.s ddl_parser_view.q:=cS expr_Type.c schema_truth.k
/-! levee/schema.table -/
def schema_table.d:Fe:=⟨101,2,⟨[(0,.v false [.sl 69 tDef]),(1,.v true [.str,.sl 43 tColumn,.sl 63 (.sl 77 tNode)])],[],[],0,[]⟩,⟨[(0,.v false [.int .i64])],[],[],1000,[]⟩,(.s none .n (.s none .n (.s (some ⟨[],[],[0,3,5],0,[]⟩) (.s none .n (.b (.l ⟨[(24,.v false [.int .i64])],[],[0,3,5,22,23],0,[]⟩ (.s none .n (.s none .n (.s none (.b (.s none .n (.s none .n (.s (some ⟨[(53,.v false [.bool])],[],[0,3,5,22,23,24],0,[]⟩) .n .n)))) .n)))))) (.s (some ⟨[],[],[3,5],0,[]⟩) (.s none .n (.b (.l ⟨[(58,.v false [.int .i64])],[],[0,3,5,56,57],0,[]⟩ (.s none .n (.s none .n (.s none (.b (.s none .n (.s none .n (.s none .n (.s (some ⟨[(12,.v false [.ptr 0 0])],[(0,true,.box 41 [.str,.sl 43 tColumn,.sl 63 (.sl 77 tNode)])],[0,3,5,11,56,57,58],1,[]⟩) .n .n))))) .n)))))) .n))))⟩
noncomputable def schema_table.l:InT:=[(120,[],Tryz.f120,.n),(121,[(1,120)],Tryz.f121,(.s none .n (.s none (.s none .n (.b (.l ⟨[(8,.v false [.int .i64])],[],[0,1,7],0,[]⟩ (.s none .n (.s none .n (.s none (.b (.s none .n (.s (some ⟨[(16,.v false [.bool])],[],[0,1,5,7,8],0,[]⟩) .n .n))) .n)))))) .n))),(122,[(1,123)],Tryz.f122,.n),(123,[],Tryz.f123,.n),(147,[(1,123)],Tryz.f147,(.s none .n (.s none (.s none .n (.b (.l ⟨[(8,.v false [.int .i64])],[(0,true,.box 64 [.sl 3 (.int .i64)])],[0,1,7],1,[(0,1003)]⟩ (.s none .n (.s none .n (.s none (.b (.s none .n (.s (some ⟨[(16,.v false [.bool])],[(0,true,.box 64 [.sl 3 (.int .i64)])],[0,1,5,7,8],1,[(0,1003)]⟩) .n .n))) .n)))))) .n)))]
noncomputable def schema_table.B:(List tDefT)×ByteArray×(List tColumnT)×(List (List tNodeT))×Unit→Option (Int×Unit):=fun (p0,p1_0,p1_1,p1_2,_)=>
  (schema_Cols.F (p0,(0:Int),p1_0,p1_1,p1_2,(⟨#[]⟩:ByteArray),(⟨#[]⟩:ByteArray),(⟨#[]⟩:ByteArray),(0:Int),(0:Int),([]:List tNodeT),([]:List Int),false,([]:List tAggT),())).bind fun y1=>
  jn (S:=Unit) (
  loopM (S:=Int×Unit) (fun (x24,_)=>
  (bif (decide (x24<(p1_1.length:Int))) then
  ck (ib x24 p1_1.length)<|
  let e2:tColumnT:=(gt p1_1 x24 tColumn.z)
  jn (S:=Bool×Unit) (
  loopM (S:=Int×Unit) (fun (x8',_)=>
  (bif (decide (x8'<(p1_1.length:Int))) then
  jn (S:=Bool×Unit) (
  ck (ib x8' p1_1.length)<|
  let e3:tColumnT:=(gt p1_1 x8' tColumn.z)
  il ((sq e3.1 e2.1),())) fun (x16_4,_)=>
  (bif x16_4 then
  Option.map Sum.inr ((bif (x8' !=x24) then
  il (true,())
  else
  (bif (x24==(0:Int)) then
  (bif e2.2.2.1 then
  il (true,())
  else
  (bif (e2.2.1==(1:Int)) then
  il (true,())
  else
  il ((!sq e2.2.2.2.2.1 (⟨#[]⟩:ByteArray)),())))
  else
  il (false,()))))
  else
  let e5:Int:=(wr (x8'+(1:Int)))
  il (e5,()))
  else
  Option.map Sum.inr ((bif ((-1:Int) !=x24) then
  il (true,())
  else
  (bif (x24==(0:Int)) then
  (bif e2.2.2.1 then
  il (true,())
  else
  (bif (e2.2.1==(1:Int)) then
  il (true,())
  else
  il ((!sq e2.2.2.2.2.1 (⟨#[]⟩:ByteArray)),())))
  else
  il (false,())))))) ((0:Int),())) fun (x53_6,_)=>
  (bif x53_6 then
  ir (.inr ((91:Int),()))
  else
  let e7:Int:=(wr (x24+(1:Int)))
  il (e7,()))
  else
  ir (.inl (())))) ((0:Int),())) fun (_)=>
  jn (S:=Unit) (
  loopM (S:=Int×Unit) (fun (x58,_)=>
  (bif (decide (x58<(p1_1.length:Int))) then
  ck (ib x58 p1_1.length)<|
  let e9:tColumnT:=(gt p1_1 x58 tColumn.z)
  (bif (sq e9.2.2.2.2.1 (⟨#[]⟩:ByteArray)) then
  let e10:Int:=(wr (x58+(1:Int)))
  il (e10,())
  else
  jn (S:=ByteArray×(List tColumnT)×(List (List tNodeT))×Unit) (
  (bif (!sq e9.2.2.2.2.1 p1_0) then
  (schema_Find.F (p0,e9.2.2.2.2.1,())).bind fun y11=>
  (bif (decide (y11.1<(0:Int))) then
  ir (.inr (.inr ((92:Int),())))
  else
  ck (ib y11.1 p0.length)<|
  let e12:tDefT:=(gt p0 y11.1 tDef.z)
  (bif (e12.1 !=(0:Int)) then
  ir (.inr (.inr ((92:Int),())))
  else
  ck (ib y11.1 p0.length)<|
  let e13:tDefT:=(gt p0 y11.1 tDef.z)
  il (e13.2.1.1,e13.2.1.2.1,e13.2.1.2.2,())))
  else
  il (p1_0,p1_1,p1_2,()))) fun (o12_0_0_14,o12_0_1_14,o12_0_2_14,_)=>
  ck (ib (0:Int) o12_0_1_14.length)<|
  let e15:tColumnT:=(List.getD o12_0_1_14 0 tColumn.z)
  (bif (e15.2.1 !=e9.2.1) then
  ir (.inr ((92:Int),()))
  else
  (bif (e9.2.2.2.2.2==(2:Int)) then
  (bif (!e9.2.2.1) then
  ir (.inr ((92:Int),()))
  else
  let e16:Int:=(wr (x58+(1:Int)))
  il (e16,()))
  else
  let e17:Int:=(wr (x58+(1:Int)))
  il (e17,()))))
  else
  ir (.inl (())))) ((0:Int),())) fun (_)=>
  loopM (S:=Int×(List Int)×Unit) (fun (x8,ok_1_0,_)=>
  (bif (decide (x8<(p1_2.length:Int))) then
  jn (S:=Bool×(List Int)×Unit) (
  ck (ib x8 p1_2.length)<|
  let e19:(List tNodeT):=(gt p1_2 x8 [])
  (schema_truth.F (e19,ok_1_0,())).bind fun y20=>
  il ((!y20.1),ok_1_0,())) fun (x16_21,ok_1_0_21,_)=>
  (bif x16_21 then
  Option.map Sum.inr ((bif (decide (x8≥(0:Int))) then
  some ((93:Int),())
  else
  some ((0:Int),())))
  else
  let e22:Int:=(wr (x8+(1:Int)))
  il (e22,ok_1_0_21,()))
  else
  Option.map Sum.inr ((bif (decide ((-1:Int)≥(0:Int))) then
  some ((93:Int),())
  else
  some ((0:Int),()))))) ((0:Int),y1.1,())
noncomputable def schema_table.F:=stk schema_table.B
theorem schema_table.eq:schema_table.F=schema_table.B:=stk_eq _
theorem schema_table.k:Kk schema_truth.s ddl_parser_view.q schema_table.l Tryz.f101 schema_table.d schema_table.B:={}
noncomputable def schema_table.s:SpL:=schema_table.d.e [] schema_table.F::schema_truth.s
theorem schema_table.c:Ck schema_table.s ddl_parser_view.q:=cS schema_truth.c schema_table.k
/-! levee/schema.view -/
def schema_view.d:Fe:=⟨102,2,⟨[(0,.v false [.sl 69 tDef]),(1,.v true [.str,.str,.str,.int .i64,.int .i64,.sl 77 tNode,.sl 3 (.int .i64),.bool,.sl 103 tAgg])],[],[],0,[]⟩,⟨[(0,.v false [.bool])],[],[],1000,[]⟩,(.s none .n (.s (some ⟨[],[],[0,3],0,[]⟩) .n (.s none .n (.s none .n (.s none .n (.s none (.s (some ⟨[(83,.v false [.bool])],[],[3,7],0,[]⟩) .n .n) (.s (some ⟨[(7,.v false [.sl 3 (.int .i64)])],[],[3],0,[]⟩) .n (.s (some ⟨[],[],[3,7],0,[]⟩) (.s none .n (.b (.l ⟨[(98,.v false [.int .i64])],[],[3,7,96,97],0,[]⟩ .n))) (.s (some ⟨[],[],[3],0,[]⟩) (.s none .n (.b (.l ⟨[(110,.v false [.int .i64])],[],[3,7,108,109],0,[]⟩ (.s none .n (.s none .n (.s none (.b (.s none .n (.s (some ⟨[(136,.v false [.bool])],[],[3,7,108,109,110],0,[]⟩) .n .n))) .n)))))) .n)))))))))⟩
noncomputable def schema_view.B:(List tDefT)×ByteArray×ByteArray×ByteArray×Int×Int×(List tNodeT)×(List Int)×Bool×(List tAggT)×Unit→Option (Bool×Unit):=fun (p0,p1_0,p1_1,p1_2,p1_3,p1_4,p1_5,p1_6,p1_7,p1_8,_)=>
  jn (S:=Unit) (
  (schema_Find.F (p0,p1_1,())).bind fun y1=>
  (bif (decide (y1.1<(0:Int))) then
  ir (false,())
  else
  (bif (!sq p1_2 (⟨#[]⟩:ByteArray)) then
  (schema_Find.F (p0,p1_2,())).bind fun y2=>
  (bif (decide (y2.1<(0:Int))) then
  ir (false,())
  else
  il (()))
  else
  il (())))) fun (_)=>
  (schema_Find.F (p0,p1_1,())).bind fun y4=>
  ck (ib y4.1 p0.length)<|
  let e5:tDefT:=(gt p0 y4.1 tDef.z)
  (schema_Cols.F (p0,e5.1,e5.2.1.1,e5.2.1.2.1,e5.2.1.2.2,e5.2.2.1,e5.2.2.2.1,e5.2.2.2.2.1,e5.2.2.2.2.2.1.1,e5.2.2.2.2.2.1.2,e5.2.2.2.2.2.2.1,e5.2.2.2.2.2.2.2.1,e5.2.2.2.2.2.2.2.2.1,e5.2.2.2.2.2.2.2.2.2,())).bind fun y6=>
  (schema_Joined.F (p0,p1_0,p1_1,p1_2,p1_3,p1_4,p1_5,p1_6,p1_7,p1_8,())).bind fun y7=>
  ck (sb (y6.1.length:Int) (y7.1.length:Int) y7.1.length)<|
  jn (S:=Bool×Unit) (
  (bif (!sq p1_2 (⟨#[]⟩:ByteArray)) then
  ck (ib (0:Int) 2)<|
  (bif (decide (p1_3≥(y6.1.length:Int))) then
  il (true,())
  else
  ck (ib (1:Int) 2)<|
  (bif (decide (p1_4≥((Int.toNat (y7.1.length:Int)-Int.toNat (y6.1.length:Int):Nat):Int))) then
  il (true,())
  else
  ck (ib (0:Int) 2)<|
  ck (ib p1_3 y6.1.length)<|
  let e8:Int:=(List.getD y6.1 (Int.toNat p1_3) (0:Int))
  ck (ib (1:Int) 2)<|
  ck (ib p1_4 (Int.toNat (y7.1.length:Int)-Int.toNat (y6.1.length:Int):Nat))<|
  let e9:Int:=(List.getD y7.1 ((Int.toNat (y6.1.length:Int))+(Int.toNat p1_4):Nat) (0:Int))
  il ((e8 !=e9),())))
  else
  il (false,()))) fun (x83_10,_)=>
  (bif x83_10 then
  some (false,())
  else
  jn (S:=(List Int)×Unit) (
  (bif (decide ((p1_5.length:Int)>(0:Int))) then
  (schema_truth.F (p1_5,y7.1,())).bind fun y11=>
  (bif (!y11.1) then
  ir (false,())
  else
  il (y7.1,()))
  else
  il (y7.1,()))) fun (x7_12,_)=>
  jn (S:=Unit) (
  loopM (S:=Int×Unit) (fun (x98,_)=>
  (bif (decide (x98<(p1_6.length:Int))) then
  ck (ib x98 p1_6.length)<|
  let e13:Int:=(gt p1_6 x98 (0:Int))
  (bif (decide (e13≥(x7_12.length:Int))) then
  ir (.inr (false,()))
  else
  let e14:Int:=(wr (x98+(1:Int)))
  il (e14,()))
  else
  ir (.inl (())))) ((0:Int),())) fun (_)=>
  jn (S:=Unit) (
  loopM (S:=Int×Unit) (fun (x110,_)=>
  (bif (decide (x110<(p1_8.length:Int))) then
  ck (ib x110 p1_8.length)<|
  let e16:tAggT:=(gt p1_8 x110 tAgg.z)
  jn (S:=Bool×Unit) (
  (bif (e16.1 !=(0:Int)) then
  (bif (decide (e16.2≥(x7_12.length:Int))) then
  il (true,())
  else
  (bif (e16.1==(1:Int)) then
  ck (ib e16.2 x7_12.length)<|
  let e17:Int:=(gt x7_12 e16.2 (0:Int))
  il ((e17 !=(2:Int)),())
  else
  il (false,())))
  else
  (bif (e16.1==(1:Int)) then
  ck (ib e16.2 x7_12.length)<|
  let e18:Int:=(gt x7_12 e16.2 (0:Int))
  il ((e18 !=(2:Int)),())
  else
  il (false,())))) fun (x136_19,_)=>
  (bif x136_19 then
  ir (.inr (false,()))
  else
  let e20:Int:=(wr (x110+(1:Int)))
  il (e20,()))
  else
  ir (.inl (())))) ((0:Int),())) fun (_)=>
  let e22:Int:=(wr ((p1_6.length:Int)+(p1_8.length:Int)))
  (bif p1_7 then
  (bif (decide (e22≥(1:Int))) then
  some ((decide (e22≤(40:Int))),())
  else
  some (false,()))
  else
  (bif ((p1_8.length:Int)==(0:Int)) then
  (bif (decide (e22≥(1:Int))) then
  some ((decide (e22≤(40:Int))),())
  else
  some (false,()))
  else
  some (false,()))))
noncomputable def schema_view.F:=stk schema_view.B
theorem schema_view.eq:schema_view.F=schema_view.B:=stk_eq _
theorem schema_view.k:Kk schema_table.s ddl_parser_view.q [] Tryz.f102 schema_view.d schema_view.B:={}
noncomputable def schema_view.s:SpL:=schema_view.d.e [] schema_view.F::schema_table.s
theorem schema_view.c:Ck schema_view.s ddl_parser_view.q:=cS schema_table.c schema_view.k
/-! levee/schema.add -/
def schema_add.d:Fe:=⟨69,2,⟨[(0,.v false [.sl 69 tDef]),(1,.v true [.int .i64,.str,.sl 43 tColumn,.sl 63 (.sl 77 tNode),.str,.str,.str,.int .i64,.int .i64,.sl 77 tNode,.sl 3 (.int .i64),.bool,.sl 103 tAgg])],[],[],0,[]⟩,⟨[(0,.v false [.int .i64])],[],[],1000,[]⟩,.n⟩
noncomputable def schema_add.B:(List tDefT)×Int×ByteArray×(List tColumnT)×(List (List tNodeT))×ByteArray×ByteArray×ByteArray×Int×Int×(List tNodeT)×(List Int)×Bool×(List tAggT)×Unit→Option (Int×Unit):=fun (p0,p1_0,p1_1,p1_2,p1_3,p1_4,p1_5,p1_6,p1_7,p1_8,p1_9,p1_10,p1_11,p1_12,_)=>
  (ddl_May.F (p1_0,p1_1,p1_2,p1_3,p1_4,p1_5,p1_6,p1_7,p1_8,p1_9,p1_10,p1_11,p1_12,())).bind fun y1=>
  (bif (!y1.1) then
  some ((1:Int),())
  else
  (bif (decide ((p0.length:Int)≥(20:Int))) then
  some ((95:Int),())
  else
  (schema_Name.F (p1_0,p1_1,p1_2,p1_3,p1_4,p1_5,p1_6,p1_7,p1_8,p1_9,p1_10,p1_11,p1_12,())).bind fun y2=>
  (schema_Find.F (p0,y2.1,())).bind fun y3=>
  (bif (decide (y3.1≥(0:Int))) then
  some ((90:Int),())
  else
  (bif (p1_0==(0:Int)) then
  (schema_table.F (p0,p1_1,p1_2,p1_3,())).bind fun y4=>
  some (y4.1,())
  else
  (schema_view.F (p0,p1_4,p1_5,p1_6,p1_7,p1_8,p1_9,p1_10,p1_11,p1_12,())).bind fun y5=>
  (bif (!y5.1) then
  some ((94:Int),())
  else
  some ((0:Int),()))))))
noncomputable def schema_add.F:=stk schema_add.B
theorem schema_add.eq:schema_add.F=schema_add.B:=stk_eq _
theorem schema_add.k:Kk schema_view.s ddl_parser_view.q [] Tryz.f69 schema_add.d schema_add.B:={}
noncomputable def schema_add.s:SpL:=schema_add.d.e [] schema_add.F::schema_view.s
theorem schema_add.c:Ck schema_add.s ddl_parser_view.q:=cS schema_view.c schema_add.k
/-! levee/schema.May -/
def schema_May.d:Fe:=⟨38,1,⟨[(0,.v false [.sl 69 tDef])],[],[],0,[]⟩,⟨[(0,.v false [.bool])],[],[],1000,[]⟩,(.s none .n (.s none (.s none .n (.b (.l ⟨[(7,.v false [.int .i64])],[],[0,5,6],0,[]⟩ .n))) .n))⟩
noncomputable def schema_May.B:(List tDefT)×Unit→Option (Bool×Unit):=fun (p0,_)=>
  loopM (S:=Int×Unit) (fun (x7,_)=>
  (bif (decide (x7<(p0.length:Int))) then
  ck (ib x7 p0.length)<|
  let e1:tDefT:=(gt p0 x7 tDef.z)
  ck (sb (0:Int) x7 p0.length)<|
  let e2:List tDefT:=(List.drop (Int.toNat (0:Int)) (List.take (Int.toNat x7) p0))
  (schema_add.F (e2,e1.1,e1.2.1.1,e1.2.1.2.1,e1.2.1.2.2,e1.2.2.1,e1.2.2.2.1,e1.2.2.2.2.1,e1.2.2.2.2.2.1.1,e1.2.2.2.2.2.1.2,e1.2.2.2.2.2.2.1,e1.2.2.2.2.2.2.2.1,e1.2.2.2.2.2.2.2.2.1,e1.2.2.2.2.2.2.2.2.2,())).bind fun y3=>
  (bif (y3.1 !=(0:Int)) then
  ir (false,())
  else
  let e4:Int:=(wr (x7+(1:Int)))
  il (e4,()))
  else
  ir (true,()))) ((0:Int),())
noncomputable def schema_May.F:=stk schema_May.B
theorem schema_May.eq:schema_May.F=schema_May.B:=stk_eq _
theorem schema_May.k:Kk schema_add.s ddl_parser_view.q [] Tryz.f38 schema_May.d schema_May.B:={}
noncomputable def schema_May.s:SpL:=schema_May.d.e [] schema_May.F::schema_add.s
theorem schema_May.c:Ck schema_May.s ddl_parser_view.q:=cS schema_add.c schema_May.k
/-! levee/closure.tables -/
def closure_tables.d:Fe:=⟨39,1,⟨[(0,.v false [.sl 69 tDef])],[],[],0,[]⟩,⟨[(0,.v false [.ref 1000])],[(1000,false,.arr 41 tTable)],[],1001,[]⟩,(.s none .n (.s none .n (.s none (.s none .n (.b (.l ⟨[(3,.v false [.ref 0]),(8,.v false [.int .i64])],[(0,false,.arr 41 tTable)],[6,7],1,[]⟩ .n))) .n)))⟩
noncomputable def closure_tables.B:(List tDefT)×Unit→Option ((List tTableT)×Unit):=fun (p0,_)=>
  loopM (S:=Int×(List tTableT)×Unit) (fun (x8,o3_0,_)=>
  (bif (decide (x8<(p0.length:Int))) then
  ck (ib x8 p0.length)<|
  let e1:tDefT:=(gt p0 x8 tDef.z)
  (bif (e1.1==(0:Int)) then
  ck (Nat.ble (o3_0.length+ [e1.2.1].length) 2199023255552)<|
  let e2:Int:=(wr (x8+(1:Int)))
  il (e2,(o3_0++ [e1.2.1]),())
  else
  let e3:Int:=(wr (x8+(1:Int)))
  il (e3,o3_0,()))
  else
  ir (o3_0,()))) ((0:Int),[],())
noncomputable def closure_tables.F:=stk closure_tables.B
theorem closure_tables.eq:closure_tables.F=closure_tables.B:=stk_eq _
theorem closure_tables.k:Kk schema_May.s ddl_parser_view.q [] Tryz.f39 closure_tables.d closure_tables.B:={}
noncomputable def closure_tables.s:SpL:=closure_tables.d.e [] closure_tables.F::schema_May.s
theorem closure_tables.c:Ck closure_tables.s ddl_parser_view.q:=cS schema_May.c closure_tables.k
/-! levee/bag.fits -/
def bag_fits.d:Fe:=⟨70,1,⟨[(0,.v false [.int .i64])],[],[],0,[]⟩,⟨[(0,.v false [.bool])],[],[],1000,[]⟩,.n⟩
noncomputable def bag_fits.B:Int×Unit→Option (Bool×Unit):=fun (p0,_)=>
  (bif (decide (p0≥(-1000000000:Int))) then
  some ((decide (p0≤(1000000000:Int))),())
  else
  some (false,()))
noncomputable def bag_fits.F:=stk bag_fits.B
theorem bag_fits.eq:bag_fits.F=bag_fits.B:=stk_eq _
theorem bag_fits.k:Kk closure_tables.s ddl_parser_view.q [] Tryz.f70 bag_fits.d bag_fits.B:={}
noncomputable def bag_fits.s:SpL:=bag_fits.d.e [] bag_fits.F::closure_tables.s
theorem bag_fits.c:Ck bag_fits.s ddl_parser_view.q:=cS closure_tables.c bag_fits.k
/-! levee/row.May$1 -/
def row_May_1.d:Fe:=⟨104,1,⟨[(0,.v true [.int .i64,.int .i64,.str])],[],[],0,[]⟩,⟨[(0,.v false [.bool])],[],[],1000,[]⟩,.n⟩
noncomputable def row_May_1.B:Int×Int×ByteArray×Unit→Option (Bool×Unit):=fun (p0_0,p0_1,p0_2,_)=>
  (value_May.F (p0_0,p0_1,p0_2,())).bind fun y1=>
  some ((!y1.1),())
noncomputable def row_May_1.F:=stk row_May_1.B
theorem row_May_1.eq:row_May_1.F=row_May_1.B:=stk_eq _
theorem row_May_1.k:Kk bag_fits.s ddl_parser_view.q [] Tryz.f104 row_May_1.d row_May_1.B:={}
noncomputable def row_May_1.s:SpL:=row_May_1.d.e [] row_May_1.F::bag_fits.s
theorem row_May_1.c:Ck row_May_1.s ddl_parser_view.q:=cS bag_fits.c row_May_1.k
/-! levee/row.May -/
def row_May.d:Fe:=⟨71,1,⟨[(0,.v false [.sl 45 tValue])],[],[],0,[]⟩,⟨[(0,.v false [.bool])],[],[],1000,[]⟩,.n⟩
noncomputable def row_May.l:InT:=[(103,[],Tryz.f103,.n),(126,[],Tryz.f126,(.s none .n (.s none (.s none .n (.b (.l ⟨[(8,.v false [.int .i64])],[],[0,1,7],0,[]⟩ (.s none .n (.s none .n (.s none (.b (.s none .n (.s (some ⟨[(16,.v false [.bool])],[],[0,1,5,7,8],0,[]⟩) .n .n))) .n)))))) .n)))]
noncomputable def row_May.B:(List tValueT)×Unit→Option (Bool×Unit):=fun (p0,_)=>
  (bif (decide ((p0.length:Int)≤(40:Int))) then
  loopM (S:=Int×Unit) (fun (x8,_)=>
  (bif (decide (x8<(p0.length:Int))) then
  jn (S:=Bool×Unit) (
  ck (ib x8 p0.length)<|
  let e1:tValueT:=(gt p0 x8 tValue.z)
  (row_May_1.F (e1.1,e1.2.1,e1.2.2,())).bind fun y2=>
  il (y2.1,())) fun (x16_3,_)=>
  (bif x16_3 then
  ir ((!(decide (x8≥(0:Int)))),())
  else
  let e4:Int:=(wr (x8+(1:Int)))
  il (e4,()))
  else
  ir ((!(decide ((-1:Int)≥(0:Int)))),()))) ((0:Int),())
  else
  some (false,()))
noncomputable def row_May.F:=stk row_May.B
theorem row_May.eq:row_May.F=row_May.B:=stk_eq _
theorem row_May.k:Kk row_May_1.s ddl_parser_view.q row_May.l Tryz.f71 row_May.d row_May.B:={}
noncomputable def row_May.s:SpL:=row_May.d.e [] row_May.F::row_May_1.s
theorem row_May.c:Ck row_May.s ddl_parser_view.q:=cS row_May_1.c row_May.k
/-! cmp.isNaN[int] -/
def cmp_isNaN_int.d:Fe:=⟨187,1,⟨[(0,.v false [.int .i64])],[],[],0,[]⟩,⟨[(0,.v false [.bool])],[],[],1000,[]⟩,.n⟩
noncomputable def cmp_isNaN_int.B:Int×Unit→Option (Bool×Unit):=fun (p0,_)=>
  some ((p0 !=p0),())
noncomputable def cmp_isNaN_int.F:=stk cmp_isNaN_int.B
theorem cmp_isNaN_int.eq:cmp_isNaN_int.F=cmp_isNaN_int.B:=stk_eq _
theorem cmp_isNaN_int.k:Kk row_May.s ddl_parser_view.q [] Tryz.f187 cmp_isNaN_int.d cmp_isNaN_int.B:={}
noncomputable def cmp_isNaN_int.s:SpL:=cmp_isNaN_int.d.e [] cmp_isNaN_int.F::row_May.s
theorem cmp_isNaN_int.c:Ck cmp_isNaN_int.s ddl_parser_view.q:=cS row_May.c cmp_isNaN_int.k
/-! cmp.Compare[int] -/
def cmp_Compare_int.d:Fe:=⟨150,2,⟨[(0,.v false [.int .i64]),(1,.v false [.int .i64])],[],[],0,[]⟩,⟨[(0,.v false [.int .i64])],[],[],1000,[]⟩,.n⟩
noncomputable def cmp_Compare_int.B:Int×Int×Unit→Option (Int×Unit):=fun (p0,p1,_)=>
  (cmp_isNaN_int.F (p0,())).bind fun y1=>
  (cmp_isNaN_int.F (p1,())).bind fun y2=>
  (bif y1.1 then
  (bif y2.1 then
  some ((0:Int),())
  else
  some ((-1:Int),()))
  else
  (bif y2.1 then
  some ((1:Int),())
  else
  (bif (decide (p0<p1)) then
  some ((-1:Int),())
  else
  (bif (decide (p0>p1)) then
  some ((1:Int),())
  else
  some ((0:Int),())))))
noncomputable def cmp_Compare_int.F:=stk cmp_Compare_int.B
theorem cmp_Compare_int.eq:cmp_Compare_int.F=cmp_Compare_int.B:=stk_eq _
theorem cmp_Compare_int.k:Kk cmp_isNaN_int.s ddl_parser_view.q [] Tryz.f150 cmp_Compare_int.d cmp_Compare_int.B:={}
noncomputable def cmp_Compare_int.s:SpL:=cmp_Compare_int.d.e [] cmp_Compare_int.F::cmp_isNaN_int.s
theorem cmp_Compare_int.c:Ck cmp_Compare_int.s ddl_parser_view.q:=cS cmp_isNaN_int.c cmp_Compare_int.k
/-! strings.Compare -/
def strings_Compare.d:Fe:=⟨151,2,⟨[(0,.v false [.str]),(1,.v false [.str])],[],[],0,[]⟩,⟨[(0,.v false [.int .i64])],[],[],1000,[]⟩,.n⟩
noncomputable def strings_Compare.B:TS strings_Compare.d.si→Option (TS strings_Compare.d.so):=fun (a,b,_)=>some (cmpB a b,())
noncomputable def strings_Compare.F:=stk strings_Compare.B
theorem strings_Compare.eq:strings_Compare.F=strings_Compare.B:=stk_eq _
theorem strings_Compare.ok:SpecOk PP 151 ⟨2,strings_Compare.d.si,strings_Compare.d.so,strings_Compare.F⟩:=by
  rw [strings_Compare.eq]
  exact compare_ok
noncomputable def strings_Compare.s:SpL:=strings_Compare.d.e [] strings_Compare.F::cmp_Compare_int.s
theorem strings_Compare.c:Ck strings_Compare.s ddl_parser_view.q:=CxOk.consS cmp_Compare_int.c [] ⟨_,Tryz.func151,by kernel_rfl,by decide⟩ strings_Compare.ok
/-! cmp.Or[int] -/
def cmp_Or_int.d:Fe:=⟨149,1,⟨[(0,.v false [.sl 3 (.int .i64)])],[],[],0,[]⟩,⟨[(0,.v false [.int .i64])],[],[],1000,[]⟩,(.s none .n (.s none .n (.s none (.s none .n (.b (.l ⟨[(8,.v false [.int .i64])],[],[3,6,7],0,[]⟩ .n))) .n)))⟩
noncomputable def cmp_Or_int.B:(List Int)×Unit→Option (Int×Unit):=fun (p0,_)=>
  loopM (S:=Int×Unit) (fun (x8,_)=>
  (bif (decide (x8<(p0.length:Int))) then
  ck (ib x8 p0.length)<|
  let e1:Int:=(gt p0 x8 (0:Int))
  (bif (e1 !=(0:Int)) then
  ir (e1,())
  else
  let e2:Int:=(wr (x8+(1:Int)))
  il (e2,()))
  else
  ir ((0:Int),()))) ((0:Int),())
noncomputable def cmp_Or_int.F:=stk cmp_Or_int.B
theorem cmp_Or_int.eq:cmp_Or_int.F=cmp_Or_int.B:=stk_eq _
theorem cmp_Or_int.k:Kk strings_Compare.s ddl_parser_view.q [] Tryz.f149 cmp_Or_int.d cmp_Or_int.B:={}
noncomputable def cmp_Or_int.s:SpL:=cmp_Or_int.d.e [] cmp_Or_int.F::strings_Compare.s
theorem cmp_Or_int.c:Ck cmp_Or_int.s ddl_parser_view.q:=cS strings_Compare.c cmp_Or_int.k
/-! levee/value.Compare -/
def value_Compare.d:Fe:=⟨128,2,⟨[(0,.v true [.int .i64,.int .i64,.str]),(1,.v true [.int .i64,.int .i64,.str])],[],[],0,[]⟩,⟨[(0,.v false [.int .i64])],[],[],1000,[]⟩,.n⟩
noncomputable def value_Compare.B:Int×Int×ByteArray×Int×Int×ByteArray×Unit→Option (Int×Unit):=fun (p0_0,p0_1,p0_2,p1_0,p1_1,p1_2,_)=>
  (cmp_Compare_int.F (p0_0,p1_0,())).bind fun y1=>
  (cmp_Compare_int.F (p0_1,p1_1,())).bind fun y2=>
  (strings_Compare.F (p0_2,p1_2,())).bind fun y3=>
  (cmp_Or_int.F ([y1.1,y2.1,y3.1],())).bind fun y4=>
  some (y4.1,())
noncomputable def value_Compare.F:=stk value_Compare.B
theorem value_Compare.eq:value_Compare.F=value_Compare.B:=stk_eq _
theorem value_Compare.k:Kk cmp_Or_int.s ddl_parser_view.q [] Tryz.f128 value_Compare.d value_Compare.B:={}
noncomputable def value_Compare.s:SpL:=value_Compare.d.e [] value_Compare.F::cmp_Or_int.s
theorem value_Compare.c:Ck value_Compare.s ddl_parser_view.q:=cS cmp_Or_int.c value_Compare.k
/-! levee/key.Compare -/
def key_Compare.d:Fe:=⟨106,2,⟨[(0,.v false [.sl 45 tValue]),(1,.v false [.sl 45 tValue])],[],[],0,[]⟩,⟨[(0,.v false [.int .i64])],[],[],1000,[]⟩,.n⟩
noncomputable def key_Compare.l:InT:=[(127,[],Tryz.f127,(.s none .n (.s (some ⟨[],[],[0,1],0,[]⟩) (.s none .n (.b (.l ⟨[(13,.v false [.int .i64])],[],[0,1,2,11,12],0,[]⟩ (.s none .n (.s none .n (.s none (.b (.s none .n (.s none .n (.s none .n (.s (some ⟨[(10,.v false [.int .i64])],[],[0,1,2,11,12,13],0,[]⟩) .n .n))))) .n)))))) .n)))]
noncomputable def key_Compare.B:(List tValueT)×(List tValueT)×Unit→Option (Int×Unit):=fun (p0,p1,_)=>
  jn (S:=Unit) (
  loopM (S:=Int×Unit) (fun (x13,_)=>
  (bif (decide (x13<(p0.length:Int))) then
  ck (ib x13 p0.length)<|
  let e1:tValueT:=(gt p0 x13 tValue.z)
  (bif (decide (x13≥(p1.length:Int))) then
  ir (.inr ((1:Int),()))
  else
  ck (ib x13 p1.length)<|
  let e2:tValueT:=(gt p1 x13 tValue.z)
  jn (S:=Int×Unit) (
  (value_Compare.F (e1.1,e1.2.1,e1.2.2,e2.1,e2.2.1,e2.2.2,())).bind fun y3=>
  il (y3.1,())) fun (x10_4,_)=>
  (bif (x10_4 !=(0:Int)) then
  ir (.inr (x10_4,()))
  else
  let e5:Int:=(wr (x13+(1:Int)))
  il (e5,())))
  else
  ir (.inl (())))) ((0:Int),())) fun (_)=>
  (bif (decide ((p0.length:Int)<(p1.length:Int))) then
  some ((-1:Int),())
  else
  some ((0:Int),()))
noncomputable def key_Compare.F:=stk key_Compare.B
theorem key_Compare.eq:key_Compare.F=key_Compare.B:=stk_eq _
theorem key_Compare.k:Kk value_Compare.s ddl_parser_view.q key_Compare.l Tryz.f106 key_Compare.d key_Compare.B:={}
noncomputable def key_Compare.s:SpL:=key_Compare.d.e [] key_Compare.F::value_Compare.s
theorem key_Compare.c:Ck key_Compare.s ddl_parser_view.q:=cS value_Compare.c key_Compare.k
/-! levee/row.Compare -/
def row_Compare.d:Fe:=⟨72,2,⟨[(0,.v false [.sl 45 tValue]),(1,.v false [.sl 45 tValue])],[],[],0,[]⟩,⟨[(0,.v false [.int .i64])],[],[],1000,[]⟩,.n⟩
noncomputable def row_Compare.B:(List tValueT)×(List tValueT)×Unit→Option (Int×Unit):=fun (p0,p1,_)=>
  (key_Compare.F (p0,p1,())).bind fun y1=>
  some (y1.1,())
noncomputable def row_Compare.F:=stk row_Compare.B
theorem row_Compare.eq:row_Compare.F=row_Compare.B:=stk_eq _
theorem row_Compare.k:Kk key_Compare.s ddl_parser_view.q [] Tryz.f72 row_Compare.d row_Compare.B:={}
noncomputable def row_Compare.s:SpL:=row_Compare.d.e [] row_Compare.F::key_Compare.s
theorem row_Compare.c:Ck row_Compare.s ddl_parser_view.q:=cS key_Compare.c row_Compare.k
/-! levee/bag.May -/
def bag_May.d:Fe:=⟨40,1,⟨[(0,.v false [.sl 49 tCount])],[],[],0,[]⟩,⟨[(0,.v false [.bool])],[],[],1000,[]⟩,(.s none .n (.s none (.s none .n (.b (.l ⟨[(7,.v false [.int .i64])],[],[0,5,6],0,[]⟩ (.s none .n (.s none .n (.s none (.b (.s none .n (.s (some ⟨[(42,.v false [.bool])],[],[0,5,6,7],0,[]⟩) .n .n))) .n)))))) .n))⟩
noncomputable def bag_May.B:(List tCountT)×Unit→Option (Bool×Unit):=fun (p0,_)=>
  loopM (S:=Int×Unit) (fun (x7,_)=>
  (bif (decide (x7<(p0.length:Int))) then
  ck (ib x7 p0.length)<|
  let e1:tCountT:=(gt p0 x7 tCount.z)
  jn (S:=Bool×Unit) (
  (bif (e1.2==(0:Int)) then
  il (true,())
  else
  (bag_fits.F (e1.2,())).bind fun y2=>
  (bif (!y2.1) then
  il (true,())
  else
  (row_May.F (e1.1,())).bind fun y3=>
  (bif (!y3.1) then
  il (true,())
  else
  (bif (decide (x7>(0:Int))) then
  let e4:Int:=(wr (x7-(1:Int)))
  ck (ib e4 p0.length)<|
  let e5:tCountT:=(gt p0 e4 tCount.z)
  (row_Compare.F (e5.1,e1.1,())).bind fun y6=>
  il ((decide (y6.1≥(0:Int))),())
  else
  il (false,())))))) fun (x42_7,_)=>
  (bif x42_7 then
  ir (false,())
  else
  let e8:Int:=(wr (x7+(1:Int)))
  il (e8,()))
  else
  ir (true,()))) ((0:Int),())
noncomputable def bag_May.F:=stk bag_May.B
theorem bag_May.eq:bag_May.F=bag_May.B:=stk_eq _
theorem bag_May.k:Kk row_Compare.s ddl_parser_view.q [] Tryz.f40 bag_May.d bag_May.B:={}
noncomputable def bag_May.s:SpL:=bag_May.d.e [] bag_May.F::row_Compare.s
theorem bag_May.c:Ck bag_May.s ddl_parser_view.q:=cS row_Compare.c bag_May.k
/-! levee/closure.May -/
def closure_May.d:Fe:=⟨24,2,⟨[(0,.v false [.sl 69 tDef]),(1,.v false [.sl 72 tSource])],[],[],0,[]⟩,⟨[(0,.v false [.bool])],[],[],1000,[]⟩,(.s none .n (.s none .n (.s none .n (.s none .n (.s none (.s none .n (.b (.l ⟨[(22,.v false [.int .i64])],[],[5,20,21],0,[]⟩ (.s none .n (.s none .n (.s (some ⟨[],[],[5,20,21,22],0,[]⟩) (.b (.s none .n (.s (some ⟨[],[],[5,6,7,20,21,22],0,[]⟩) .n (.s none .n (.b (.l ⟨[(44,.v false [.int .i64])],[],[5,6,7,20,21,22,42,43],0,[]⟩ (.s none .n (.s none .n (.s none (.b (.s none .n (.s (some ⟨[(91,.v false [.bool])],[],[5,6,7,20,21,22,42,43,44],0,[]⟩) .n .n))) .n))))))))) .n)))))) .n)))))⟩
noncomputable def closure_May.B:(List tDefT)×(List tSourceT)×Unit→Option (Bool×Unit):=fun (p0,p1,_)=>
  (schema_May.F (p0,())).bind fun y1=>
  (bif (!y1.1) then
  some (false,())
  else
  (closure_tables.F (p0,())).bind fun y2=>
  (bif ((y2.1.length:Int) !=(p1.length:Int)) then
  some (false,())
  else
  loopM (S:=Int×Unit) (fun (x22,_)=>
  (bif (decide (x22<(p1.length:Int))) then
  jn (S:=Unit) (
  ck (ib x22 p1.length)<|
  let e3:tSourceT:=(gt p1 x22 tSource.z)
  jn (S:=Unit) (
  ck (ib x22 y2.1.length)<|
  let e4:tTableT:=(List.getD y2.1 (Int.toNat x22) tTable.z)
  (bif (!sq e3.1 e4.1) then
  ir (.inr (.inr (false,())))
  else
  (bag_May.F (e3.2,())).bind fun y5=>
  (bif (!y5.1) then
  ir (.inr (.inr (false,())))
  else
  il (())))) fun (_)=>
  loopM (S:=Int×Unit) (fun (x44',_)=>
  (bif (decide (x44'<(e3.2.length:Int))) then
  ck (ib x44' e3.2.length)<|
  let e7:tCountT:=(gt e3.2 x44' tCount.z)
  jn (S:=Bool×Unit) (
  (bif (e7.2 !=(1:Int)) then
  il (true,())
  else
  ck (ib x22 y2.1.length)<|
  let e8:tTableT:=(List.getD y2.1 (Int.toNat x22) tTable.z)
  (bif ((e7.1.length:Int) !=(e8.2.1.length:Int)) then
  il (true,())
  else
  ck (ib (0:Int) e7.1.length)<|
  let e9:tValueT:=(List.getD e7.1 0 tValue.z)
  (bif (e9.1==(0:Int)) then
  il (true,())
  else
  (bif (decide (x44'>(0:Int))) then
  let e10:Int:=(wr (x44'-(1:Int)))
  ck (ib e10 e3.2.length)<|
  let e11:tCountT:=(gt e3.2 e10 tCount.z)
  ck (ib (0:Int) e11.1.length)<|
  let e12:tValueT:=(List.getD e11.1 0 tValue.z)
  ck (ib (0:Int) e7.1.length)<|
  let e13:tValueT:=(List.getD e7.1 0 tValue.z)
  il ((Ty.eq tValue e12 e13),())
  else
  il (false,())))))) fun (x91_14,_)=>
  (bif x91_14 then
  ir (.inr (.inr (false,())))
  else
  let e15:Int:=(wr (x44'+(1:Int)))
  il (e15,()))
  else
  ir (.inl (())))) ((0:Int),())) fun (_)=>
  let e17:Int:=(wr (x22+(1:Int)))
  il (e17,())
  else
  ir (true,()))) ((0:Int),())))
noncomputable def closure_May.F:=stk closure_May.B
theorem closure_May.eq:closure_May.F=closure_May.B:=stk_eq _
theorem closure_May.k:Kk bag_May.s ddl_parser_view.q [] Tryz.f24 closure_May.d closure_May.B:={}
noncomputable def closure_May.s:SpL:=closure_May.d.e [] closure_May.F::bag_May.s
theorem closure_May.c:Ck closure_May.s ddl_parser_view.q:=cS bag_May.c closure_May.k
/-! levee/view.Look -/
def view_Look.d:Fe:=⟨41,2,⟨[(0,.v false [.sl 72 tSource]),(1,.v false [.str])],[],[],0,[]⟩,⟨[(0,.v false [.sl 49 tCount])],[],[],1000,[]⟩,.n⟩
noncomputable def view_Look.l:InT:=[(73,[(1,74)],Tryz.f73,(.s none .n (.s none (.s none .n (.b (.l ⟨[(8,.v false [.int .i64])],[],[0,1,7],0,[]⟩ (.s none .n (.s none .n (.s none (.b (.s none .n (.s (some ⟨[(16,.v false [.bool])],[],[0,1,5,7,8],0,[]⟩) .n .n))) .n)))))) .n))),(74,[],Tryz.f74,.n)]
noncomputable def view_Look.B:(List tSourceT)×ByteArray×Unit→Option ((List tCountT)×Unit):=fun (p0,p1,_)=>
  loopM (S:=Int×Unit) (fun (x8,_)=>
  (bif (decide (x8<(p0.length:Int))) then
  jn (S:=Bool×Unit) (
  ck (ib x8 p0.length)<|
  let e1:tSourceT:=(gt p0 x8 tSource.z)
  il ((sq e1.1 p1),())) fun (x16_2,_)=>
  (bif x16_2 then
  Option.map Sum.inr ((bif (decide (x8<(0:Int))) then
  some (([]:List tCountT),())
  else
  ck (ib x8 p0.length)<|
  let e3:tSourceT:=(gt p0 x8 tSource.z)
  some (e3.2,())))
  else
  let e4:Int:=(wr (x8+(1:Int)))
  il (e4,()))
  else
  Option.map Sum.inr ((bif (decide ((-1:Int)<(0:Int))) then
  some (([]:List tCountT),())
  else
  ck (ib (-1:Int) p0.length)<|
  let e5:tSourceT:=(gt p0 (-1:Int) tSource.z)
  some (e5.2,()))))) ((0:Int),())
noncomputable def view_Look.F:=stk view_Look.B
theorem view_Look.eq:view_Look.F=view_Look.B:=stk_eq _
theorem view_Look.k:Kk closure_May.s ddl_parser_view.q view_Look.l Tryz.f41 view_Look.d view_Look.B:={}
noncomputable def view_Look.s:SpL:=view_Look.d.e [] view_Look.F::closure_May.s
theorem view_Look.c:Ck view_Look.s ddl_parser_view.q:=cS closure_May.c view_Look.k
/-! (levee/check.checker).kinds -/
def check_checker_kinds.d:Fe:=⟨42,1,⟨[(0,.v true [.str,.sl 43 tColumn,.sl 63 (.sl 77 tNode),.sl 49 tCount,.sl 72 tSource])],[],[],0,[]⟩,⟨[(0,.v false [.int .i64])],[],[],1000,[]⟩,(.s none .n (.s none (.s none .n (.b (.l ⟨[(11,.v false [.int .i64])],[],[1,9,10],0,[]⟩ (.s none .n (.s none .n (.s (some ⟨[],[],[1,9,10,11],0,[]⟩) (.b (.s none .n (.s none .n (.b (.l ⟨[(18,.v false [.int .i64])],[],[1,9,10,11,16,17],0,[]⟩ .n))))) .n)))))) .n))⟩
noncomputable def check_checker_kinds.B:ByteArray×(List tColumnT)×(List (List tNodeT))×(List tCountT)×(List tSourceT)×Unit→Option (Int×Unit):=fun (p0_0,p0_1,p0_2,p0_3,p0_4,_)=>
  loopM (S:=Int×Unit) (fun (x11,_)=>
  (bif (decide (x11<(p0_3.length:Int))) then
  jn (S:=Unit) (
  ck (ib x11 p0_3.length)<|
  let e1:tCountT:=(gt p0_3 x11 tCount.z)
  loopM (S:=Int×Unit) (fun (x18',_)=>
  (bif (decide (x18'<(e1.1.length:Int))) then
  ck (ib x18' e1.1.length)<|
  let e2:tValueT:=(gt e1.1 x18' tValue.z)
  ck (ib x18' p0_1.length)<|
  let e3:tColumnT:=(gt p0_1 x18' tColumn.z)
  (bif (e2.1 !=e3.2.1) then
  (bif e3.2.2.1 then
  (bif (!(e2.1==(0:Int))) then
  ir (.inr (.inr (x18',())))
  else
  let e4:Int:=(wr (x18'+(1:Int)))
  il (e4,()))
  else
  ir (.inr (.inr (x18',()))))
  else
  let e5:Int:=(wr (x18'+(1:Int)))
  il (e5,()))
  else
  ir (.inl (())))) ((0:Int),())) fun (_)=>
  let e7:Int:=(wr (x11+(1:Int)))
  il (e7,())
  else
  ir ((-1:Int),()))) ((0:Int),())
noncomputable def check_checker_kinds.F:=stk check_checker_kinds.B
theorem check_checker_kinds.eq:check_checker_kinds.F=check_checker_kinds.B:=stk_eq _
theorem check_checker_kinds.k:Kk view_Look.s ddl_parser_view.q [] Tryz.f42 check_checker_kinds.d check_checker_kinds.B:={}
noncomputable def check_checker_kinds.s:SpL:=check_checker_kinds.d.e [] check_checker_kinds.F::view_Look.s
theorem check_checker_kinds.c:Ck check_checker_kinds.s ddl_parser_view.q:=cS view_Look.c check_checker_kinds.k
/-! (levee/check.checker).unique -/
def check_checker_unique.d:Fe:=⟨43,1,⟨[(0,.v true [.str,.sl 43 tColumn,.sl 63 (.sl 77 tNode),.sl 49 tCount,.sl 72 tSource])],[],[],0,[]⟩,⟨[(0,.v false [.int .i64])],[],[],1000,[]⟩,(.s none .n (.s none (.s none .n (.b (.l ⟨[(13,.v false [.int .i64])],[],[1,11,12],0,[]⟩ (.s none .n (.s none .n (.s (some ⟨[],[],[1,11,12,13],0,[]⟩) (.b (.s none .n (.s none .n (.s none .n (.s none .n (.b (.l ⟨[(5,.v false [.ref 0]),(25,.v false [.int .i64])],[(0,true,.mp (false,true) .bool)],[1,3,11,12,13,23,24],1,[]⟩ .n))))))) .n)))))) .n))⟩
noncomputable def check_checker_unique.B:ByteArray×(List tColumnT)×(List (List tNodeT))×(List tCountT)×(List tSourceT)×Unit→Option (Int×Unit):=fun (p0_0,p0_1,p0_2,p0_3,p0_4,_)=>
  loopM (S:=Int×Unit) (fun (x13,_)=>
  (bif (decide (x13<(p0_1.length:Int))) then
  jn (S:=Unit) (
  ck (ib x13 p0_1.length)<|
  let e1:tColumnT:=(gt p0_1 x13 tColumn.z)
  (bif (!e1.2.2.2.1) then
  il (())
  else
  loopM (S:=Int×(List (Value×Bool))×Unit) (fun (x25',o5_0',_)=>
  (bif (decide (x25'<(p0_3.length:Int))) then
  ck (ib x25' p0_3.length)<|
  let e2:tCountT:=(gt p0_3 x25' tCount.z)
  ck (ib x13 e2.1.length)<|
  let e3:tValueT:=(gt e2.1 x13 tValue.z)
  (bif (e3.1 !=(0:Int)) then
  let e4:Bool:=(Option.getD (getKV (kV e3.1 e3.2.1 e3.2.2) o5_0') false)
  (bif e4 then
  ir (.inr (.inr (x13,())))
  else
  let e5:Int:=(wr (x25'+(1:Int)))
  il (e5,(putKV (kV e3.1 e3.2.1 e3.2.2) true o5_0'),()))
  else
  let e6:Int:=(wr (x25'+(1:Int)))
  il (e6,(putKV (kV e3.1 e3.2.1 e3.2.2) true o5_0'),()))
  else
  ir (.inl (())))) ((0:Int),([]:List (Value×Bool)),()))) fun (_)=>
  let e8:Int:=(wr (x13+(1:Int)))
  il (e8,())
  else
  ir ((-1:Int),()))) ((0:Int),())
noncomputable def check_checker_unique.F:=stk check_checker_unique.B
theorem check_checker_unique.eq:check_checker_unique.F=check_checker_unique.B:=stk_eq _
theorem check_checker_unique.k:Kk check_checker_kinds.s ddl_parser_view.q [] Tryz.f43 check_checker_unique.d check_checker_unique.B:={}
noncomputable def check_checker_unique.s:SpL:=check_checker_unique.d.e [] check_checker_unique.F::check_checker_kinds.s
theorem check_checker_unique.c:Ck check_checker_unique.s ddl_parser_view.q:=cS check_checker_kinds.c check_checker_unique.k
/-! (levee/check.checker).refs -/
def check_checker_refs.d:Fe:=⟨44,1,⟨[(0,.v true [.str,.sl 43 tColumn,.sl 63 (.sl 77 tNode),.sl 49 tCount,.sl 72 tSource])],[],[],0,[]⟩,⟨[(0,.v false [.int .i64])],[],[],1000,[]⟩,(.s none .n (.s none (.s none .n (.b (.l ⟨[(14,.v false [.int .i64])],[],[1,12,13],0,[]⟩ (.s none .n (.s none .n (.s (some ⟨[],[],[1,12,13,14],0,[]⟩) (.b (.s none .n (.s none .n (.s none .n (.s (some ⟨[(5,.v false [.ref 0])],[(0,true,.mp (false,true) .bool)],[1,3,12,13,14],1,[]⟩) (.s none .n (.b (.l ⟨[(5,.v false [.ref 0]),(31,.v false [.int .i64])],[(0,true,.mp (false,true) .bool)],[1,3,12,13,14,29,30],1,[]⟩ .n))) (.s none .n (.b (.l ⟨[(44,.v false [.int .i64])],[],[1,3,5,12,13,14,42,43],0,[]⟩ .n)))))))) .n)))))) .n))⟩
noncomputable def check_checker_refs.B:ByteArray×(List tColumnT)×(List (List tNodeT))×(List tCountT)×(List tSourceT)×Unit→Option (Int×Unit):=fun (p0_0,p0_1,p0_2,p0_3,p0_4,_)=>
  loopM (S:=Int×Unit) (fun (x14,_)=>
  (bif (decide (x14<(p0_1.length:Int))) then
  jn (S:=Unit) (
  ck (ib x14 p0_1.length)<|
  let e1:tColumnT:=(gt p0_1 x14 tColumn.z)
  (bif (sq e1.2.2.2.2.1 (⟨#[]⟩:ByteArray)) then
  il (())
  else
  jn (S:=(List (Value×Bool))×Unit) (
  (view_Look.F (p0_4,e1.2.2.2.2.1,())).bind fun y2=>
  loopM (S:=Int×(List (Value×Bool))×Unit) (fun (x31',o5_0',_)=>
  (bif (decide (x31'<(y2.1.length:Int))) then
  ck (ib x31' y2.1.length)<|
  let e3:tCountT:=(gt y2.1 x31' tCount.z)
  ck (ib (0:Int) e3.1.length)<|
  let e4:tValueT:=(List.getD e3.1 0 tValue.z)
  let e5:Int:=(wr (x31'+(1:Int)))
  il (e5,(putKV (kV e4.1 e4.2.1 e4.2.2) true o5_0'),())
  else
  ir (.inl (o5_0',())))) ((0:Int),(putKV (kV (0:Int) (0:Int) (⟨#[]⟩:ByteArray)) true ([]:List (Value×Bool))),())) fun (o5_0_6,_)=>
  loopM (S:=Int×Unit) (fun (x44',_)=>
  (bif (decide (x44'<(p0_3.length:Int))) then
  ck (ib x44' p0_3.length)<|
  let e7:tCountT:=(gt p0_3 x44' tCount.z)
  ck (ib x14 e7.1.length)<|
  let e8:tValueT:=(gt e7.1 x14 tValue.z)
  let e9:Bool:=(Option.getD (getKV (kV e8.1 e8.2.1 e8.2.2) o5_0_6) false)
  (bif (!e9) then
  ir (.inr (.inr (x14,())))
  else
  let e10:Int:=(wr (x44'+(1:Int)))
  il (e10,()))
  else
  ir (.inl (())))) ((0:Int),()))) fun (_)=>
  let e12:Int:=(wr (x14+(1:Int)))
  il (e12,())
  else
  ir ((-1:Int),()))) ((0:Int),())
noncomputable def check_checker_refs.F:=stk check_checker_refs.B
theorem check_checker_refs.eq:check_checker_refs.F=check_checker_refs.B:=stk_eq _
theorem check_checker_refs.k:Kk check_checker_unique.s ddl_parser_view.q [] Tryz.f44 check_checker_refs.d check_checker_refs.B:={}
noncomputable def check_checker_refs.s:SpL:=check_checker_refs.d.e [] check_checker_refs.F::check_checker_unique.s
theorem check_checker_refs.c:Ck check_checker_refs.s ddl_parser_view.q:=cS check_checker_unique.c check_checker_refs.k
/-! (*levee/expr.stack[levee/api.Value]).pop -/
def expr_stack_api_Value_pop.d:Fe:=⟨130,1,⟨[(0,.v false [.ptr 0 0])],[(0,true,.box 160 [.ref 1,.bool,.sl 45 tValue]),(1,true,.arr 45 tValue)],[],2,[]⟩,⟨[(0,.v true [.int .i64,.int .i64,.str])],[(0,true,.box 160 [.ref 1001,.bool,.sl 45 tValue]),(1001,false,.arr 45 tValue)],[],1002,[(0,0)]⟩,.n⟩
noncomputable def expr_stack_api_Value_pop.B:Bool×(List tValueT)×(List tValueT)×Unit→Option (Int×Int×ByteArray×Bool×(List tValueT)×(List tValueT)×Unit):=fun (o0_1,o0_2,o0_0,_)=>
  (bif ((o0_0.length:Int)==(0:Int)) then
  some ((0:Int),(0:Int),(⟨#[]⟩:ByteArray),false,o0_2,o0_0,())
  else
  let e1:Int:=(wr ((o0_0.length:Int)-(1:Int)))
  ck (ib e1 o0_0.length)<|
  let e2:tValueT:=(List.getD o0_0 (Int.toNat e1) tValue.z)
  let e3:Int:=(wr ((o0_0.length:Int)-(1:Int)))
  ck (sb (0:Int) e3 o0_0.length)<|
  some (e2.1,e2.2.1,e2.2.2,o0_1,o0_2,(List.take (Int.toNat e3) o0_0),()))
noncomputable def expr_stack_api_Value_pop.F:=stk expr_stack_api_Value_pop.B
theorem expr_stack_api_Value_pop.eq:expr_stack_api_Value_pop.F=expr_stack_api_Value_pop.B:=stk_eq _
theorem expr_stack_api_Value_pop.k:Kk check_checker_refs.s ddl_parser_view.q [] Tryz.f130 expr_stack_api_Value_pop.d expr_stack_api_Value_pop.B:={}
noncomputable def expr_stack_api_Value_pop.s:SpL:=expr_stack_api_Value_pop.d.e [] expr_stack_api_Value_pop.F::check_checker_refs.s
theorem expr_stack_api_Value_pop.c:Ck expr_stack_api_Value_pop.s ddl_parser_view.q:=cS check_checker_refs.c expr_stack_api_Value_pop.k
/-! (*levee/expr.stack[levee/api.Value]).push -/
def expr_stack_api_Value_push.d:Fe:=⟨131,2,⟨[(0,.v false [.ptr 0 0]),(1,.v true [.int .i64,.int .i64,.str])],[(0,true,.box 160 [.ref 1,.bool,.sl 45 tValue]),(1,true,.arr 45 tValue)],[],2,[]⟩,⟨[(0,.tup [])],[(0,true,.box 160 [.ref 1001,.bool,.sl 45 tValue]),(1001,false,.arr 45 tValue)],[],1002,[(0,0)]⟩,.n⟩
noncomputable def expr_stack_api_Value_push.B:Int×Int×ByteArray×Bool×(List tValueT)×(List tValueT)×Unit→Option (Bool×(List tValueT)×(List tValueT)×Unit):=fun (p1_0,p1_1,p1_2,o0_1,o0_2,o0_0,_)=>
  ck (Nat.ble (o0_0.length+ [(p1_0,(p1_1,p1_2))].length) 4398046511104)<|
  some (o0_1,o0_2,(o0_0++ [(p1_0,(p1_1,p1_2))]),())
noncomputable def expr_stack_api_Value_push.F:=stk expr_stack_api_Value_push.B
theorem expr_stack_api_Value_push.eq:expr_stack_api_Value_push.F=expr_stack_api_Value_push.B:=stk_eq _
theorem expr_stack_api_Value_push.k:Kk expr_stack_api_Value_pop.s ddl_parser_view.q [] Tryz.f131 expr_stack_api_Value_push.d expr_stack_api_Value_push.B:={}
noncomputable def expr_stack_api_Value_push.s:SpL:=expr_stack_api_Value_push.d.e [] expr_stack_api_Value_push.F::expr_stack_api_Value_pop.s
theorem expr_stack_api_Value_push.c:Ck expr_stack_api_Value_push.s ddl_parser_view.q:=cS expr_stack_api_Value_pop.c expr_stack_api_Value_push.k
/-! levee/value.Add$1 -/
def value_Add_1.d:Fe:=⟨190,2,⟨[(0,.v false [.int .i64]),(1,.v false [.int .i64])],[],[],0,[]⟩,⟨[(0,.tup [(false,[.int .i64]),(false,[.bool])])],[],[],1000,[]⟩,.n⟩
noncomputable def value_Add_1.B:Int×Int×Unit→Option (Int×Bool×Unit):=fun (p0,p1,_)=>
  let e1:Int:=(wr (p0+p1))
  (bif ((decide (e1>p0))==(decide (p1>(0:Int)))) then
  some (e1,true,())
  else
  some (e1,(p1==(0:Int)),()))
noncomputable def value_Add_1.F:=stk value_Add_1.B
theorem value_Add_1.eq:value_Add_1.F=value_Add_1.B:=stk_eq _
theorem value_Add_1.k:Kk expr_stack_api_Value_push.s ddl_parser_view.q [] Tryz.f190 value_Add_1.d value_Add_1.B:={}
noncomputable def value_Add_1.s:SpL:=value_Add_1.d.e [] value_Add_1.F::expr_stack_api_Value_push.s
theorem value_Add_1.c:Ck value_Add_1.s ddl_parser_view.q:=cS expr_stack_api_Value_push.c value_Add_1.k
/-! levee/value.Add -/
def value_Add.d:Fe:=⟨153,2,⟨[(0,.v true [.int .i64,.int .i64,.str]),(1,.v true [.int .i64,.int .i64,.str])],[],[],0,[]⟩,⟨[(0,.tup [(true,[.int .i64,.int .i64,.str]),(false,[.bool])])],[],[],1000,[]⟩,.n⟩
noncomputable def value_Add.l:InT:=[(189,[],Tryz.f189,(.s none .n (.s (some ⟨[],[],[2,3,4,6],0,[]⟩) (.b (.s (some ⟨[(10,.v false [.bool])],[],[2,3,4,6],0,[]⟩) .n .n)) (.s (some ⟨[(8,.v false [.int .i64]),(9,.v false [.bool])],[],[6],0,[]⟩) .n .n))))]
noncomputable def value_Add.B:Int×Int×ByteArray×Int×Int×ByteArray×Unit→Option (Int×Int×ByteArray×Bool×Unit):=fun (p0_0,p0_1,p0_2,p1_0,p1_1,p1_2,_)=>
  jn (S:=Unit) (
  jn (S:=Bool×Unit) (
  (bif (p0_0==(0:Int)) then
  il (true,())
  else
  il ((p1_0==(0:Int)),()))) fun (x10_1,_)=>
  (bif x10_1 then
  ir ((0:Int),(0:Int),(⟨#[]⟩:ByteArray),true,())
  else
  (bif (p0_0 !=(2:Int)) then
  ir ((0:Int),(0:Int),(⟨#[]⟩:ByteArray),false,())
  else
  (bif (p1_0 !=(2:Int)) then
  ir ((0:Int),(0:Int),(⟨#[]⟩:ByteArray),false,())
  else
  il (()))))) fun (_)=>
  jn (S:=Int×Bool×Unit) (
  (value_Add_1.F (p0_1,p1_1,())).bind fun y3=>
  il (y3.1,y3.2.1,())) fun (x8_4,x9_4,_)=>
  (bif (!x9_4) then
  some ((0:Int),(0:Int),(⟨#[]⟩:ByteArray),false,())
  else
  some ((2:Int),x8_4,(⟨#[]⟩:ByteArray),true,()))
noncomputable def value_Add.F:=stk value_Add.B
theorem value_Add.eq:value_Add.F=value_Add.B:=stk_eq _
theorem value_Add.k:Kk value_Add_1.s ddl_parser_view.q value_Add.l Tryz.f153 value_Add.d value_Add.B:={}
noncomputable def value_Add.s:SpL:=value_Add.d.e [] value_Add.F::value_Add_1.s
theorem value_Add.c:Ck value_Add.s ddl_parser_view.q:=cS value_Add_1.c value_Add.k
/-! levee/value.Sub$1 -/
def value_Sub_1.d:Fe:=⟨191,2,⟨[(0,.v false [.int .i64]),(1,.v false [.int .i64])],[],[],0,[]⟩,⟨[(0,.tup [(false,[.int .i64]),(false,[.bool])])],[],[],1000,[]⟩,.n⟩
noncomputable def value_Sub_1.B:Int×Int×Unit→Option (Int×Bool×Unit):=fun (p0,p1,_)=>
  let e1:Int:=(wr (p0-p1))
  (bif ((decide (e1<p0))==(decide (p1>(0:Int)))) then
  some (e1,true,())
  else
  some (e1,(p1==(0:Int)),()))
noncomputable def value_Sub_1.F:=stk value_Sub_1.B
theorem value_Sub_1.eq:value_Sub_1.F=value_Sub_1.B:=stk_eq _
theorem value_Sub_1.k:Kk value_Add.s ddl_parser_view.q [] Tryz.f191 value_Sub_1.d value_Sub_1.B:={}
noncomputable def value_Sub_1.s:SpL:=value_Sub_1.d.e [] value_Sub_1.F::value_Add.s
theorem value_Sub_1.c:Ck value_Sub_1.s ddl_parser_view.q:=cS value_Add.c value_Sub_1.k
/-! levee/value.Sub -/
def value_Sub.d:Fe:=⟨154,2,⟨[(0,.v true [.int .i64,.int .i64,.str]),(1,.v true [.int .i64,.int .i64,.str])],[],[],0,[]⟩,⟨[(0,.tup [(true,[.int .i64,.int .i64,.str]),(false,[.bool])])],[],[],1000,[]⟩,.n⟩
noncomputable def value_Sub.l:InT:=[(189,[],Tryz.f189,(.s none .n (.s (some ⟨[],[],[2,3,4,6],0,[]⟩) (.b (.s (some ⟨[(10,.v false [.bool])],[],[2,3,4,6],0,[]⟩) .n .n)) (.s (some ⟨[(8,.v false [.int .i64]),(9,.v false [.bool])],[],[6],0,[]⟩) .n .n))))]
noncomputable def value_Sub.B:Int×Int×ByteArray×Int×Int×ByteArray×Unit→Option (Int×Int×ByteArray×Bool×Unit):=fun (p0_0,p0_1,p0_2,p1_0,p1_1,p1_2,_)=>
  jn (S:=Unit) (
  jn (S:=Bool×Unit) (
  (bif (p0_0==(0:Int)) then
  il (true,())
  else
  il ((p1_0==(0:Int)),()))) fun (x10_1,_)=>
  (bif x10_1 then
  ir ((0:Int),(0:Int),(⟨#[]⟩:ByteArray),true,())
  else
  (bif (p0_0 !=(2:Int)) then
  ir ((0:Int),(0:Int),(⟨#[]⟩:ByteArray),false,())
  else
  (bif (p1_0 !=(2:Int)) then
  ir ((0:Int),(0:Int),(⟨#[]⟩:ByteArray),false,())
  else
  il (()))))) fun (_)=>
  jn (S:=Int×Bool×Unit) (
  (value_Sub_1.F (p0_1,p1_1,())).bind fun y3=>
  il (y3.1,y3.2.1,())) fun (x8_4,x9_4,_)=>
  (bif (!x9_4) then
  some ((0:Int),(0:Int),(⟨#[]⟩:ByteArray),false,())
  else
  some ((2:Int),x8_4,(⟨#[]⟩:ByteArray),true,()))
noncomputable def value_Sub.F:=stk value_Sub.B
theorem value_Sub.eq:value_Sub.F=value_Sub.B:=stk_eq _
theorem value_Sub.k:Kk value_Sub_1.s ddl_parser_view.q value_Sub.l Tryz.f154 value_Sub.d value_Sub.B:={}
noncomputable def value_Sub.s:SpL:=value_Sub.d.e [] value_Sub.F::value_Sub_1.s
theorem value_Sub.c:Ck value_Sub.s ddl_parser_view.q:=cS value_Sub_1.c value_Sub.k
/-! levee/value.amount -/
def value_amount.d:Fe:=⟨194,1,⟨[(0,.v false [.int .i64])],[],[],0,[]⟩,⟨[(0,.v false [.int .u64])],[],[],1000,[]⟩,.n⟩
noncomputable def value_amount.B:Int×Unit→Option (Int×Unit):=fun (p0,_)=>
  (bif (decide (p0<(0:Int))) then
  some ((IntKind.u64.wrap (0-(IntKind.u64.wrap (p0)))),())
  else
  some ((IntKind.u64.wrap (p0)),()))
noncomputable def value_amount.F:=stk value_amount.B
theorem value_amount.eq:value_amount.F=value_amount.B:=stk_eq _
theorem value_amount.k:Kk value_Sub.s ddl_parser_view.q [] Tryz.f194 value_amount.d value_amount.B:={}
noncomputable def value_amount.s:SpL:=value_amount.d.e [] value_amount.F::value_Sub.s
theorem value_amount.c:Ck value_amount.s ddl_parser_view.q:=cS value_Sub.c value_amount.k
/-! levee/value.Mul$1 -/
def value_Mul_1.d:Fe:=⟨192,2,⟨[(0,.v false [.int .i64]),(1,.v false [.int .i64])],[],[],0,[]⟩,⟨[(0,.tup [(false,[.int .i64]),(false,[.bool])])],[],[],1000,[]⟩,.n⟩
noncomputable def value_Mul_1.B:Int×Int×Unit→Option (Int×Bool×Unit):=fun (p0,p1,_)=>
  (value_amount.F (p0,())).bind fun y1=>
  (value_amount.F (p1,())).bind fun y2=>
  (math_bits_Mul64.F (y1.1,y2.1,())).bind fun y3=>
  let e4:Int:=(wr (p0*p1))
  (bif (y3.1==(0:Int)) then
  (bif (decide (y3.2.1<(9223372036854775808:Int))) then
  some (e4,true,())
  else
  (bif (y3.2.1==(9223372036854775808:Int)) then
  some (e4,(!((decide (p0<(0:Int)))==(decide (p1<(0:Int))))),())
  else
  some (e4,false,())))
  else
  some (e4,false,()))
noncomputable def value_Mul_1.F:=stk value_Mul_1.B
theorem value_Mul_1.eq:value_Mul_1.F=value_Mul_1.B:=stk_eq _
theorem value_Mul_1.k:Kk value_amount.s ddl_parser_view.q [] Tryz.f192 value_Mul_1.d value_Mul_1.B:={}
noncomputable def value_Mul_1.s:SpL:=value_Mul_1.d.e [] value_Mul_1.F::value_amount.s
theorem value_Mul_1.c:Ck value_Mul_1.s ddl_parser_view.q:=cS value_amount.c value_Mul_1.k
/-! levee/value.Mul -/
def value_Mul.d:Fe:=⟨155,2,⟨[(0,.v true [.int .i64,.int .i64,.str]),(1,.v true [.int .i64,.int .i64,.str])],[],[],0,[]⟩,⟨[(0,.tup [(true,[.int .i64,.int .i64,.str]),(false,[.bool])])],[],[],1000,[]⟩,.n⟩
noncomputable def value_Mul.l:InT:=[(189,[],Tryz.f189,(.s none .n (.s (some ⟨[],[],[2,3,4,6],0,[]⟩) (.b (.s (some ⟨[(10,.v false [.bool])],[],[2,3,4,6],0,[]⟩) .n .n)) (.s (some ⟨[(8,.v false [.int .i64]),(9,.v false [.bool])],[],[6],0,[]⟩) .n .n))))]
noncomputable def value_Mul.B:Int×Int×ByteArray×Int×Int×ByteArray×Unit→Option (Int×Int×ByteArray×Bool×Unit):=fun (p0_0,p0_1,p0_2,p1_0,p1_1,p1_2,_)=>
  jn (S:=Unit) (
  jn (S:=Bool×Unit) (
  (bif (p0_0==(0:Int)) then
  il (true,())
  else
  il ((p1_0==(0:Int)),()))) fun (x10_1,_)=>
  (bif x10_1 then
  ir ((0:Int),(0:Int),(⟨#[]⟩:ByteArray),true,())
  else
  (bif (p0_0 !=(2:Int)) then
  ir ((0:Int),(0:Int),(⟨#[]⟩:ByteArray),false,())
  else
  (bif (p1_0 !=(2:Int)) then
  ir ((0:Int),(0:Int),(⟨#[]⟩:ByteArray),false,())
  else
  il (()))))) fun (_)=>
  jn (S:=Int×Bool×Unit) (
  (value_Mul_1.F (p0_1,p1_1,())).bind fun y3=>
  il (y3.1,y3.2.1,())) fun (x8_4,x9_4,_)=>
  (bif (!x9_4) then
  some ((0:Int),(0:Int),(⟨#[]⟩:ByteArray),false,())
  else
  some ((2:Int),x8_4,(⟨#[]⟩:ByteArray),true,()))
noncomputable def value_Mul.F:=stk value_Mul.B
theorem value_Mul.eq:value_Mul.F=value_Mul.B:=stk_eq _
theorem value_Mul.k:Kk value_Mul_1.s ddl_parser_view.q value_Mul.l Tryz.f155 value_Mul.d value_Mul.B:={}
noncomputable def value_Mul.s:SpL:=value_Mul.d.e [] value_Mul.F::value_Mul_1.s
theorem value_Mul.c:Ck value_Mul.s ddl_parser_view.q:=cS value_Mul_1.c value_Mul.k
/-! levee/value.Truth -/
def value_Truth.d:Fe:=⟨76,1,⟨[(0,.v false [.bool])],[],[],0,[]⟩,⟨[(0,.v true [.int .i64,.int .i64,.str])],[],[],1000,[]⟩,.n⟩
noncomputable def value_Truth.B:Bool×Unit→Option (Int×Int×ByteArray×Unit):=fun (p0,_)=>
  (bif p0 then
  some ((1:Int),(1:Int),(⟨#[]⟩:ByteArray),())
  else
  some ((1:Int),(0:Int),(⟨#[]⟩:ByteArray),()))
noncomputable def value_Truth.F:=stk value_Truth.B
theorem value_Truth.eq:value_Truth.F=value_Truth.B:=stk_eq _
theorem value_Truth.k:Kk value_Mul.s ddl_parser_view.q [] Tryz.f76 value_Truth.d value_Truth.B:={}
noncomputable def value_Truth.s:SpL:=value_Truth.d.e [] value_Truth.F::value_Mul.s
theorem value_Truth.c:Ck value_Truth.s ddl_parser_view.q:=cS value_Mul.c value_Truth.k
/-! slices.Index[[]levee/api.Value,levee/api.Value] -/
def slices_Index_sl_api_Value_api_Value.d:Fe:=⟨234,2,⟨[(0,.v false [.sl 45 tValue]),(1,.v true [.int .i64,.int .i64,.str])],[],[],0,[]⟩,⟨[(0,.v false [.int .i64])],[],[],1000,[]⟩,(.s none .n (.s none (.s none .n (.b (.l ⟨[(8,.v false [.int .i64])],[],[0,3,7],0,[]⟩ .n))) .n))⟩
noncomputable def slices_Index_sl_api_Value_api_Value.B:(List tValueT)×Int×Int×ByteArray×Unit→Option (Int×Unit):=fun (p0,p1_0,p1_1,p1_2,_)=>
  loopM (S:=Int×Unit) (fun (x8,_)=>
  (bif (decide (x8<(p0.length:Int))) then
  ck (ib x8 p0.length)<|
  let e1:tValueT:=(gt p0 x8 tValue.z)
  (bif (Ty.eq tValue (p1_0,(p1_1,p1_2)) e1) then
  ir (x8,())
  else
  let e2:Int:=(wr (x8+(1:Int)))
  il (e2,()))
  else
  ir ((-1:Int),()))) ((0:Int),())
noncomputable def slices_Index_sl_api_Value_api_Value.F:=stk slices_Index_sl_api_Value_api_Value.B
theorem slices_Index_sl_api_Value_api_Value.eq:slices_Index_sl_api_Value_api_Value.F=slices_Index_sl_api_Value_api_Value.B:=stk_eq _
theorem slices_Index_sl_api_Value_api_Value.k:Kk value_Truth.s ddl_parser_view.q [] Tryz.f234 slices_Index_sl_api_Value_api_Value.d slices_Index_sl_api_Value_api_Value.B:={}
noncomputable def slices_Index_sl_api_Value_api_Value.s:SpL:=slices_Index_sl_api_Value_api_Value.d.e [] slices_Index_sl_api_Value_api_Value.F::value_Truth.s
theorem slices_Index_sl_api_Value_api_Value.c:Ck slices_Index_sl_api_Value_api_Value.s ddl_parser_view.q:=cS value_Truth.c slices_Index_sl_api_Value_api_Value.k
/-! slices.Contains[[]levee/api.Value,levee/api.Value] -/
def slices_Contains_sl_api_Value_api_Value.d:Fe:=⟨216,2,⟨[(0,.v false [.sl 45 tValue]),(1,.v true [.int .i64,.int .i64,.str])],[],[],0,[]⟩,⟨[(0,.v false [.bool])],[],[],1000,[]⟩,.n⟩
noncomputable def slices_Contains_sl_api_Value_api_Value.B:(List tValueT)×Int×Int×ByteArray×Unit→Option (Bool×Unit):=fun (p0,p1_0,p1_1,p1_2,_)=>
  (slices_Index_sl_api_Value_api_Value.F (p0,p1_0,p1_1,p1_2,())).bind fun y1=>
  some ((decide (y1.1≥(0:Int))),())
noncomputable def slices_Contains_sl_api_Value_api_Value.F:=stk slices_Contains_sl_api_Value_api_Value.B
theorem slices_Contains_sl_api_Value_api_Value.eq:slices_Contains_sl_api_Value_api_Value.F=slices_Contains_sl_api_Value_api_Value.B:=stk_eq _
theorem slices_Contains_sl_api_Value_api_Value.k:Kk slices_Index_sl_api_Value_api_Value.s ddl_parser_view.q [] Tryz.f216 slices_Contains_sl_api_Value_api_Value.d slices_Contains_sl_api_Value_api_Value.B:={}
noncomputable def slices_Contains_sl_api_Value_api_Value.s:SpL:=slices_Contains_sl_api_Value_api_Value.d.e [] slices_Contains_sl_api_Value_api_Value.F::slices_Index_sl_api_Value_api_Value.s
theorem slices_Contains_sl_api_Value_api_Value.c:Ck slices_Contains_sl_api_Value_api_Value.s ddl_parser_view.q:=cS slices_Index_sl_api_Value_api_Value.c slices_Contains_sl_api_Value_api_Value.k
/-! levee/value.fold -/
def value_fold.d:Fe:=⟨195,2,⟨[(0,.v false [.bool]),(1,.v false [.sl 45 tValue])],[],[],0,[]⟩,⟨[(0,.v true [.int .i64,.int .i64,.str])],[],[],1000,[]⟩,.n⟩
noncomputable def value_fold.l:InT:=[(217,[(1,218)],Tryz.f217,.n),(218,[],Tryz.f218,.n),(235,[(1,218)],Tryz.f235,(.s none .n (.s none (.s none .n (.b (.l ⟨[(8,.v false [.int .i64])],[],[0,1,7],0,[]⟩ (.s none .n (.s none .n (.s none (.b (.s none .n (.s (some ⟨[(16,.v false [.bool])],[],[0,1,5,7,8],0,[]⟩) .n .n))) .n)))))) .n)))]
noncomputable def value_fold.B:Bool×(List tValueT)×Unit→Option (Int×Int×ByteArray×Unit):=fun (p0,p1,_)=>
  (value_Truth.F (p0,())).bind fun y1=>
  (value_Truth.F ((!p0),())).bind fun y2=>
  (slices_Contains_sl_api_Value_api_Value.F (p1,y1.1,y1.2.1,y1.2.2.1,())).bind fun y3=>
  (bif y3.1 then
  some (y1.1,y1.2.1,y1.2.2.1,())
  else
  loopM (S:=Int×Unit) (fun (x8,_)=>
  (bif (decide (x8<(p1.length:Int))) then
  jn (S:=Bool×Unit) (
  ck (ib x8 p1.length)<|
  let e4:tValueT:=(gt p1 x8 tValue.z)
  il ((!(Ty.eq tValue e4 (y2.1,(y2.2.1,y2.2.2.1)))),())) fun (x16_5,_)=>
  (bif x16_5 then
  Option.map Sum.inr ((bif (decide (x8≥(0:Int))) then
  some ((0:Int),(0:Int),(⟨#[]⟩:ByteArray),())
  else
  some (y2.1,y2.2.1,y2.2.2.1,())))
  else
  let e6:Int:=(wr (x8+(1:Int)))
  il (e6,()))
  else
  Option.map Sum.inr ((bif (decide ((-1:Int)≥(0:Int))) then
  some ((0:Int),(0:Int),(⟨#[]⟩:ByteArray),())
  else
  some (y2.1,y2.2.1,y2.2.2.1,()))))) ((0:Int),()))
noncomputable def value_fold.F:=stk value_fold.B
theorem value_fold.eq:value_fold.F=value_fold.B:=stk_eq _
theorem value_fold.k:Kk slices_Contains_sl_api_Value_api_Value.s ddl_parser_view.q value_fold.l Tryz.f195 value_fold.d value_fold.B:={}
noncomputable def value_fold.s:SpL:=value_fold.d.e [] value_fold.F::slices_Contains_sl_api_Value_api_Value.s
theorem value_fold.c:Ck value_fold.s ddl_parser_view.q:=cS slices_Contains_sl_api_Value_api_Value.c value_fold.k
/-! levee/value.And -/
def value_And.d:Fe:=⟨156,1,⟨[(0,.v false [.sl 45 tValue])],[],[],0,[]⟩,⟨[(0,.v true [.int .i64,.int .i64,.str])],[],[],1000,[]⟩,.n⟩
noncomputable def value_And.B:(List tValueT)×Unit→Option (Int×Int×ByteArray×Unit):=fun (p0,_)=>
  (value_fold.F (false,p0,())).bind fun y1=>
  some (y1.1,y1.2.1,y1.2.2.1,())
noncomputable def value_And.F:=stk value_And.B
theorem value_And.eq:value_And.F=value_And.B:=stk_eq _
theorem value_And.k:Kk value_fold.s ddl_parser_view.q [] Tryz.f156 value_And.d value_And.B:={}
noncomputable def value_And.s:SpL:=value_And.d.e [] value_And.F::value_fold.s
theorem value_And.c:Ck value_And.s ddl_parser_view.q:=cS value_fold.c value_And.k
/-! levee/value.Or -/
def value_Or.d:Fe:=⟨157,1,⟨[(0,.v false [.sl 45 tValue])],[],[],0,[]⟩,⟨[(0,.v true [.int .i64,.int .i64,.str])],[],[],1000,[]⟩,.n⟩
noncomputable def value_Or.B:(List tValueT)×Unit→Option (Int×Int×ByteArray×Unit):=fun (p0,_)=>
  (value_fold.F (true,p0,())).bind fun y1=>
  some (y1.1,y1.2.1,y1.2.2.1,())
noncomputable def value_Or.F:=stk value_Or.B
theorem value_Or.eq:value_Or.F=value_Or.B:=stk_eq _
theorem value_Or.k:Kk value_And.s ddl_parser_view.q [] Tryz.f157 value_Or.d value_Or.B:={}
noncomputable def value_Or.s:SpL:=value_Or.d.e [] value_Or.F::value_And.s
theorem value_Or.c:Ck value_Or.s ddl_parser_view.q:=cS value_And.c value_Or.k
/-! levee/value.Not -/
def value_Not.d:Fe:=⟨158,1,⟨[(0,.v true [.int .i64,.int .i64,.str])],[],[],0,[]⟩,⟨[(0,.v true [.int .i64,.int .i64,.str])],[],[],1000,[]⟩,.n⟩
noncomputable def value_Not.B:Int×Int×ByteArray×Unit→Option (Int×Int×ByteArray×Unit):=fun (p0_0,p0_1,p0_2,_)=>
  (value_Truth.F (true,())).bind fun y1=>
  (bif (Ty.eq tValue (p0_0,(p0_1,p0_2)) (y1.1,(y1.2.1,y1.2.2.1))) then
  (value_Truth.F (false,())).bind fun y2=>
  some (y2.1,y2.2.1,y2.2.2.1,())
  else
  (value_Truth.F (false,())).bind fun y3=>
  (bif (Ty.eq tValue (p0_0,(p0_1,p0_2)) (y3.1,(y3.2.1,y3.2.2.1))) then
  (value_Truth.F (true,())).bind fun y4=>
  some (y4.1,y4.2.1,y4.2.2.1,())
  else
  some ((0:Int),(0:Int),(⟨#[]⟩:ByteArray),())))
noncomputable def value_Not.F:=stk value_Not.B
theorem value_Not.eq:value_Not.F=value_Not.B:=stk_eq _
theorem value_Not.k:Kk value_Or.s ddl_parser_view.q [] Tryz.f158 value_Not.d value_Not.B:={}
noncomputable def value_Not.s:SpL:=value_Not.d.e [] value_Not.F::value_Or.s
theorem value_Not.c:Ck value_Not.s ddl_parser_view.q:=cS value_Or.c value_Not.k
/-! levee/expr.compare -/
def expr_compare.d:Fe:=⟨159,3,⟨[(0,.v false [.int .i64]),(1,.v true [.int .i64,.int .i64,.str]),(2,.v true [.int .i64,.int .i64,.str])],[],[],0,[]⟩,⟨[(0,.v true [.int .i64,.int .i64,.str])],[],[],1000,[]⟩,(.s none .n (.s (some ⟨[],[],[0,4,5,6],0,[]⟩) .n .n))⟩
noncomputable def expr_compare.B:Int×Int×Int×ByteArray×Int×Int×ByteArray×Unit→Option (Int×Int×ByteArray×Unit):=fun (p0,p1_0,p1_1,p1_2,p2_0,p2_1,p2_2,_)=>
  jn (S:=Unit) (
  (bif (p1_0==(0:Int)) then
  ir ((0:Int),(0:Int),(⟨#[]⟩:ByteArray),())
  else
  (bif (p2_0==(0:Int)) then
  ir ((0:Int),(0:Int),(⟨#[]⟩:ByteArray),())
  else
  il (())))) fun (_)=>
  (value_Compare.F (p1_0,p1_1,p1_2,p2_0,p2_1,p2_2,())).bind fun y2=>
  (bif (p0==(5:Int)) then
  (bif (y2.1==(0:Int)) then
  (value_Truth.F (true,())).bind fun y3=>
  some (y3.1,y3.2.1,y3.2.2.1,())
  else
  (bif (p0==(6:Int)) then
  (value_Truth.F ((decide (y2.1<(0:Int))),())).bind fun y4=>
  some (y4.1,y4.2.1,y4.2.2.1,())
  else
  (value_Truth.F (false,())).bind fun y5=>
  some (y5.1,y5.2.1,y5.2.2.1,())))
  else
  (bif (p0==(6:Int)) then
  (value_Truth.F ((decide (y2.1<(0:Int))),())).bind fun y6=>
  some (y6.1,y6.2.1,y6.2.2.1,())
  else
  (value_Truth.F (false,())).bind fun y7=>
  some (y7.1,y7.2.1,y7.2.2.1,())))
noncomputable def expr_compare.F:=stk expr_compare.B
theorem expr_compare.eq:expr_compare.F=expr_compare.B:=stk_eq _
theorem expr_compare.k:Kk value_Not.s ddl_parser_view.q [] Tryz.f159 expr_compare.d expr_compare.B:={}
noncomputable def expr_compare.s:SpL:=expr_compare.d.e [] expr_compare.F::value_Not.s
theorem expr_compare.c:Ck expr_compare.s ddl_parser_view.q:=cS value_Not.c expr_compare.k
/-! levee/expr.do -/
def expr_do.d:Fe:=⟨133,3,⟨[(0,.v false [.int .i64]),(1,.v true [.int .i64,.int .i64,.str]),(2,.v true [.int .i64,.int .i64,.str])],[],[],0,[]⟩,⟨[(0,.tup [(true,[.int .i64,.int .i64,.str]),(false,[.bool])])],[],[],1000,[]⟩,.n⟩
noncomputable def expr_do.B:Int×Int×Int×ByteArray×Int×Int×ByteArray×Unit→Option (Int×Int×ByteArray×Bool×Unit):=fun (p0,p1_0,p1_1,p1_2,p2_0,p2_1,p2_2,_)=>
  (bif (p0==(2:Int)) then
  (value_Add.F (p1_0,p1_1,p1_2,p2_0,p2_1,p2_2,())).bind fun y1=>
  some (y1.1,y1.2.1,y1.2.2.1,y1.2.2.2.1,())
  else
  (bif (p0==(3:Int)) then
  (value_Sub.F (p1_0,p1_1,p1_2,p2_0,p2_1,p2_2,())).bind fun y2=>
  some (y2.1,y2.2.1,y2.2.2.1,y2.2.2.2.1,())
  else
  (bif (p0==(4:Int)) then
  (value_Mul.F (p1_0,p1_1,p1_2,p2_0,p2_1,p2_2,())).bind fun y3=>
  some (y3.1,y3.2.1,y3.2.2.1,y3.2.2.2.1,())
  else
  (bif (p0==(7:Int)) then
  (value_And.F ([(p1_0,(p1_1,p1_2)),(p2_0,(p2_1,p2_2))],())).bind fun y4=>
  some (y4.1,y4.2.1,y4.2.2.1,true,())
  else
  (bif (p0==(8:Int)) then
  (value_Or.F ([(p1_0,(p1_1,p1_2)),(p2_0,(p2_1,p2_2))],())).bind fun y5=>
  some (y5.1,y5.2.1,y5.2.2.1,true,())
  else
  (bif (p0==(9:Int)) then
  (value_Not.F (p2_0,p2_1,p2_2,())).bind fun y6=>
  some (y6.1,y6.2.1,y6.2.2.1,true,())
  else
  (bif (p0==(10:Int)) then
  (value_Truth.F ((p2_0==(0:Int)),())).bind fun y7=>
  some (y7.1,y7.2.1,y7.2.2.1,true,())
  else
  (expr_compare.F (p0,p1_0,p1_1,p1_2,p2_0,p2_1,p2_2,())).bind fun y8=>
  some (y8.1,y8.2.1,y8.2.2.1,true,()))))))))
noncomputable def expr_do.F:=stk expr_do.B
theorem expr_do.eq:expr_do.F=expr_do.B:=stk_eq _
theorem expr_do.k:Kk expr_compare.s ddl_parser_view.q [] Tryz.f133 expr_do.d expr_do.B:={}
noncomputable def expr_do.s:SpL:=expr_do.d.e [] expr_do.F::expr_compare.s
theorem expr_do.c:Ck expr_do.s ddl_parser_view.q:=cS expr_compare.c expr_do.k
/-! (*levee/expr.evaluator).step -/
def expr_evaluator_step.d:Fe:=⟨107,2,⟨[(0,.v false [.ptr 0 0]),(1,.v true [.int .i64,.int .i64,.int .i64,.int .i64,.str])],[(0,true,.box 160 [.ref 1,.bool,.sl 45 tValue]),(1,true,.arr 45 tValue)],[],2,[]⟩,⟨[(0,.v false [.int .i64])],[(0,true,.box 160 [.ref 1001,.bool,.sl 45 tValue]),(1001,false,.arr 45 tValue)],[],1002,[(0,0)]⟩,(.s none .n (.s none .n (.s none .n (.s (some ⟨[(0,.v false [.ptr 0 0]),(6,.v false [.ptr 2 0])],[(0,true,.box 160 [.ref 1,.bool,.sl 45 tValue]),(1,false,.arr 45 tValue),(2,true,.box 45 [.int .i64,.int .i64,.str])],[3,5,7],3,[]⟩) .n (.s (some ⟨[(0,.v false [.ptr 0 0]),(5,.v false [.ptr 2 0])],[(0,true,.box 160 [.ref 1,.bool,.sl 45 tValue]),(1,false,.arr 45 tValue),(2,true,.box 45 [.int .i64,.int .i64,.str])],[3,6,7],3,[]⟩) .n (.s none (.b (.s (some ⟨[(28,.v false [.bool])],[],[0,3,5,6,7],0,[]⟩) .n .n)) .n))))))⟩
noncomputable def expr_evaluator_step.B:Int×Int×Int×Int×ByteArray×Bool×(List tValueT)×(List tValueT)×Unit→Option (Int×Bool×(List tValueT)×(List tValueT)×Unit):=fun (p1_0,p1_1,p1_2,p1_3,p1_4,o0_1,o0_2,o0_0,_)=>
  (expr_takes.F (p1_0,())).bind fun y1=>
  jn (S:=Bool×(List tValueT)×(List tValueT)×Int×Int×ByteArray×Unit) (
  (bif (decide (y1.1>(0:Int))) then
  (expr_stack_api_Value_pop.F (o0_1,o0_2,o0_0,())).bind fun y2=>
  il (y2.2.2.2.1,y2.2.2.2.2.1,y2.2.2.2.2.2.1,y2.1,y2.2.1,y2.2.2.1,())
  else
  il (o0_1,o0_2,o0_0,(0:Int),(0:Int),(⟨#[]⟩:ByteArray),()))) fun (o0_0_1_3,o0_0_2_3,o0_0_0_3,o6_0_0_3,o6_0_1_3,o6_0_2_3,_)=>
  jn (S:=Bool×(List tValueT)×(List tValueT)×Int×Int×ByteArray×Unit) (
  (bif (decide (y1.1>(1:Int))) then
  (expr_stack_api_Value_pop.F (o0_0_1_3,o0_0_2_3,o0_0_0_3,())).bind fun y4=>
  il (y4.2.2.2.1,y4.2.2.2.2.1,y4.2.2.2.2.2.1,y4.1,y4.2.1,y4.2.2.1,())
  else
  il (o0_0_1_3,o0_0_2_3,o0_0_0_3,(0:Int),(0:Int),(⟨#[]⟩:ByteArray),()))) fun (o0_0_1_5,o0_0_2_5,o0_0_0_5,o5_0_0_5,o5_0_1_5,o5_0_2_5,_)=>
  jn (S:=Bool×Unit) (
  (bif (!o0_0_1_5) then
  il (true,())
  else
  il ((decide (y1.1<(0:Int))),()))) fun (x28_6,_)=>
  (bif x28_6 then
  some ((30:Int),o0_0_1_5,o0_0_2_5,o0_0_0_5,())
  else
  (bif (p1_0==(0:Int)) then
  (bif (decide (p1_1<(0:Int))) then
  some ((30:Int),o0_0_1_5,o0_0_2_5,o0_0_0_5,())
  else
  (bif (decide (p1_1≥(o0_0_2_5.length:Int))) then
  some ((30:Int),o0_0_1_5,o0_0_2_5,o0_0_0_5,())
  else
  ck (ib p1_1 o0_0_2_5.length)<|
  let e7:tValueT:=(gt o0_0_2_5 p1_1 tValue.z)
  (expr_stack_api_Value_push.F (e7.1,e7.2.1,e7.2.2,o0_0_1_5,o0_0_2_5,o0_0_0_5,())).bind fun y8=>
  some ((0:Int),y8.1,y8.2.1,y8.2.2.1,())))
  else
  (bif (p1_0==(1:Int)) then
  (value_May.F (p1_2,p1_3,p1_4,())).bind fun y9=>
  (bif (!y9.1) then
  some ((30:Int),o0_0_1_5,o0_0_2_5,o0_0_0_5,())
  else
  (expr_stack_api_Value_push.F (p1_2,p1_3,p1_4,o0_0_1_5,o0_0_2_5,o0_0_0_5,())).bind fun y10=>
  some ((0:Int),y10.1,y10.2.1,y10.2.2.1,()))
  else
  let e11:Int:=(wr ((2:Int)-y1.1))
  ck (sb e11 ([o5_0_0_5,o6_0_0_3].length:Int) [o5_0_0_5,o6_0_0_3].length)<|
  (expr_leaves.F (p1_0,(List.take (Int.toNat ([o5_0_0_5,o6_0_0_3].length:Int)-Int.toNat e11:Nat) (List.drop (Int.toNat e11) [o5_0_0_5,o6_0_0_3])),())).bind fun y12=>
  (bif (!y12.2.1) then
  some ((30:Int),o0_0_1_5,o0_0_2_5,o0_0_0_5,())
  else
  (expr_do.F (p1_0,o5_0_0_5,o5_0_1_5,o5_0_2_5,o6_0_0_3,o6_0_1_3,o6_0_2_3,())).bind fun y13=>
  (bif (!y13.2.2.2.1) then
  some ((31:Int),o0_0_1_5,o0_0_2_5,o0_0_0_5,())
  else
  (expr_stack_api_Value_push.F (y13.1,y13.2.1,y13.2.2.1,o0_0_1_5,o0_0_2_5,o0_0_0_5,())).bind fun y14=>
  some ((0:Int),y14.1,y14.2.1,y14.2.2.1,()))))))
noncomputable def expr_evaluator_step.F:=stk expr_evaluator_step.B
theorem expr_evaluator_step.eq:expr_evaluator_step.F=expr_evaluator_step.B:=stk_eq _
theorem expr_evaluator_step.k:Kk expr_do.s ddl_parser_view.q [] Tryz.f107 expr_evaluator_step.d expr_evaluator_step.B:={}
noncomputable def expr_evaluator_step.s:SpL:=expr_evaluator_step.d.e [] expr_evaluator_step.F::expr_do.s
theorem expr_evaluator_step.c:Ck expr_evaluator_step.s ddl_parser_view.q:=cS expr_do.c expr_evaluator_step.k
/-! (*levee/expr.stack[levee/api.Value]).one -/
def expr_stack_api_Value_one.d:Fe:=⟨108,1,⟨[(0,.v false [.ptr 0 0])],[(0,true,.box 160 [.ref 1,.bool,.sl 45 tValue]),(1,true,.arr 45 tValue)],[],2,[]⟩,⟨[(0,.tup [(true,[.int .i64,.int .i64,.str]),(false,[.bool])])],[(0,true,.box 160 [.ref 1001,.bool,.sl 45 tValue]),(1001,false,.arr 45 tValue)],[],1002,[(0,0)]⟩,.n⟩
noncomputable def expr_stack_api_Value_one.B:Bool×(List tValueT)×(List tValueT)×Unit→Option (Int×Int×ByteArray×Bool×Bool×(List tValueT)×(List tValueT)×Unit):=fun (o0_1,o0_2,o0_0,_)=>
  (bif (!o0_1) then
  some ((0:Int),(0:Int),(⟨#[]⟩:ByteArray),false,o0_1,o0_2,o0_0,())
  else
  (bif ((o0_0.length:Int) !=(1:Int)) then
  some ((0:Int),(0:Int),(⟨#[]⟩:ByteArray),false,o0_1,o0_2,o0_0,())
  else
  ck (ib (0:Int) o0_0.length)<|
  let e1:tValueT:=(List.getD o0_0 0 tValue.z)
  some (e1.1,e1.2.1,e1.2.2,true,o0_1,o0_2,o0_0,())))
noncomputable def expr_stack_api_Value_one.F:=stk expr_stack_api_Value_one.B
theorem expr_stack_api_Value_one.eq:expr_stack_api_Value_one.F=expr_stack_api_Value_one.B:=stk_eq _
theorem expr_stack_api_Value_one.k:Kk expr_evaluator_step.s ddl_parser_view.q [] Tryz.f108 expr_stack_api_Value_one.d expr_stack_api_Value_one.B:={}
noncomputable def expr_stack_api_Value_one.s:SpL:=expr_stack_api_Value_one.d.e [] expr_stack_api_Value_one.F::expr_evaluator_step.s
theorem expr_stack_api_Value_one.c:Ck expr_stack_api_Value_one.s ddl_parser_view.q:=cS expr_evaluator_step.c expr_stack_api_Value_one.k
/-! levee/expr.Eval -/
def expr_Eval.d:Fe:=⟨75,2,⟨[(0,.v false [.sl 77 tNode]),(1,.v false [.sl 45 tValue])],[],[],0,[]⟩,⟨[(0,.tup [(true,[.int .i64,.int .i64,.str]),(false,[.int .i64])])],[],[],1000,[]⟩,(.s none .n (.s none .n (.s none .n (.s none .n (.s (some ⟨[(6,.v false [.ptr 0 0])],[(0,true,.box 160 [.ref 1,.bool,.sl 45 tValue]),(1,false,.arr 45 tValue)],[4],2,[]⟩) (.s none .n (.b (.l ⟨[(6,.v false [.ptr 0 0]),(25,.v false [.int .i64])],[(0,true,.box 160 [.ref 1,.bool,.sl 45 tValue]),(1,false,.arr 45 tValue)],[4,23,24],2,[]⟩ .n))) .n)))))⟩
noncomputable def expr_Eval.B:(List tNodeT)×(List tValueT)×Unit→Option (Int×Int×ByteArray×Int×Unit):=fun (p0,p1,_)=>
  (bif (decide ((p0.length:Int)>(100:Int))) then
  some ((0:Int),(0:Int),(⟨#[]⟩:ByteArray),(1:Int),())
  else
  jn (S:=Bool×(List tValueT)×(List tValueT)×Unit) (
  loopM (S:=Int×Bool×(List tValueT)×(List tValueT)×Unit) (fun (x25,o6_0_1,o6_0_2,o6_0_0,_)=>
  (bif (decide (x25<(p0.length:Int))) then
  ck (ib x25 p0.length)<|
  let e1:tNodeT:=(gt p0 x25 tNode.z)
  (expr_evaluator_step.F (e1.1,e1.2.1,e1.2.2.1,e1.2.2.2.1,e1.2.2.2.2,o6_0_1,o6_0_2,o6_0_0,())).bind fun y2=>
  (bif (y2.1 !=(0:Int)) then
  ir (.inr ((0:Int),(0:Int),(⟨#[]⟩:ByteArray),y2.1,()))
  else
  let e3:Int:=(wr (x25+(1:Int)))
  il (e3,y2.2.1,y2.2.2.1,y2.2.2.2.1,()))
  else
  ir (.inl (o6_0_1,o6_0_2,o6_0_0,())))) ((0:Int),true,p1,[],())) fun (o6_0_1_4,o6_0_2_4,o6_0_0_4,_)=>
  (expr_stack_api_Value_one.F (o6_0_1_4,o6_0_2_4,o6_0_0_4,())).bind fun y5=>
  (bif y5.2.2.2.1 then
  some (y5.1,y5.2.1,y5.2.2.1,(0:Int),())
  else
  some ((0:Int),(0:Int),(⟨#[]⟩:ByteArray),(30:Int),())))
noncomputable def expr_Eval.F:=stk expr_Eval.B
theorem expr_Eval.eq:expr_Eval.F=expr_Eval.B:=stk_eq _
theorem expr_Eval.k:Kk expr_stack_api_Value_one.s ddl_parser_view.q [] Tryz.f75 expr_Eval.d expr_Eval.B:={}
noncomputable def expr_Eval.s:SpL:=expr_Eval.d.e [] expr_Eval.F::expr_stack_api_Value_one.s
theorem expr_Eval.c:Ck expr_Eval.s ddl_parser_view.q:=cS expr_stack_api_Value_one.c expr_Eval.k
/-! (levee/check.checker).checks -/
def check_checker_checks.d:Fe:=⟨45,1,⟨[(0,.v true [.str,.sl 43 tColumn,.sl 63 (.sl 77 tNode),.sl 49 tCount,.sl 72 tSource])],[],[],0,[]⟩,⟨[(0,.tup [(false,[.int .i64]),(false,[.int .i64])])],[],[],1000,[]⟩,(.s none .n (.s none (.s none .n (.b (.l ⟨[(14,.v false [.int .i64])],[],[1,12,13],0,[]⟩ (.s none .n (.s none .n (.s (some ⟨[],[],[1,12,13,14],0,[]⟩) (.b (.s none .n (.s none .n (.b (.l ⟨[(22,.v false [.int .i64])],[],[1,4,5,12,13,14,20,21],0,[]⟩ .n))))) .n)))))) .n))⟩
noncomputable def check_checker_checks.B:ByteArray×(List tColumnT)×(List (List tNodeT))×(List tCountT)×(List tSourceT)×Unit→Option (Int×Int×Unit):=fun (p0_0,p0_1,p0_2,p0_3,p0_4,_)=>
  loopM (S:=Int×Unit) (fun (x14,_)=>
  (bif (decide (x14<(p0_2.length:Int))) then
  jn (S:=Unit) (
  ck (ib x14 p0_2.length)<|
  let e1:(List tNodeT):=(gt p0_2 x14 [])
  loopM (S:=Int×Unit) (fun (x22',_)=>
  (bif (decide (x22'<(p0_3.length:Int))) then
  ck (ib x22' p0_3.length)<|
  let e2:tCountT:=(gt p0_3 x22' tCount.z)
  (expr_Eval.F (e1,e2.1,())).bind fun y3=>
  (bif (y3.2.2.2.1 !=(0:Int)) then
  ir (.inr (.inr (x14,y3.2.2.2.1,())))
  else
  (value_Truth.F (false,())).bind fun y4=>
  (bif (Ty.eq tValue (y3.1,(y3.2.1,y3.2.2.1)) (y4.1,(y4.2.1,y4.2.2.1))) then
  ir (.inr (.inr (x14,(183:Int),())))
  else
  let e5:Int:=(wr (x22'+(1:Int)))
  il (e5,())))
  else
  ir (.inl (())))) ((0:Int),())) fun (_)=>
  let e7:Int:=(wr (x14+(1:Int)))
  il (e7,())
  else
  ir ((-1:Int),(0:Int),()))) ((0:Int),())
noncomputable def check_checker_checks.F:=stk check_checker_checks.B
theorem check_checker_checks.eq:check_checker_checks.F=check_checker_checks.B:=stk_eq _
theorem check_checker_checks.k:Kk expr_Eval.s ddl_parser_view.q [] Tryz.f45 check_checker_checks.d check_checker_checks.B:={}
noncomputable def check_checker_checks.s:SpL:=check_checker_checks.d.e [] check_checker_checks.F::expr_Eval.s
theorem check_checker_checks.c:Ck check_checker_checks.s ddl_parser_view.q:=cS expr_Eval.c check_checker_checks.k
/-! levee/check.table -/
def check_table.d:Fe:=⟨25,2,⟨[(0,.v true [.str,.sl 43 tColumn,.sl 63 (.sl 77 tNode)]),(1,.v false [.sl 72 tSource])],[],[],0,[]⟩,⟨[(0,.v true [.int .i64,.str,.int .i64])],[],[],1000,[]⟩,(.s none .n (.s none .n (.s (some ⟨[],[],[2,4,5],0,[]⟩) (.s none .n (.b (.c (.s none .n (.s none .n (.s none (.b (.s none .n (.s (some ⟨[(8,.v false [.int .i64])],[],[2,4,5,7,27,28,29],0,[]⟩) .n .n))) .n))) (.c (.s none .n (.s none .n (.s none (.b (.s none .n (.s (some ⟨[(8,.v false [.int .i64])],[],[2,4,5,7,27,28,29],0,[]⟩) .n .n))) .n))) (.c (.s none .n (.s none .n (.s none (.b (.s none .n (.s (some ⟨[(8,.v false [.int .i64])],[],[2,4,5,7,27,28,29],0,[]⟩) .n .n))) .n))) (.c .n .n)))))) .n)))⟩
noncomputable def check_table.B:ByteArray×(List tColumnT)×(List (List tNodeT))×(List tSourceT)×Unit→Option (Int×ByteArray×Int×Unit):=fun (p0_0,p0_1,p0_2,p1,_)=>
  (view_Look.F (p1,p0_0,())).bind fun y1=>
  jn (S:=Unit) (
  jn (S:=Int×Unit) (
  (check_checker_kinds.F (p0_0,p0_1,p0_2,y1.1,p1,())).bind fun y2=>
  il (y2.1,())) fun (x8_3,_)=>
  (bif (decide (x8_3≥(0:Int))) then
  ir ((180:Int),p0_0,x8_3,())
  else
  jn (S:=Int×Unit) (
  (check_checker_unique.F (p0_0,p0_1,p0_2,y1.1,p1,())).bind fun y4=>
  il (y4.1,())) fun (x8_5,_)=>
  (bif (decide (x8_5≥(0:Int))) then
  ir ((181:Int),p0_0,x8_5,())
  else
  jn (S:=Int×Unit) (
  (check_checker_refs.F (p0_0,p0_1,p0_2,y1.1,p1,())).bind fun y6=>
  il (y6.1,())) fun (x8_7,_)=>
  (bif (decide (x8_7≥(0:Int))) then
  ir ((182:Int),p0_0,x8_7,())
  else
  il (()))))) fun (_)=>
  (check_checker_checks.F (p0_0,p0_1,p0_2,y1.1,p1,())).bind fun y9=>
  (bif (y9.2.1 !=(0:Int)) then
  some (y9.2.1,p0_0,y9.1,())
  else
  some ((0:Int),(⟨#[]⟩:ByteArray),(0:Int),()))
noncomputable def check_table.F:=stk check_table.B
theorem check_table.eq:check_table.F=check_table.B:=stk_eq _
theorem check_table.k:Kk check_checker_checks.s ddl_parser_view.q [] Tryz.f25 check_table.d check_table.B:={}
noncomputable def check_table.s:SpL:=check_table.d.e [] check_table.F::check_checker_checks.s
theorem check_table.c:Ck check_table.s ddl_parser_view.q:=cS check_checker_checks.c check_table.k
/-! levee/check.First -/
def check_First.d:Fe:=⟨9,2,⟨[(0,.v false [.sl 69 tDef]),(1,.v false [.sl 72 tSource])],[],[],0,[]⟩,⟨[(0,.v true [.int .i64,.str,.int .i64])],[],[],1000,[]⟩,(.s none .n (.s none .n (.s (some ⟨[],[],[4],0,[]⟩) (.s none .n (.b (.l ⟨[(15,.v false [.int .i64])],[],[1,4,13,14],0,[]⟩ .n))) .n)))⟩
noncomputable def check_First.B:(List tDefT)×(List tSourceT)×Unit→Option (Int×ByteArray×Int×Unit):=fun (p0,p1,_)=>
  (closure_May.F (p0,p1,())).bind fun y1=>
  (bif (!y1.1) then
  some ((1:Int),(⟨#[]⟩:ByteArray),(0:Int),())
  else
  jn (S:=Unit) (
  loopM (S:=Int×Unit) (fun (x15,_)=>
  (bif (decide (x15<(p0.length:Int))) then
  ck (ib x15 p0.length)<|
  let e2:tDefT:=(gt p0 x15 tDef.z)
  (bif (e2.1 !=(0:Int)) then
  let e3:Int:=(wr (x15+(1:Int)))
  il (e3,())
  else
  (check_table.F (e2.2.1.1,e2.2.1.2.1,e2.2.1.2.2,p1,())).bind fun y4=>
  (bif (y4.1 !=(0:Int)) then
  ir (.inr (y4.1,y4.2.1,y4.2.2.1,()))
  else
  let e5:Int:=(wr (x15+(1:Int)))
  il (e5,())))
  else
  ir (.inl (())))) ((0:Int),())) fun (_)=>
  some ((0:Int),(⟨#[]⟩:ByteArray),(0:Int),()))
noncomputable def check_First.F:=stk check_First.B
theorem check_First.eq:check_First.F=check_First.B:=stk_eq _
theorem check_First.k:Kk check_table.s ddl_parser_view.q [] Tryz.f9 check_First.d check_First.B:={}
noncomputable def check_First.s:SpL:=check_First.d.e [] check_First.F::check_table.s
theorem check_First.c:Ck check_First.s ddl_parser_view.q:=cS check_table.c check_First.k
/-! levee/leveelaw18.two -/
def L18_two.d:Fe:=⟨14,0,⟨[],[],[],0,[]⟩,⟨[(0,.v false [.ref 1000])],[(1000,false,.arr 69 tDef)],[],1001,[]⟩,.n⟩
noncomputable def L18_two.B:Unit→Option ((List tDefT)×Unit):=fun (_)=>
  (R01_Int.F ((9:Int),())).bind fun y1=>
  some ([((0:Int),(((⟨#[116]⟩:ByteArray),([((⟨#[107]⟩:ByteArray),((2:Int),(false,(false,((⟨#[]⟩:ByteArray),(0:Int))))))],([]:List (List tNodeT)))),((⟨#[]⟩:ByteArray),((⟨#[]⟩:ByteArray),((⟨#[]⟩:ByteArray),(((0:Int),(0:Int)),(([]:List tNodeT),(([]:List Int),(false,([]:List tAggT)))))))))),((0:Int),(((⟨#[117]⟩:ByteArray),([((⟨#[107]⟩:ByteArray),((2:Int),(false,(false,((⟨#[]⟩:ByteArray),(0:Int)))))),((⟨#[97]⟩:ByteArray),((2:Int),(true,(true,((⟨#[116]⟩:ByteArray),(0:Int))))))],[[((0:Int),((0:Int),((0:Int),((0:Int),(⟨#[]⟩:ByteArray))))),((1:Int),((0:Int),(y1.1,(y1.2.1,y1.2.2.1)))),((6:Int),((0:Int),((0:Int),((0:Int),(⟨#[]⟩:ByteArray)))))]])),((⟨#[]⟩:ByteArray),((⟨#[]⟩:ByteArray),((⟨#[]⟩:ByteArray),(((0:Int),(0:Int)),(([]:List tNodeT),(([]:List Int),(false,([]:List tAggT))))))))))],())
noncomputable def L18_two.F:=stk L18_two.B
theorem L18_two.eq:L18_two.F=L18_two.B:=stk_eq _
theorem L18_two.k:Kk check_First.s ddl_parser_view.q [] Tryz.f14 L18_two.d L18_two.B:={}
noncomputable def L18_two.s:SpL:=L18_two.d.e [] L18_two.F::check_First.s
theorem L18_two.c:Ck L18_two.s ddl_parser_view.q:=cS check_First.c L18_two.k
/-! levee/leveeref05.Add -/
def R05_Add.d:Fe:=⟨46,3,⟨[(0,.v false [.sl 49 tCount]),(1,.v false [.sl 45 tValue]),(2,.v false [.int .i64])],[],[],0,[]⟩,⟨[(0,.v false [.ref 1000])],[(1000,false,.arr 49 tCount)],[],1001,[]⟩,(.s none .n (.s none .n (.s none .n (.s (some ⟨[(7,.v false [.ref 0]),(8,.v false [.bool])],[(0,false,.arr 49 tCount)],[1,2],1,[]⟩) (.s none .n (.b (.l ⟨[(7,.v false [.ref 0]),(8,.v false [.bool]),(9,.v false [.int .i64])],[(0,false,.arr 49 tCount)],[0,1,2],1,[]⟩ (.s none .n (.s none (.b (.s none .n (.s (some ⟨[(7,.v false [.ref 0]),(8,.v false [.bool])],[(0,false,.arr 49 tCount)],[0,1,2,9,10],1,[]⟩) (.s (some ⟨[(31,.v false [.bool])],[],[0,1,2,7,8,9,10],0,[]⟩) .n .n) .n))) .n))))) .n))))⟩
noncomputable def R05_Add.B:(List tCountT)×(List tValueT)×Int×Unit→Option ((List tCountT)×Unit):=fun (p0,p1,p2,_)=>
  jn (S:=Bool×(List tCountT)×Unit) (
  loopM (S:=Bool×Int×(List tCountT)×Unit) (fun (x8,x9,o7_0,_)=>
  (bif (decide (x9<(p0.length:Int))) then
  ck (ib x9 p0.length)<|
  let e1:tCountT:=(gt p0 x9 tCount.z)
  (R02_Compare.F (e1.1,p1,())).bind fun y2=>
  jn (S:=Bool×(List tCountT)×Unit) (
  jn (S:=Bool×Unit) (
  (bif (decide (y2.1≥(0:Int))) then
  il ((!x8),())
  else
  il (false,()))) fun (x31_3,_)=>
  (bif x31_3 then
  (bif (y2.1==(0:Int)) then
  ck (ib x9 p0.length)<|
  let e4:tCountT:=(gt p0 x9 tCount.z)
  let e5:Int:=(wr (p2+e4.2))
  (bif (e5 !=(0:Int)) then
  ck (Nat.ble (o7_0.length+ [(p1,e5)].length) 4398046511104)<|
  il (true,(o7_0++ [(p1,e5)]),())
  else
  il (true,o7_0,()))
  else
  (bif (p2 !=(0:Int)) then
  ck (Nat.ble (o7_0.length+ [(p1,p2)].length) 4398046511104)<|
  il (true,(o7_0++ [(p1,p2)]),())
  else
  il (true,o7_0,())))
  else
  il (x8,o7_0,()))) fun (x8_6,o7_0_6,_)=>
  (bif (y2.1 !=(0:Int)) then
  ck (ib x9 p0.length)<|
  let e7:tCountT:=(gt p0 x9 tCount.z)
  ck (Nat.ble (o7_0_6.length+ [e7].length) 4398046511104)<|
  let e8:Int:=(wr (x9+(1:Int)))
  il (x8_6,e8,(o7_0_6++ [e7]),())
  else
  let e9:Int:=(wr (x9+(1:Int)))
  il (x8_6,e9,o7_0_6,()))
  else
  ir (.inl (x8,o7_0,())))) (false,(0:Int),([]:List tCountT),())) fun (x8_10,o7_0_10,_)=>
  (bif (!x8_10) then
  (bif (p2 !=(0:Int)) then
  ck (Nat.ble (o7_0_10.length+ [(p1,p2)].length) 4398046511104)<|
  some ((o7_0_10++ [(p1,p2)]),())
  else
  some (o7_0_10,()))
  else
  some (o7_0_10,()))
noncomputable def R05_Add.F:=stk R05_Add.B
theorem R05_Add.eq:R05_Add.F=R05_Add.B:=stk_eq _
theorem R05_Add.k:Kk L18_two.s ddl_parser_view.q [] Tryz.f46 R05_Add.d R05_Add.B:={}
noncomputable def R05_Add.s:SpL:=R05_Add.d.e [] R05_Add.F::L18_two.s
theorem R05_Add.c:Ck R05_Add.s ddl_parser_view.q:=cS L18_two.c R05_Add.k
/-! levee/leveeref05.Of -/
def R05_Of.d:Fe:=⟨26,1,⟨[(0,.v false [.sl 47 (.sl 45 tValue)])],[],[],0,[]⟩,⟨[(0,.v false [.ref 1000])],[(1000,false,.arr 49 tCount)],[],1001,[]⟩,(.s none .n (.s none .n (.s none (.s none .n (.b (.l ⟨[(3,.v false [.ref 0]),(4,.v false [.int .i64])],[(0,false,.arr 49 tCount)],[0],1,[]⟩ .n))) .n)))⟩
noncomputable def R05_Of.B:(List (List tValueT))×Unit→Option ((List tCountT)×Unit):=fun (p0,_)=>
  loopM (S:=Int×(List tCountT)×Unit) (fun (x4,o3_0,_)=>
  (bif (decide (x4<(p0.length:Int))) then
  ck (ib x4 p0.length)<|
  let e1:(List tValueT):=(gt p0 x4 [])
  (R04_May.F (e1,())).bind fun y2=>
  (bif (!y2.1) then
  ir ([],())
  else
  ck (ib x4 p0.length)<|
  let e3:(List tValueT):=(gt p0 x4 [])
  (R05_Add.F (o3_0,e3,(1:Int),())).bind fun y4=>
  let e5:Int:=(wr (x4+(1:Int)))
  il (e5,y4.1,()))
  else
  ir (o3_0,()))) ((0:Int),([]:List tCountT),())
noncomputable def R05_Of.F:=stk R05_Of.B
theorem R05_Of.eq:R05_Of.F=R05_Of.B:=stk_eq _
theorem R05_Of.k:Kk R05_Add.s ddl_parser_view.q [] Tryz.f26 R05_Of.d R05_Of.B:={}
noncomputable def R05_Of.s:SpL:=R05_Of.d.e [] R05_Of.F::R05_Add.s
theorem R05_Of.c:Ck R05_Of.s ddl_parser_view.q:=cS R05_Add.c R05_Of.k
/-! levee/leveelaw18.rows -/
def L18_rows.d:Fe:=⟨15,1,⟨[(0,.v false [.sl 47 (.sl 45 tValue)])],[],[],0,[]⟩,⟨[(0,.v false [.ref 1000])],[(1000,false,.arr 72 tSource)],[],1001,[]⟩,.n⟩
noncomputable def L18_rows.B:(List (List tValueT))×Unit→Option ((List tSourceT)×Unit):=fun (p0,_)=>
  (R01_Int.F ((1:Int),())).bind fun y1=>
  (R05_Of.F ([[(y1.1,(y1.2.1,y1.2.2.1))]],())).bind fun y2=>
  (R05_Of.F (p0,())).bind fun y3=>
  some ([((⟨#[116]⟩:ByteArray),y2.1),((⟨#[117]⟩:ByteArray),y3.1)],())
noncomputable def L18_rows.F:=stk L18_rows.B
theorem L18_rows.eq:L18_rows.F=L18_rows.B:=stk_eq _
theorem L18_rows.k:Kk R05_Of.s ddl_parser_view.q [] Tryz.f15 L18_rows.d L18_rows.B:={}
noncomputable def L18_rows.s:SpL:=L18_rows.d.e [] L18_rows.F::R05_Of.s
theorem L18_rows.c:Ck L18_rows.s ddl_parser_view.q:=cS R05_Of.c L18_rows.k
/-! levee/check.Table -/
def check_Table.d:Fe:=⟨17,3,⟨[(0,.v false [.sl 69 tDef]),(1,.v false [.sl 72 tSource]),(2,.v false [.str])],[],[],0,[]⟩,⟨[(0,.v true [.int .i64,.str,.int .i64])],[],[],1000,[]⟩,(.s none .n (.s none .n (.s (some ⟨[],[],[0,1,6,7],0,[]⟩) .n .n)))⟩
noncomputable def check_Table.B:(List tDefT)×(List tSourceT)×ByteArray×Unit→Option (Int×ByteArray×Int×Unit):=fun (p0,p1,p2,_)=>
  (schema_Find.F (p0,p2,())).bind fun y1=>
  jn (S:=Unit) (
  (bif (decide (y1.1<(0:Int))) then
  ir ((1:Int),(⟨#[]⟩:ByteArray),(0:Int),())
  else
  (closure_May.F (p0,p1,())).bind fun y2=>
  (bif (!y2.1) then
  ir ((1:Int),(⟨#[]⟩:ByteArray),(0:Int),())
  else
  ck (ib y1.1 p0.length)<|
  let e3:tDefT:=(gt p0 y1.1 tDef.z)
  (bif (e3.1 !=(0:Int)) then
  ir ((1:Int),(⟨#[]⟩:ByteArray),(0:Int),())
  else
  il (()))))) fun (_)=>
  ck (ib y1.1 p0.length)<|
  let e5:tDefT:=(gt p0 y1.1 tDef.z)
  (check_table.F (e5.2.1.1,e5.2.1.2.1,e5.2.1.2.2,p1,())).bind fun y6=>
  some (y6.1,y6.2.1,y6.2.2.1,())
noncomputable def check_Table.F:=stk check_Table.B
theorem check_Table.eq:check_Table.F=check_Table.B:=stk_eq _
theorem check_Table.k:Kk L18_rows.s ddl_parser_view.q [] Tryz.f17 check_Table.d check_Table.B:={}
noncomputable def check_Table.s:SpL:=check_Table.d.e [] check_Table.F::L18_rows.s
theorem check_Table.c:Ck check_Table.s ddl_parser_view.q:=cS L18_rows.c check_Table.k
/-! levee/leveelaw18.fixed -/
def L18_fixed.d:Fe:=⟨5,0,⟨[],[],[],0,[]⟩,⟨[(0,.v false [.bool])],[],[],1000,[]⟩,.n⟩
noncomputable def L18_fixed.B:Unit→Option (Bool×Unit):=fun (_)=>
  (L18_two.F (())).bind fun y1=>
  (R01_Int.F ((7:Int),())).bind fun y2=>
  (R01_Int.F ((1:Int),())).bind fun y3=>
  (R01_Int.F ((8:Int),())).bind fun y4=>
  (L18_rows.F ([[(y2.1,(y2.2.1,y2.2.2.1)),(y3.1,(y3.2.1,y3.2.2.1))],[(y4.1,(y4.2.1,y4.2.2.1)),((0:Int),((0:Int),(⟨#[]⟩:ByteArray)))]],())).bind fun y5=>
  (check_First.F (y1.1,y5.1,())).bind fun y6=>
  (L18_two.F (())).bind fun y7=>
  (R01_Int.F ((7:Int),())).bind fun y8=>
  (R01_Int.F ((2:Int),())).bind fun y9=>
  (L18_rows.F ([[(y8.1,(y8.2.1,y8.2.2.1)),(y9.1,(y9.2.1,y9.2.2.1))]],())).bind fun y10=>
  (check_First.F (y7.1,y10.1,())).bind fun y11=>
  (L18_two.F (())).bind fun y12=>
  (R01_Int.F ((7:Int),())).bind fun y13=>
  (R01_Int.F ((1:Int),())).bind fun y14=>
  (R01_Int.F ((8:Int),())).bind fun y15=>
  (R01_Int.F ((1:Int),())).bind fun y16=>
  (L18_rows.F ([[(y13.1,(y13.2.1,y13.2.2.1)),(y14.1,(y14.2.1,y14.2.2.1))],[(y15.1,(y15.2.1,y15.2.2.1)),(y16.1,(y16.2.1,y16.2.2.1))]],())).bind fun y17=>
  (check_First.F (y12.1,y17.1,())).bind fun y18=>
  (L18_two.F (())).bind fun y19=>
  (R01_Int.F ((9:Int),())).bind fun y20=>
  (L18_rows.F ([[(y20.1,(y20.2.1,y20.2.2.1)),((0:Int),((0:Int),(⟨#[]⟩:ByteArray)))]],())).bind fun y21=>
  (check_Table.F (y19.1,y21.1,(⟨#[117]⟩:ByteArray),())).bind fun y22=>
  (L18_two.F (())).bind fun y23=>
  (L18_rows.F ([[((3:Int),((0:Int),(⟨#[97]⟩:ByteArray))),((0:Int),((0:Int),(⟨#[]⟩:ByteArray)))]],())).bind fun y24=>
  (check_First.F (y23.1,y24.1,())).bind fun y25=>
  (bif (Ty.eq tViolation (y6.1,(y6.2.1,y6.2.2.1)) ((0:Int),((⟨#[]⟩:ByteArray),(0:Int)))) then
  (bif (Ty.eq tViolation (y11.1,(y11.2.1,y11.2.2.1)) ((182:Int),((⟨#[117]⟩:ByteArray),(1:Int)))) then
  (bif (Ty.eq tViolation (y18.1,(y18.2.1,y18.2.2.1)) ((181:Int),((⟨#[117]⟩:ByteArray),(1:Int)))) then
  (bif (Ty.eq tViolation (y22.1,(y22.2.1,y22.2.2.1)) ((183:Int),((⟨#[117]⟩:ByteArray),(0:Int)))) then
  (bif (Ty.eq tViolation (y25.1,(y25.2.1,y25.2.2.1)) ((180:Int),((⟨#[117]⟩:ByteArray),(0:Int)))) then
  (L18_two.F (())).bind fun y26=>
  (check_First.F (y26.1,([]:List tSourceT),())).bind fun y27=>
  (bif (y27.1==(1:Int)) then
  (L18_two.F (())).bind fun y28=>
  (L18_rows.F (([]:List (List tValueT)),())).bind fun y29=>
  (check_Table.F (y28.1,y29.1,(⟨#[120]⟩:ByteArray),())).bind fun y30=>
  some ((y30.1==(1:Int)),())
  else
  some (false,()))
  else
  some (false,()))
  else
  some (false,()))
  else
  some (false,()))
  else
  some (false,()))
  else
  some (false,()))
noncomputable def L18_fixed.F:=stk L18_fixed.B
theorem L18_fixed.eq:L18_fixed.F=L18_fixed.B:=stk_eq _
theorem L18_fixed.k:Kk check_Table.s ddl_parser_view.q [] Tryz.f5 L18_fixed.d L18_fixed.B:={}
noncomputable def L18_fixed.s:SpL:=L18_fixed.d.e [] L18_fixed.F::check_Table.s
theorem L18_fixed.c:Ck L18_fixed.s ddl_parser_view.q:=cS check_Table.c L18_fixed.k
/-! levee/leveeref12.Find -/
def R12_Find.d:Fe:=⟨11,2,⟨[(0,.v false [.sl 72 tSource]),(1,.v false [.str])],[],[],0,[]⟩,⟨[(0,.v false [.sl 49 tCount])],[],[],1000,[]⟩,(.s none .n (.s none (.s none .n (.b (.l ⟨[(5,.v false [.int .i64])],[],[0,1],0,[]⟩ .n))) .n))⟩
noncomputable def R12_Find.B:(List tSourceT)×ByteArray×Unit→Option ((List tCountT)×Unit):=fun (p0,p1,_)=>
  loopM (S:=Int×Unit) (fun (x5,_)=>
  (bif (decide (x5<(p0.length:Int))) then
  ck (ib x5 p0.length)<|
  let e1:tSourceT:=(gt p0 x5 tSource.z)
  (bif (sq e1.1 p1) then
  ck (ib x5 p0.length)<|
  let e2:tSourceT:=(gt p0 x5 tSource.z)
  ir (e2.2,())
  else
  let e3:Int:=(wr (x5+(1:Int)))
  il (e3,()))
  else
  ir (([]:List tCountT),()))) ((0:Int),())
noncomputable def R12_Find.F:=stk R12_Find.B
theorem R12_Find.eq:R12_Find.F=R12_Find.B:=stk_eq _
theorem R12_Find.k:Kk L18_fixed.s ddl_parser_view.q [] Tryz.f11 R12_Find.d R12_Find.B:={}
noncomputable def R12_Find.s:SpL:=R12_Find.d.e [] R12_Find.F::L18_fixed.s
theorem R12_Find.c:Ck R12_Find.s ddl_parser_view.q:=cS L18_fixed.c R12_Find.k
/-! levee/leveelaw18.times -/
def L18_times.d:Fe:=⟨12,3,⟨[(0,.v false [.sl 49 tCount]),(1,.v false [.int .i64]),(2,.v true [.int .i64,.int .i64,.str])],[],[],0,[]⟩,⟨[(0,.v false [.int .i64])],[],[],1000,[]⟩,(.s none .n (.s none .n (.s none (.s none .n (.b (.l ⟨[(7,.v false [.int .i64]),(8,.v false [.int .i64])],[],[0,1,5],0,[]⟩ .n))) .n)))⟩
noncomputable def L18_times.B:(List tCountT)×Int×Int×Int×ByteArray×Unit→Option (Int×Unit):=fun (p0,p1,p2_0,p2_1,p2_2,_)=>
  loopM (S:=Int×Int×Unit) (fun (x7,x8,_)=>
  (bif (decide (x8<(p0.length:Int))) then
  ck (ib x8 p0.length)<|
  let e1:tCountT:=(gt p0 x8 tCount.z)
  ck (ib p1 e1.1.length)<|
  let e2:tValueT:=(gt e1.1 p1 tValue.z)
  (bif (Ty.eq tValue e2 (p2_0,(p2_1,p2_2))) then
  let e3:Int:=(wr (x7+(1:Int)))
  let e4:Int:=(wr (x8+(1:Int)))
  il (e3,e4,())
  else
  let e5:Int:=(wr (x8+(1:Int)))
  il (x7,e5,()))
  else
  ir (x7,()))) ((0:Int),(0:Int),())
noncomputable def L18_times.F:=stk L18_times.B
theorem L18_times.eq:L18_times.F=L18_times.B:=stk_eq _
theorem L18_times.k:Kk R12_Find.s ddl_parser_view.q [] Tryz.f12 L18_times.d L18_times.B:={}
noncomputable def L18_times.s:SpL:=L18_times.d.e [] L18_times.F::R12_Find.s
theorem L18_times.c:Ck L18_times.s ddl_parser_view.q:=cS R12_Find.c L18_times.k
/-! levee/leveelaw18.CheckRows -/
def L18_CheckRows.d:Fe:=⟨3,2,⟨[(0,.v false [.sl 69 tDef]),(1,.v false [.sl 72 tSource])],[],[],0,[]⟩,⟨[(0,.v false [.bool])],[],[],1000,[]⟩,(.s none .n (.s none (.s (some ⟨[(40,.v false [.bool])],[],[0,1],0,[]⟩) .n .n) (.s none .n (.s none (.s none .n (.b (.l ⟨[(6,.v false [.int .i64])],[],[1,5],0,[]⟩ (.s none .n (.s (some ⟨[],[],[1,5,6],0,[]⟩) (.b (.s none .n (.s none .n (.b (.l ⟨[(8,.v false [.int .i64])],[],[1,5,6,7],0,[]⟩ (.s none .n (.s (some ⟨[],[],[1,5,6,7,8],0,[]⟩) (.b (.s none .n (.b (.l ⟨[(9,.v false [.int .i64])],[],[1,5,6,7,8],0,[]⟩ (.s none .n (.s none (.b (.s none .n (.s none (.s (some ⟨[(119,.v false [.bool])],[],[1,5,6,7,8,9,10,11],0,[]⟩) .n .n) .n))) .n)))))) .n))))))) .n))))) .n))))⟩
noncomputable def L18_CheckRows.B:(List tDefT)×(List tSourceT)×Unit→Option (Bool×Unit):=fun (p0,p1,_)=>
  jn (S:=Bool×Unit) (
  (L18_fixed.F (())).bind fun y1=>
  (bif (!y1.1) then
  il (true,())
  else
  (R09_Big.F (p0,())).bind fun y2=>
  (bif y2.1 then
  il (true,())
  else
  (bif (decide ((p0.length:Int)>(9:Int))) then
  il (true,())
  else
  (R12_Small.F (p1,())).bind fun y3=>
  (bif (!y3.1) then
  il (true,())
  else
  (R17_May.F (p0,p1,())).bind fun y4=>
  (bif (!y4.1) then
  il (true,())
  else
  (check_First.F (p0,p1,())).bind fun y5=>
  il ((y5.1 !=(0:Int)),()))))))) fun (x40_6,_)=>
  (bif x40_6 then
  (L18_fixed.F (())).bind fun y7=>
  some (y7.1,())
  else
  (R17_Tables.F (p0,())).bind fun y8=>
  loopM (S:=Int×Unit) (fun (x6,_)=>
  (bif (decide (x6<(y8.1.length:Int))) then
  jn (S:=Unit) (
  ck (ib x6 y8.1.length)<|
  let e9:tTableT:=(List.getD y8.1 (Int.toNat x6) tTable.z)
  (R12_Find.F (p1,e9.1,())).bind fun y10=>
  loopM (S:=Int×Unit) (fun (x8',_)=>
  (bif (decide (x8'<(y10.1.length:Int))) then
  jn (S:=Unit) (
  loopM (S:=Int×Unit) (fun (x9'',_)=>
  ck (ib x6 y8.1.length)<|
  let e11:tTableT:=(List.getD y8.1 (Int.toNat x6) tTable.z)
  (bif (decide (x9''<(e11.2.1.length:Int))) then
  ck (ib x6 y8.1.length)<|
  let e12:tTableT:=(List.getD y8.1 (Int.toNat x6) tTable.z)
  ck (ib x9'' e12.2.1.length)<|
  let e13:tColumnT:=(gt e12.2.1 x9'' tColumn.z)
  ck (ib x8' y10.1.length)<|
  let e14:tCountT:=(gt y10.1 x8' tCount.z)
  ck (ib x9'' e14.1.length)<|
  let e15:tValueT:=(gt e14.1 x9'' tValue.z)
  jn (S:=Bool×Unit) (
  (bif (e15.1 !=e13.2.1) then
  (bif e13.2.2.1 then
  (bif (!(e15.1==(0:Int))) then
  il (true,())
  else
  (bif e13.2.2.2.1 then
  (bif (e15.1 !=(0:Int)) then
  (L18_times.F (y10.1,x9'',e15.1,e15.2.1,e15.2.2,())).bind fun y16=>
  il ((y16.1 !=(1:Int)),())
  else
  il (false,()))
  else
  il (false,())))
  else
  il (true,()))
  else
  (bif e13.2.2.2.1 then
  (bif (e15.1 !=(0:Int)) then
  (L18_times.F (y10.1,x9'',e15.1,e15.2.1,e15.2.2,())).bind fun y17=>
  il ((y17.1 !=(1:Int)),())
  else
  il (false,()))
  else
  il (false,())))) fun (x119_18,_)=>
  (bif x119_18 then
  ir (.inr (.inr (.inr (.inr (false,())))))
  else
  (bif (!sq e13.2.2.2.2.1 (⟨#[]⟩:ByteArray)) then
  (bif (e15.1 !=(0:Int)) then
  (R12_Find.F (p1,e13.2.2.2.2.1,())).bind fun y19=>
  (L18_times.F (y19.1,(0:Int),e15.1,e15.2.1,e15.2.2,())).bind fun y20=>
  (bif (y20.1 !=(1:Int)) then
  ir (.inr (.inr (.inr (.inr (false,())))))
  else
  let e21:Int:=(wr (x9''+(1:Int)))
  il (e21,()))
  else
  let e22:Int:=(wr (x9''+(1:Int)))
  il (e22,()))
  else
  let e23:Int:=(wr (x9''+(1:Int)))
  il (e23,())))
  else
  ir (.inl (())))) ((0:Int),())) fun (_)=>
  let e25:Int:=(wr (x8'+(1:Int)))
  il (e25,())
  else
  ir (.inl (())))) ((0:Int),())) fun (_)=>
  let e27:Int:=(wr (x6+(1:Int)))
  il (e27,())
  else
  ir (true,()))) ((0:Int),()))
noncomputable def L18_CheckRows.F:=stk L18_CheckRows.B
theorem L18_CheckRows.eq:L18_CheckRows.F=L18_CheckRows.B:=stk_eq _
theorem L18_CheckRows.k:Kk L18_times.s ddl_parser_view.q [] Tryz.f3 L18_CheckRows.d L18_CheckRows.B:={}
noncomputable def L18_CheckRows.s:SpL:=L18_CheckRows.d.e [] L18_CheckRows.F::L18_times.s
theorem L18_CheckRows.c:Ck L18_CheckRows.s ddl_parser_view.q:=cS L18_times.c L18_CheckRows.k
/-! levee/leveeref17.With -/
def R17_With.d:Fe:=⟨13,3,⟨[(0,.v false [.sl 72 tSource]),(1,.v false [.str]),(2,.v false [.sl 49 tCount])],[],[],0,[]⟩,⟨[(0,.v false [.ref 1000])],[(1000,false,.arr 72 tSource)],[],1001,[]⟩,(.s none .n (.s none .n (.s none (.s none .n (.b (.l ⟨[(7,.v false [.ref 0]),(8,.v false [.int .i64])],[(0,false,.arr 72 tSource)],[0,1,2],1,[]⟩ .n))) .n)))⟩
noncomputable def R17_With.B:(List tSourceT)×ByteArray×(List tCountT)×Unit→Option ((List tSourceT)×Unit):=fun (p0,p1,p2,_)=>
  loopM (S:=Int×(List tSourceT)×Unit) (fun (x8,o7_0,_)=>
  (bif (decide (x8<(p0.length:Int))) then
  ck (ib x8 p0.length)<|
  let e1:tSourceT:=(gt p0 x8 tSource.z)
  (bif (sq e1.1 p1) then
  ck (Nat.ble (o7_0.length+ [(e1.1,p2)].length) 3518437208883)<|
  let e2:Int:=(wr (x8+(1:Int)))
  il (e2,(o7_0++ [(e1.1,p2)]),())
  else
  ck (Nat.ble (o7_0.length+ [e1].length) 3518437208883)<|
  let e3:Int:=(wr (x8+(1:Int)))
  il (e3,(o7_0++ [e1]),()))
  else
  ir (o7_0,()))) ((0:Int),([]:List tSourceT),())
noncomputable def R17_With.F:=stk R17_With.B
theorem R17_With.eq:R17_With.F=R17_With.B:=stk_eq _
theorem R17_With.k:Kk L18_CheckRows.s ddl_parser_view.q [] Tryz.f13 R17_With.d R17_With.B:={}
noncomputable def R17_With.s:SpL:=R17_With.d.e [] R17_With.F::L18_CheckRows.s
theorem R17_With.c:Ck R17_With.s ddl_parser_view.q:=cS L18_CheckRows.c R17_With.k
/-! levee/leveelaw18.CheckFewer -/
def L18_CheckFewer.d:Fe:=⟨4,3,⟨[(0,.v false [.sl 69 tDef]),(1,.v false [.sl 72 tSource]),(2,.v true [.str,.int .i64])],[],[],0,[]⟩,⟨[(0,.v false [.bool])],[],[],1000,[]⟩,(.s none .n (.s none .n (.s none (.s (some ⟨[(46,.v false [.bool])],[],[0,1,7,8],0,[]⟩) .n .n) (.s none .n (.s (some ⟨[],[],[0,1,7,8],0,[]⟩) (.s none .n (.b (.l ⟨[(10,.v false [.int .i64])],[],[0,1,7,8,9],0,[]⟩ (.s none .n (.s (some ⟨[],[],[0,1,7,8,9,10],0,[]⟩) (.b (.s none .n (.b (.l ⟨[(11,.v false [.int .i64])],[],[0,1,7,8,9,10],0,[]⟩ .n)))) .n))))) .n)))))⟩
noncomputable def L18_CheckFewer.B:(List tDefT)×(List tSourceT)×ByteArray×Int×Unit→Option (Bool×Unit):=fun (p0,p1,p2_0,p2_1,_)=>
  jn (S:=Bool×Unit) (
  (L18_fixed.F (())).bind fun y1=>
  (bif (!y1.1) then
  il (true,())
  else
  (R09_Big.F (p0,())).bind fun y2=>
  (bif y2.1 then
  il (true,())
  else
  (bif (decide ((p0.length:Int)>(9:Int))) then
  il (true,())
  else
  (R12_Small.F (p1,())).bind fun y3=>
  (bif (!y3.1) then
  il (true,())
  else
  (R17_May.F (p0,p1,())).bind fun y4=>
  (bif (!y4.1) then
  il (true,())
  else
  (check_First.F (p0,p1,())).bind fun y5=>
  il ((y5.1 !=(0:Int)),()))))))) fun (x46_6,_)=>
  (bif x46_6 then
  (L18_fixed.F (())).bind fun y7=>
  some (y7.1,())
  else
  (R17_Tables.F (p0,())).bind fun y8=>
  jn (S:=Unit) (
  loopM (S:=Int×Unit) (fun (x10,_)=>
  (bif (decide (x10<(y8.1.length:Int))) then
  jn (S:=Unit) (
  loopM (S:=Int×Unit) (fun (x11',_)=>
  ck (ib x10 y8.1.length)<|
  let e9:tTableT:=(List.getD y8.1 (Int.toNat x10) tTable.z)
  (bif (decide (x11'<(e9.2.1.length:Int))) then
  ck (ib x10 y8.1.length)<|
  let e10:tTableT:=(List.getD y8.1 (Int.toNat x10) tTable.z)
  ck (ib x11' e10.2.1.length)<|
  let e11:tColumnT:=(gt e10.2.1 x11' tColumn.z)
  (bif (sq e11.2.2.2.2.1 p2_0) then
  ir (.inr (.inr (.inr (true,()))))
  else
  let e12:Int:=(wr (x11'+(1:Int)))
  il (e12,()))
  else
  ir (.inl (())))) ((0:Int),())) fun (_)=>
  let e14:Int:=(wr (x10+(1:Int)))
  il (e14,())
  else
  ir (.inl (())))) ((0:Int),())) fun (_)=>
  (R12_Find.F (p1,p2_0,())).bind fun y16=>
  (bif (decide (p2_1<(0:Int))) then
  some (true,())
  else
  (bif (decide (p2_1≥(y16.1.length:Int))) then
  some (true,())
  else
  ck (sb (0:Int) p2_1 y16.1.length)<|
  let e17:List tCountT:=(List.drop (Int.toNat (0:Int)) (List.take (Int.toNat p2_1) y16.1))
  ck (Nat.ble (([]:List tCountT).length+e17.length) 4398046511104)<|
  let e18:Int:=(wr (p2_1+(1:Int)))
  ck (sb e18 (y16.1.length:Int) y16.1.length)<|
  let e19:List tCountT:=(List.drop (Int.toNat e18) (List.take (Int.toNat (y16.1.length:Int)) y16.1))
  ck (Nat.ble ((([]:List tCountT)++e17).length+e19.length) 4398046511104)<|
  (R17_With.F (p1,p2_0,((([]:List tCountT)++e17)++e19),())).bind fun y20=>
  (check_First.F (p0,y20.1,())).bind fun y21=>
  some ((y21.1==(0:Int)),()))))
noncomputable def L18_CheckFewer.F:=stk L18_CheckFewer.B
theorem L18_CheckFewer.eq:L18_CheckFewer.F=L18_CheckFewer.B:=stk_eq _
theorem L18_CheckFewer.k:Kk R17_With.s ddl_parser_view.q [] Tryz.f4 L18_CheckFewer.d L18_CheckFewer.B:={}
noncomputable def L18_CheckFewer.s:SpL:=L18_CheckFewer.d.e [] L18_CheckFewer.F::R17_With.s
theorem L18_CheckFewer.c:Ck L18_CheckFewer.s ddl_parser_view.q:=cS R17_With.c L18_CheckFewer.k
end Go.Proofs.Ytnhiifengimfgaa
