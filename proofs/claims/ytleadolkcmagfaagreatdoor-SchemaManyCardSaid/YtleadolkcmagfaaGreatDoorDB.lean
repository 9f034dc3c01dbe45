import Derived.Test.YtleadolkcmagfaaGreatDoorDA
set_option linter.all false
set_option linter.unusedVariables false
set_option linter.unusedSimpArgs false
set_option linter.unusedSectionVars false
set_option maxRecDepth 100000
namespace Go.Proofs.Ytleadolkcmagfaa
open Go Lv Go.Proofs Go.RowKit Go.Shelf
def slices_Contains_sl_string_string.si:Sh:=⟨[(0,.v false [.sl 9 .str]),(1,.v false [.str])],[],[],0,[]⟩
def slices_Contains_sl_string_string.so:Sh:=⟨[(0,.v false [.bool])],[],[],1000,[]⟩
def slices_Contains_sl_string_string.h:H:=.n
noncomputable def slices_Contains_sl_string_string.B:(List ByteArray)×ByteArray×Unit→Option (Bool×Unit):=fun (p0,p1,_)=>
 Option.bind (slices_Index_sl_string_string.F (p0,p1,())) fun y1=>
 some ((decide (y1.1≥(0:Int))),())
noncomputable def slices_Contains_sl_string_string.F:=stk slices_Contains_sl_string_string.B
theorem slices_Contains_sl_string_string.eq:slices_Contains_sl_string_string.F=slices_Contains_sl_string_string.B:=stk_eq _
theorem slices_Contains_sl_string_string.ev (x:TS slices_Contains_sl_string_string.si):evF cslices_Index_sl_string_string inl0 (Tryz.f174.body.getD .skip) Tryz.f174.results.toList slices_Contains_sl_string_string.h slices_Contains_sl_string_string.si slices_Contains_sl_string_string.so x=slices_Contains_sl_string_string.B x:=by kernel_rfl
theorem slices_Contains_sl_string_string.fn:FnOk PP 174 (Tryz.f174.body.getD .skip) Tryz.f174.results.toList Tryz.f174.ntmps:=fnOk_mk (by kernel_rfl) (by kernel_rfl) (by kernel_rfl) (by kernel_rfl)
theorem slices_Contains_sl_string_string.ok:SpecOk PP 174 ⟨2,slices_Contains_sl_string_string.si,slices_Contains_sl_string_string.so,slices_Contains_sl_string_string.F⟩:=fn_stk cxslices_Index_sl_string_string (inl0_ok _ _) mixed slices_Contains_sl_string_string.fn slices_Contains_sl_string_string.h (by kernel_rfl) slices_Contains_sl_string_string.ev
noncomputable def spslices_Contains_sl_string_string:List (Nat×List (Nat×AK)×Lv.Spec):=(174,[],⟨2,slices_Contains_sl_string_string.si,slices_Contains_sl_string_string.so,slices_Contains_sl_string_string.F⟩)::spslices_Index_sl_string_string
noncomputable abbrev cslices_Contains_sl_string_string:Cx:=⟨tabAt tab0,eqAt eqs0,specAt spslices_Contains_sl_string_string,159,specPAt sqddl_parser_next⟩
theorem cxslices_Contains_sl_string_string:CxOk PP cslices_Contains_sl_string_string:=cxslices_Index_sl_string_string.consS [] slices_Contains_sl_string_string.fn.enters slices_Contains_sl_string_string.ok
def ddl_Name.si:Sh:=⟨[(0,.v false [.str])],[],[],0,[]⟩
def ddl_Name.so:Sh:=⟨[(0,.v false [.bool])],[],[],1000,[]⟩
def ddl_Name.h:H:=.n
noncomputable def ddl_Name.B:ByteArray×Unit→Option (Bool×Unit):=fun (p0,_)=>
 Option.bind (lex_Word.F (p0,())) fun y1=>
 (bif y1.1 then
 Option.bind (ddl_keywords.F (())) fun y2=>
 Option.bind (slices_Contains_sl_string_string.F (y2.1,p0,())) fun y3=>
 some ((!y3.1),())
 else
 some (false,()))
noncomputable def ddl_Name.F:=stk ddl_Name.B
theorem ddl_Name.eq:ddl_Name.F=ddl_Name.B:=stk_eq _
theorem ddl_Name.ev (x:TS ddl_Name.si):evF cslices_Contains_sl_string_string inl0 (Tryz.f162.body.getD .skip) Tryz.f162.results.toList ddl_Name.h ddl_Name.si ddl_Name.so x=ddl_Name.B x:=by kernel_rfl
theorem ddl_Name.fn:FnOk PP 162 (Tryz.f162.body.getD .skip) Tryz.f162.results.toList Tryz.f162.ntmps:=fnOk_mk (by kernel_rfl) (by kernel_rfl) (by kernel_rfl) (by kernel_rfl)
theorem ddl_Name.ok:SpecOk PP 162 ⟨1,ddl_Name.si,ddl_Name.so,ddl_Name.F⟩:=fn_stk cxslices_Contains_sl_string_string (inl0_ok _ _) mixed ddl_Name.fn ddl_Name.h (by kernel_rfl) ddl_Name.ev
noncomputable def spddl_Name:List (Nat×List (Nat×AK)×Lv.Spec):=(162,[],⟨1,ddl_Name.si,ddl_Name.so,ddl_Name.F⟩)::spslices_Contains_sl_string_string
noncomputable abbrev cddl_Name:Cx:=⟨tabAt tab0,eqAt eqs0,specAt spddl_Name,159,specPAt sqddl_parser_next⟩
theorem cxddl_Name:CxOk PP cddl_Name:=cxslices_Contains_sl_string_string.consS [] ddl_Name.fn.enters ddl_Name.ok
def ddl_parser_name.si:Sh:=⟨[(0,.v false [.ptr 0 0])],[(0,true,.box 162 [.sl 111 tTok])],[],1,[]⟩
def ddl_parser_name.so:Sh:=⟨[(0,.v false [.str])],[(0,true,.box 162 [.sl 111 tTok])],[],1001,[(0,0)]⟩
def ddl_parser_name.h:H:=.n
noncomputable def ddl_parser_name.B:(List tTokT)×Unit→Option ((ByteArray×(List tTokT)×Unit)⊕Int):=fun (o0,_)=>
 Option.bind (ddl_parser_next.F (o0,())) fun zy1=>match zy1 with
 | .inl y1=>
 ((bif (y1.1==(0:Int)) then
 Option.bind (ddl_Name.F (y1.2.1,())) fun y2=>
 Option.bind (ddl_need.F (y2.1,())) fun zy3=>match zy3 with
 | .inl y3=>
 (some (.inl (y1.2.1,y1.2.2.2.2.2.1,())))
 | .inr n4=>some (.inr n4)
 else
 Option.bind (ddl_need.F (false,())) fun zy5=>match zy5 with
 | .inl y5=>
 (some (.inl (y1.2.1,y1.2.2.2.2.2.1,())))
 | .inr n6=>some (.inr n6)))
 | .inr n7=>some (.inr n7)
noncomputable def ddl_parser_name.F:=stk ddl_parser_name.B
theorem ddl_parser_name.eq:ddl_parser_name.F=ddl_parser_name.B:=stk_eq _
theorem ddl_parser_name.ev (x:TS ddl_parser_name.si):evFP cddl_Name inl0 (Tryz.f135.body.getD .skip) Tryz.f135.results.toList ddl_parser_name.h ddl_parser_name.si ddl_parser_name.so x=ddl_parser_name.B x:=by kernel_rfl
theorem ddl_parser_name.fn:FnOk PP 135 (Tryz.f135.body.getD .skip) Tryz.f135.results.toList Tryz.f135.ntmps:=fnOk_mk (by kernel_rfl) (by kernel_rfl) (by kernel_rfl) (by kernel_rfl)
theorem ddl_parser_name.ok:SpecPOk PP 135 159 ⟨1,ddl_parser_name.si,ddl_parser_name.so,ddl_parser_name.F⟩:=fnP_stk cxddl_Name (inl0_ok _ _) mixed ddl_parser_name.fn ddl_parser_name.h (by kernel_rfl) ddl_parser_name.ev
noncomputable def sqddl_parser_name:List (Nat×List (Nat×AK)×Lv.SpecP):=(135,[],⟨1,ddl_parser_name.si,ddl_parser_name.so,ddl_parser_name.F⟩)::sqddl_parser_next
noncomputable abbrev cddl_parser_name:Cx:=⟨tabAt tab0,eqAt eqs0,specAt spddl_Name,159,specPAt sqddl_parser_name⟩
theorem cxddl_parser_name:CxOk PP cddl_parser_name:=cxddl_Name.consP [] ddl_parser_name.fn.enters ddl_parser_name.ok
def ddl_parser_columnOf.si:Sh:=⟨[(0,.v false [.ptr 0 0])],[(0,true,.box 162 [.sl 111 tTok])],[],1,[]⟩
def ddl_parser_columnOf.so:Sh:=⟨[(0,.v true [.str,.int .i64,.bool,.bool,.str,.int .i64])],[(0,true,.box 162 [.sl 111 tTok])],[],1001,[(0,0)]⟩
def ddl_parser_columnOf.h:H:=.n
noncomputable def ddl_parser_columnOf.B:(List tTokT)×Unit→Option ((ByteArray×Int×Bool×Bool×ByteArray×Int×(List tTokT)×Unit)⊕Int):=fun (o0,_)=>
 Option.bind (ddl_parser_name.F (o0,())) fun zy1=>match zy1 with
 | .inl y1=>
 (Option.bind (ddl_parser_one.F ([(⟨#[98,111,111,108]⟩:ByteArray),(⟨#[105,110,116]⟩:ByteArray),(⟨#[116,101,120,116]⟩:ByteArray)],y1.2.1,())) fun zy2=>match zy2 with
 | .inl y2=>
 (let e3:Int:=(IntKind.i64.wrap ((1:Int)+y2.1))
 Option.bind (ddl_parser_take.F ([(⟨#[110,117,108,108]⟩:ByteArray)],y2.2.1,())) fun y4=>
 Option.bind (ddl_parser_take.F ([(⟨#[117,110,105,113,117,101]⟩:ByteArray)],y4.2.1,())) fun y5=>
 Option.bind (ddl_parser_take.F ([(⟨#[114,101,102]⟩:ByteArray)],y5.2.1,())) fun y6=>
 (bif y6.1 then
 Option.bind (ddl_parser_name.F (y6.2.1,())) fun zy7=>match zy7 with
 | .inl y7=>
 (Option.bind (ddl_parser_one.F ([(⟨#[114,101,115,116,114,105,99,116]⟩:ByteArray),(⟨#[99,97,115,99,97,100,101]⟩:ByteArray),(⟨#[115,101,116,110,117,108,108]⟩:ByteArray)],y7.2.1,())) fun zy8=>match zy8 with
 | .inl y8=>
 (some (.inl (y1.1,e3,y4.1,y5.1,y7.1,y8.1,y8.2.1,())))
 | .inr n9=>some (.inr n9))
 | .inr n10=>some (.inr n10)
 else
 some (.inl (y1.1,e3,y4.1,y5.1,(⟨#[]⟩:ByteArray),(0:Int),y6.2.1,()))))
 | .inr n11=>some (.inr n11))
 | .inr n12=>some (.inr n12)
noncomputable def ddl_parser_columnOf.F:=stk ddl_parser_columnOf.B
theorem ddl_parser_columnOf.eq:ddl_parser_columnOf.F=ddl_parser_columnOf.B:=stk_eq _
theorem ddl_parser_columnOf.ev (x:TS ddl_parser_columnOf.si):evFP cddl_parser_name inl0 (Tryz.f138.body.getD .skip) Tryz.f138.results.toList ddl_parser_columnOf.h ddl_parser_columnOf.si ddl_parser_columnOf.so x=ddl_parser_columnOf.B x:=by kernel_rfl
theorem ddl_parser_columnOf.fn:FnOk PP 138 (Tryz.f138.body.getD .skip) Tryz.f138.results.toList Tryz.f138.ntmps:=fnOk_mk (by kernel_rfl) (by kernel_rfl) (by kernel_rfl) (by kernel_rfl)
theorem ddl_parser_columnOf.ok:SpecPOk PP 138 159 ⟨1,ddl_parser_columnOf.si,ddl_parser_columnOf.so,ddl_parser_columnOf.F⟩:=fnP_stk cxddl_parser_name (inl0_ok _ _) mixed ddl_parser_columnOf.fn ddl_parser_columnOf.h (by kernel_rfl) ddl_parser_columnOf.ev
noncomputable def sqddl_parser_columnOf:List (Nat×List (Nat×AK)×Lv.SpecP):=(138,[],⟨1,ddl_parser_columnOf.si,ddl_parser_columnOf.so,ddl_parser_columnOf.F⟩)::sqddl_parser_name
noncomputable abbrev cddl_parser_columnOf:Cx:=⟨tabAt tab0,eqAt eqs0,specAt spddl_Name,159,specPAt sqddl_parser_columnOf⟩
theorem cxddl_parser_columnOf:CxOk PP cddl_parser_columnOf:=cxddl_parser_name.consP [] ddl_parser_columnOf.fn.enters ddl_parser_columnOf.ok
def internal_stringslite_HasPrefix.si:Sh:=⟨[(0,.v false [.str]),(1,.v false [.str])],[],[],0,[]⟩
def internal_stringslite_HasPrefix.so:Sh:=⟨[(0,.v false [.bool])],[],[],1000,[]⟩
def internal_stringslite_HasPrefix.h:H:=.n
noncomputable def internal_stringslite_HasPrefix.B:ByteArray×ByteArray×Unit→Option (Bool×Unit):=fun (p0,p1,_)=>
 (bif (decide ((p0.size:Int)≥(p1.size:Int))) then
 bif (decide (0≤(0:Int))&&(decide ((0:Int)≤(p1.size:Int))&&decide ((p1.size:Int)≤(p0.size:Int)))) then
 let e1:ByteArray:=(p0.extract (Int.toNat (0:Int)) (Int.toNat (p1.size:Int)))
 some ((e1.toList==p1.toList),())
 else none
 else
 some (false,()))
noncomputable def internal_stringslite_HasPrefix.F:=stk internal_stringslite_HasPrefix.B
theorem internal_stringslite_HasPrefix.eq:internal_stringslite_HasPrefix.F=internal_stringslite_HasPrefix.B:=stk_eq _
theorem internal_stringslite_HasPrefix.ev (x:TS internal_stringslite_HasPrefix.si):evF cddl_parser_columnOf inl0 (Tryz.f211.body.getD .skip) Tryz.f211.results.toList internal_stringslite_HasPrefix.h internal_stringslite_HasPrefix.si internal_stringslite_HasPrefix.so x=internal_stringslite_HasPrefix.B x:=by kernel_rfl
theorem internal_stringslite_HasPrefix.fn:FnOk PP 211 (Tryz.f211.body.getD .skip) Tryz.f211.results.toList Tryz.f211.ntmps:=fnOk_mk (by kernel_rfl) (by kernel_rfl) (by kernel_rfl) (by kernel_rfl)
theorem internal_stringslite_HasPrefix.ok:SpecOk PP 211 ⟨2,internal_stringslite_HasPrefix.si,internal_stringslite_HasPrefix.so,internal_stringslite_HasPrefix.F⟩:=fn_stk cxddl_parser_columnOf (inl0_ok _ _) mixed internal_stringslite_HasPrefix.fn internal_stringslite_HasPrefix.h (by kernel_rfl) internal_stringslite_HasPrefix.ev
noncomputable def spinternal_stringslite_HasPrefix:List (Nat×List (Nat×AK)×Lv.Spec):=(211,[],⟨2,internal_stringslite_HasPrefix.si,internal_stringslite_HasPrefix.so,internal_stringslite_HasPrefix.F⟩)::spddl_Name
noncomputable abbrev cinternal_stringslite_HasPrefix:Cx:=⟨tabAt tab0,eqAt eqs0,specAt spinternal_stringslite_HasPrefix,159,specPAt sqddl_parser_columnOf⟩
theorem cxinternal_stringslite_HasPrefix:CxOk PP cinternal_stringslite_HasPrefix:=cxddl_parser_columnOf.consS [] internal_stringslite_HasPrefix.fn.enters internal_stringslite_HasPrefix.ok
def internal_stringslite_CutPrefix.si:Sh:=⟨[(0,.v false [.str]),(1,.v false [.str])],[],[],0,[]⟩
def internal_stringslite_CutPrefix.so:Sh:=⟨[(0,.tup [(false,[.str]),(false,[.bool])])],[],[],1000,[]⟩
def internal_stringslite_CutPrefix.h:H:=.n
noncomputable def internal_stringslite_CutPrefix.B:ByteArray×ByteArray×Unit→Option (ByteArray×Bool×Unit):=fun (p0,p1,_)=>
 Option.bind (internal_stringslite_HasPrefix.F (p0,p1,())) fun y1=>
 (bif (!y1.1) then
 some (p0,false,())
 else
 bif (decide (0≤(p1.size:Int))&&(decide ((p1.size:Int)≤(p0.size:Int))&&decide ((p0.size:Int)≤(p0.size:Int)))) then
 let e2:ByteArray:=(p0.extract (Int.toNat (p1.size:Int)) (Int.toNat (p0.size:Int)))
 some (e2,true,())
 else none)
noncomputable def internal_stringslite_CutPrefix.F:=stk internal_stringslite_CutPrefix.B
theorem internal_stringslite_CutPrefix.eq:internal_stringslite_CutPrefix.F=internal_stringslite_CutPrefix.B:=stk_eq _
theorem internal_stringslite_CutPrefix.ev (x:TS internal_stringslite_CutPrefix.si):evF cinternal_stringslite_HasPrefix inl0 (Tryz.f203.body.getD .skip) Tryz.f203.results.toList internal_stringslite_CutPrefix.h internal_stringslite_CutPrefix.si internal_stringslite_CutPrefix.so x=internal_stringslite_CutPrefix.B x:=by kernel_rfl
theorem internal_stringslite_CutPrefix.fn:FnOk PP 203 (Tryz.f203.body.getD .skip) Tryz.f203.results.toList Tryz.f203.ntmps:=fnOk_mk (by kernel_rfl) (by kernel_rfl) (by kernel_rfl) (by kernel_rfl)
theorem internal_stringslite_CutPrefix.ok:SpecOk PP 203 ⟨2,internal_stringslite_CutPrefix.si,internal_stringslite_CutPrefix.so,internal_stringslite_CutPrefix.F⟩:=fn_stk cxinternal_stringslite_HasPrefix (inl0_ok _ _) mixed internal_stringslite_CutPrefix.fn internal_stringslite_CutPrefix.h (by kernel_rfl) internal_stringslite_CutPrefix.ev
noncomputable def spinternal_stringslite_CutPrefix:List (Nat×List (Nat×AK)×Lv.Spec):=(203,[],⟨2,internal_stringslite_CutPrefix.si,internal_stringslite_CutPrefix.so,internal_stringslite_CutPrefix.F⟩)::spinternal_stringslite_HasPrefix
noncomputable abbrev cinternal_stringslite_CutPrefix:Cx:=⟨tabAt tab0,eqAt eqs0,specAt spinternal_stringslite_CutPrefix,159,specPAt sqddl_parser_columnOf⟩
theorem cxinternal_stringslite_CutPrefix:CxOk PP cinternal_stringslite_CutPrefix:=cxinternal_stringslite_HasPrefix.consS [] internal_stringslite_CutPrefix.fn.enters internal_stringslite_CutPrefix.ok
def strings_CutPrefix.si:Sh:=⟨[(0,.v false [.str]),(1,.v false [.str])],[],[],0,[]⟩
def strings_CutPrefix.so:Sh:=⟨[(0,.tup [(false,[.str]),(false,[.bool])])],[],[],1000,[]⟩
def strings_CutPrefix.h:H:=.n
noncomputable def strings_CutPrefix.B:ByteArray×ByteArray×Unit→Option (ByteArray×Bool×Unit):=fun (p0,p1,_)=>
 Option.bind (internal_stringslite_CutPrefix.F (p0,p1,())) fun y1=>
 some (y1.1,y1.2.1,())
noncomputable def strings_CutPrefix.F:=stk strings_CutPrefix.B
theorem strings_CutPrefix.eq:strings_CutPrefix.F=strings_CutPrefix.B:=stk_eq _
theorem strings_CutPrefix.ev (x:TS strings_CutPrefix.si):evF cinternal_stringslite_CutPrefix inl0 (Tryz.f189.body.getD .skip) Tryz.f189.results.toList strings_CutPrefix.h strings_CutPrefix.si strings_CutPrefix.so x=strings_CutPrefix.B x:=by kernel_rfl
theorem strings_CutPrefix.fn:FnOk PP 189 (Tryz.f189.body.getD .skip) Tryz.f189.results.toList Tryz.f189.ntmps:=fnOk_mk (by kernel_rfl) (by kernel_rfl) (by kernel_rfl) (by kernel_rfl)
theorem strings_CutPrefix.ok:SpecOk PP 189 ⟨2,strings_CutPrefix.si,strings_CutPrefix.so,strings_CutPrefix.F⟩:=fn_stk cxinternal_stringslite_CutPrefix (inl0_ok _ _) mixed strings_CutPrefix.fn strings_CutPrefix.h (by kernel_rfl) strings_CutPrefix.ev
noncomputable def spstrings_CutPrefix:List (Nat×List (Nat×AK)×Lv.Spec):=(189,[],⟨2,strings_CutPrefix.si,strings_CutPrefix.so,strings_CutPrefix.F⟩)::spinternal_stringslite_CutPrefix
noncomputable abbrev cstrings_CutPrefix:Cx:=⟨tabAt tab0,eqAt eqs0,specAt spstrings_CutPrefix,159,specPAt sqddl_parser_columnOf⟩
theorem cxstrings_CutPrefix:CxOk PP cstrings_CutPrefix:=cxinternal_stringslite_CutPrefix.consS [] strings_CutPrefix.fn.enters strings_CutPrefix.ok
def ddl_column.si:Sh:=⟨[(0,.v false [.str])],[],[],0,[]⟩
def ddl_column.so:Sh:=⟨[(0,.tup [(false,[.int .i64]),(false,[.bool])])],[],[],1000,[]⟩
def ddl_column.h:H:=.n
noncomputable def ddl_column.B:ByteArray×Unit→Option (Int×Bool×Unit):=fun (p0,_)=>
 Option.bind (strings_CutPrefix.F (p0,(⟨#[99]⟩:ByteArray),())) fun y1=>
 Option.bind (strconv_Atoi.F (y1.1,())) fun y2=>
 (bif y1.2.1 then
 (bif y2.2.1 then
 (bif (decide (y2.1≤(99:Int))) then
 Option.bind (strconv_Itoa.F (y2.1,())) fun y3=>
 some (y2.1,(y3.1.toList==y1.1.toList),())
 else
 some (y2.1,false,()))
 else
 some (y2.1,false,()))
 else
 some (y2.1,false,()))
noncomputable def ddl_column.F:=stk ddl_column.B
theorem ddl_column.eq:ddl_column.F=ddl_column.B:=stk_eq _
theorem ddl_column.ev (x:TS ddl_column.si):evF cstrings_CutPrefix inl0 (Tryz.f177.body.getD .skip) Tryz.f177.results.toList ddl_column.h ddl_column.si ddl_column.so x=ddl_column.B x:=by kernel_rfl
theorem ddl_column.fn:FnOk PP 177 (Tryz.f177.body.getD .skip) Tryz.f177.results.toList Tryz.f177.ntmps:=fnOk_mk (by kernel_rfl) (by kernel_rfl) (by kernel_rfl) (by kernel_rfl)
theorem ddl_column.ok:SpecOk PP 177 ⟨1,ddl_column.si,ddl_column.so,ddl_column.F⟩:=fn_stk cxstrings_CutPrefix (inl0_ok _ _) mixed ddl_column.fn ddl_column.h (by kernel_rfl) ddl_column.ev
noncomputable def spddl_column:List (Nat×List (Nat×AK)×Lv.Spec):=(177,[],⟨1,ddl_column.si,ddl_column.so,ddl_column.F⟩)::spstrings_CutPrefix
noncomputable abbrev cddl_column:Cx:=⟨tabAt tab0,eqAt eqs0,specAt spddl_column,159,specPAt sqddl_parser_columnOf⟩
theorem cxddl_column:CxOk PP cddl_column:=cxstrings_CutPrefix.consS [] ddl_column.fn.enters ddl_column.ok
def ddl_parser_step.si:Sh:=⟨[(0,.v false [.ptr 0 0])],[(0,true,.box 162 [.sl 111 tTok])],[],1,[]⟩
def ddl_parser_step.so:Sh:=⟨[(0,.v true [.int .i64,.int .i64,.int .i64,.int .i64,.str])],[(0,true,.box 162 [.sl 111 tTok])],[],1001,[(0,0)]⟩
def ddl_parser_step.h:H:=(.s none .n (.s none .n (.s none .n (.s none .n (.s none (.s (some ⟨[(4,.v false [.int .i64]),(5,.v false [.bool])],[],[2,3],0,[]⟩) .d .n) (.s none (.s (some ⟨[(6,.v false [.ptr 0 0]),(7,.v false [.bool])],[(0,false,.box 76 [.int .i64,.int .i64,.str])],[2,3],1,[]⟩) .d .n) .n))))))
noncomputable def ddl_parser_step.B:(List tTokT)×Unit→Option ((Int×Int×Int×Int×ByteArray×(List tTokT)×Unit)⊕Int):=fun (o0,_)=>
 Option.bind (ddl_parser_take.F ([(⟨#[110,117,108,108]⟩:ByteArray),(⟨#[63]⟩:ByteArray)],o0,())) fun y1=>
 (bif y1.1 then
 some (.inl ((10:Int),(0:Int),(0:Int),(0:Int),(⟨#[]⟩:ByteArray),y1.2.1,()))
 else
 Option.bind (ddl_parser_next.F (y1.2.1,())) fun zy2=>match zy2 with
 | .inl y2=>
 ((bif (y2.1==(1:Int)) then
 some (.inl ((1:Int),(0:Int),y2.2.2.1,y2.2.2.2.1,y2.2.2.2.2.1,y2.2.2.2.2.2.1,()))
 else
 Option.bind (
 (fun z=>agreeL [agreeL [agreeL [agreeL [z]]],agreeL [agreeL [agreeL [z]],agreeL [agreeL [z]]]]) (let e3:Int:=(Option.getD (getKV y2.2.1 (putKV (⟨#[110,111,116]⟩:ByteArray) (9:Int) (putKV (⟨#[111,114]⟩:ByteArray) (8:Int) (putKV (⟨#[97,110,100]⟩:ByteArray) (7:Int) (putKV (⟨#[60]⟩:ByteArray) (6:Int) (putKV (⟨#[61]⟩:ByteArray) (5:Int) (putKV (⟨#[42]⟩:ByteArray) (4:Int) (putKV (⟨#[45]⟩:ByteArray) (3:Int) (putKV (⟨#[43]⟩:ByteArray) (2:Int) ([]:List (ByteArray×Int))))))))))) (0:Int))
 (fun z=>agreeL [agreeL [agreeL [agreeL [agreeL [z]],agreeL [agreeL [z]]],agreeL [agreeL [agreeL [z]]]]]) (some (.inl (e3,(Option.isSome (getKV y2.2.1 (putKV (⟨#[110,111,116]⟩:ByteArray) (9:Int) (putKV (⟨#[111,114]⟩:ByteArray) (8:Int) (putKV (⟨#[97,110,100]⟩:ByteArray) (7:Int) (putKV (⟨#[60]⟩:ByteArray) (6:Int) (putKV (⟨#[61]⟩:ByteArray) (5:Int) (putKV (⟨#[42]⟩:ByteArray) (4:Int) (putKV (⟨#[45]⟩:ByteArray) (3:Int) (putKV (⟨#[43]⟩:ByteArray) (2:Int) ([]:List (ByteArray×Int)))))))))))),())))):Option ((Int×Bool×Unit)⊕_)) fun r4=>match r4 with
 | .inl (x4_4,x5_4,_)=>
 ((bif x5_4 then
 some (.inl (x4_4,(0:Int),(0:Int),(0:Int),(⟨#[]⟩:ByteArray),y2.2.2.2.2.2.1,()))
 else
 Option.bind (
 agreeL [agreeL [agreeL [agreeL [let e5:tValueT:=(Option.getD (getKV y2.2.1 (putKV (⟨#[116,114,117,101]⟩:ByteArray) ((1:Int),((1:Int),(⟨#[]⟩:ByteArray))) (putKV (⟨#[102,97,108,115,101]⟩:ByteArray) ((1:Int),((0:Int),(⟨#[]⟩:ByteArray))) (putKV (⟨#[110,117,108,108]⟩:ByteArray) ((0:Int),((0:Int),(⟨#[]⟩:ByteArray))) ([]:List (ByteArray×tValueT)))))) ((0:Int),((0:Int),(⟨#[]⟩:ByteArray))))
 (fun z=>agreeL [agreeL [agreeL [agreeL [agreeL [agreeL [z]]],agreeL [agreeL [agreeL [z]],agreeL [agreeL [z]]]],agreeL [agreeL [agreeL [agreeL [z]]],agreeL [agreeL [agreeL [z]]]],agreeL [agreeL [agreeL [agreeL [z]],agreeL [agreeL [z]]],agreeL [agreeL [agreeL [z]]]]],agreeL [agreeL [agreeL [agreeL [agreeL [z]],agreeL [agreeL [z]]],agreeL [agreeL [agreeL [z]]]]]]) (some (.inl ((Option.isSome (getKV y2.2.1 (putKV (⟨#[116,114,117,101]⟩:ByteArray) ((1:Int),((1:Int),(⟨#[]⟩:ByteArray))) (putKV (⟨#[102,97,108,115,101]⟩:ByteArray) ((1:Int),((0:Int),(⟨#[]⟩:ByteArray))) (putKV (⟨#[110,117,108,108]⟩:ByteArray) ((0:Int),((0:Int),(⟨#[]⟩:ByteArray))) ([]:List (ByteArray×tValueT))))))),e5.1,e5.2.1,e5.2.2,()))),
 agreeL [let e5:tValueT:=(Option.getD (getKV y2.2.1 (putKV (⟨#[116,114,117,101]⟩:ByteArray) ((1:Int),((1:Int),(⟨#[]⟩:ByteArray))) (putKV (⟨#[102,97,108,115,101]⟩:ByteArray) ((1:Int),((0:Int),(⟨#[]⟩:ByteArray))) (putKV (⟨#[110,117,108,108]⟩:ByteArray) ((0:Int),((0:Int),(⟨#[]⟩:ByteArray))) ([]:List (ByteArray×tValueT)))))) ((0:Int),((0:Int),(⟨#[]⟩:ByteArray))))
 (fun z=>agreeL [agreeL [agreeL [agreeL [agreeL [z]],agreeL [agreeL [z]]],agreeL [agreeL [agreeL [z]]]]]) (some (.inl ((Option.isSome (getKV y2.2.1 (putKV (⟨#[116,114,117,101]⟩:ByteArray) ((1:Int),((1:Int),(⟨#[]⟩:ByteArray))) (putKV (⟨#[102,97,108,115,101]⟩:ByteArray) ((1:Int),((0:Int),(⟨#[]⟩:ByteArray))) (putKV (⟨#[110,117,108,108]⟩:ByteArray) ((0:Int),((0:Int),(⟨#[]⟩:ByteArray))) ([]:List (ByteArray×tValueT))))))),e5.1,e5.2.1,e5.2.2,())))]],
 agreeL [agreeL [let e5:tValueT:=(Option.getD (getKV y2.2.1 (putKV (⟨#[116,114,117,101]⟩:ByteArray) ((1:Int),((1:Int),(⟨#[]⟩:ByteArray))) (putKV (⟨#[102,97,108,115,101]⟩:ByteArray) ((1:Int),((0:Int),(⟨#[]⟩:ByteArray))) (putKV (⟨#[110,117,108,108]⟩:ByteArray) ((0:Int),((0:Int),(⟨#[]⟩:ByteArray))) ([]:List (ByteArray×tValueT)))))) ((0:Int),((0:Int),(⟨#[]⟩:ByteArray))))
 (fun z=>agreeL [agreeL [agreeL [agreeL [agreeL [z]],agreeL [agreeL [z]]],agreeL [agreeL [agreeL [z]]]]]) (some (.inl ((Option.isSome (getKV y2.2.1 (putKV (⟨#[116,114,117,101]⟩:ByteArray) ((1:Int),((1:Int),(⟨#[]⟩:ByteArray))) (putKV (⟨#[102,97,108,115,101]⟩:ByteArray) ((1:Int),((0:Int),(⟨#[]⟩:ByteArray))) (putKV (⟨#[110,117,108,108]⟩:ByteArray) ((0:Int),((0:Int),(⟨#[]⟩:ByteArray))) ([]:List (ByteArray×tValueT))))))),e5.1,e5.2.1,e5.2.2,())))]]],
 agreeL [agreeL [agreeL [let e5:tValueT:=(Option.getD (getKV y2.2.1 (putKV (⟨#[116,114,117,101]⟩:ByteArray) ((1:Int),((1:Int),(⟨#[]⟩:ByteArray))) (putKV (⟨#[102,97,108,115,101]⟩:ByteArray) ((1:Int),((0:Int),(⟨#[]⟩:ByteArray))) (putKV (⟨#[110,117,108,108]⟩:ByteArray) ((0:Int),((0:Int),(⟨#[]⟩:ByteArray))) ([]:List (ByteArray×tValueT)))))) ((0:Int),((0:Int),(⟨#[]⟩:ByteArray))))
 (fun z=>agreeL [agreeL [agreeL [agreeL [agreeL [z]],agreeL [agreeL [z]]],agreeL [agreeL [agreeL [z]]]]]) (some (.inl ((Option.isSome (getKV y2.2.1 (putKV (⟨#[116,114,117,101]⟩:ByteArray) ((1:Int),((1:Int),(⟨#[]⟩:ByteArray))) (putKV (⟨#[102,97,108,115,101]⟩:ByteArray) ((1:Int),((0:Int),(⟨#[]⟩:ByteArray))) (putKV (⟨#[110,117,108,108]⟩:ByteArray) ((0:Int),((0:Int),(⟨#[]⟩:ByteArray))) ([]:List (ByteArray×tValueT))))))),e5.1,e5.2.1,e5.2.2,())))]]]],
 agreeL [agreeL [agreeL [let e5:tValueT:=(Option.getD (getKV y2.2.1 (putKV (⟨#[116,114,117,101]⟩:ByteArray) ((1:Int),((1:Int),(⟨#[]⟩:ByteArray))) (putKV (⟨#[102,97,108,115,101]⟩:ByteArray) ((1:Int),((0:Int),(⟨#[]⟩:ByteArray))) (putKV (⟨#[110,117,108,108]⟩:ByteArray) ((0:Int),((0:Int),(⟨#[]⟩:ByteArray))) ([]:List (ByteArray×tValueT)))))) ((0:Int),((0:Int),(⟨#[]⟩:ByteArray))))
 (fun z=>agreeL [agreeL [agreeL [agreeL [agreeL [agreeL [z]]],agreeL [agreeL [agreeL [z]],agreeL [agreeL [z]]]],agreeL [agreeL [agreeL [agreeL [z]]],agreeL [agreeL [agreeL [z]]]],agreeL [agreeL [agreeL [agreeL [z]],agreeL [agreeL [z]]],agreeL [agreeL [agreeL [z]]]]],agreeL [agreeL [agreeL [agreeL [agreeL [z]],agreeL [agreeL [z]]],agreeL [agreeL [agreeL [z]]]]]]) (some (.inl ((Option.isSome (getKV y2.2.1 (putKV (⟨#[116,114,117,101]⟩:ByteArray) ((1:Int),((1:Int),(⟨#[]⟩:ByteArray))) (putKV (⟨#[102,97,108,115,101]⟩:ByteArray) ((1:Int),((0:Int),(⟨#[]⟩:ByteArray))) (putKV (⟨#[110,117,108,108]⟩:ByteArray) ((0:Int),((0:Int),(⟨#[]⟩:ByteArray))) ([]:List (ByteArray×tValueT))))))),e5.1,e5.2.1,e5.2.2,()))),
 agreeL [let e5:tValueT:=(Option.getD (getKV y2.2.1 (putKV (⟨#[116,114,117,101]⟩:ByteArray) ((1:Int),((1:Int),(⟨#[]⟩:ByteArray))) (putKV (⟨#[102,97,108,115,101]⟩:ByteArray) ((1:Int),((0:Int),(⟨#[]⟩:ByteArray))) (putKV (⟨#[110,117,108,108]⟩:ByteArray) ((0:Int),((0:Int),(⟨#[]⟩:ByteArray))) ([]:List (ByteArray×tValueT)))))) ((0:Int),((0:Int),(⟨#[]⟩:ByteArray))))
 (fun z=>agreeL [agreeL [agreeL [agreeL [agreeL [z]],agreeL [agreeL [z]]],agreeL [agreeL [agreeL [z]]]]]) (some (.inl ((Option.isSome (getKV y2.2.1 (putKV (⟨#[116,114,117,101]⟩:ByteArray) ((1:Int),((1:Int),(⟨#[]⟩:ByteArray))) (putKV (⟨#[102,97,108,115,101]⟩:ByteArray) ((1:Int),((0:Int),(⟨#[]⟩:ByteArray))) (putKV (⟨#[110,117,108,108]⟩:ByteArray) ((0:Int),((0:Int),(⟨#[]⟩:ByteArray))) ([]:List (ByteArray×tValueT))))))),e5.1,e5.2.1,e5.2.2,())))]],
 agreeL [agreeL [let e5:tValueT:=(Option.getD (getKV y2.2.1 (putKV (⟨#[116,114,117,101]⟩:ByteArray) ((1:Int),((1:Int),(⟨#[]⟩:ByteArray))) (putKV (⟨#[102,97,108,115,101]⟩:ByteArray) ((1:Int),((0:Int),(⟨#[]⟩:ByteArray))) (putKV (⟨#[110,117,108,108]⟩:ByteArray) ((0:Int),((0:Int),(⟨#[]⟩:ByteArray))) ([]:List (ByteArray×tValueT)))))) ((0:Int),((0:Int),(⟨#[]⟩:ByteArray))))
 (fun z=>agreeL [agreeL [agreeL [agreeL [agreeL [z]],agreeL [agreeL [z]]],agreeL [agreeL [agreeL [z]]]]]) (some (.inl ((Option.isSome (getKV y2.2.1 (putKV (⟨#[116,114,117,101]⟩:ByteArray) ((1:Int),((1:Int),(⟨#[]⟩:ByteArray))) (putKV (⟨#[102,97,108,115,101]⟩:ByteArray) ((1:Int),((0:Int),(⟨#[]⟩:ByteArray))) (putKV (⟨#[110,117,108,108]⟩:ByteArray) ((0:Int),((0:Int),(⟨#[]⟩:ByteArray))) ([]:List (ByteArray×tValueT))))))),e5.1,e5.2.1,e5.2.2,())))]]],
 agreeL [agreeL [let e5:tValueT:=(Option.getD (getKV y2.2.1 (putKV (⟨#[116,114,117,101]⟩:ByteArray) ((1:Int),((1:Int),(⟨#[]⟩:ByteArray))) (putKV (⟨#[102,97,108,115,101]⟩:ByteArray) ((1:Int),((0:Int),(⟨#[]⟩:ByteArray))) (putKV (⟨#[110,117,108,108]⟩:ByteArray) ((0:Int),((0:Int),(⟨#[]⟩:ByteArray))) ([]:List (ByteArray×tValueT)))))) ((0:Int),((0:Int),(⟨#[]⟩:ByteArray))))
 (fun z=>agreeL [agreeL [agreeL [agreeL [agreeL [agreeL [z]]],agreeL [agreeL [agreeL [z]],agreeL [agreeL [z]]]],agreeL [agreeL [agreeL [agreeL [z]]],agreeL [agreeL [agreeL [z]]]],agreeL [agreeL [agreeL [agreeL [z]],agreeL [agreeL [z]]],agreeL [agreeL [agreeL [z]]]]],agreeL [agreeL [agreeL [agreeL [agreeL [z]],agreeL [agreeL [z]]],agreeL [agreeL [agreeL [z]]]]]]) (some (.inl ((Option.isSome (getKV y2.2.1 (putKV (⟨#[116,114,117,101]⟩:ByteArray) ((1:Int),((1:Int),(⟨#[]⟩:ByteArray))) (putKV (⟨#[102,97,108,115,101]⟩:ByteArray) ((1:Int),((0:Int),(⟨#[]⟩:ByteArray))) (putKV (⟨#[110,117,108,108]⟩:ByteArray) ((0:Int),((0:Int),(⟨#[]⟩:ByteArray))) ([]:List (ByteArray×tValueT))))))),e5.1,e5.2.1,e5.2.2,()))),
 agreeL [let e5:tValueT:=(Option.getD (getKV y2.2.1 (putKV (⟨#[116,114,117,101]⟩:ByteArray) ((1:Int),((1:Int),(⟨#[]⟩:ByteArray))) (putKV (⟨#[102,97,108,115,101]⟩:ByteArray) ((1:Int),((0:Int),(⟨#[]⟩:ByteArray))) (putKV (⟨#[110,117,108,108]⟩:ByteArray) ((0:Int),((0:Int),(⟨#[]⟩:ByteArray))) ([]:List (ByteArray×tValueT)))))) ((0:Int),((0:Int),(⟨#[]⟩:ByteArray))))
 (fun z=>agreeL [agreeL [agreeL [agreeL [agreeL [z]],agreeL [agreeL [z]]],agreeL [agreeL [agreeL [z]]]]]) (some (.inl ((Option.isSome (getKV y2.2.1 (putKV (⟨#[116,114,117,101]⟩:ByteArray) ((1:Int),((1:Int),(⟨#[]⟩:ByteArray))) (putKV (⟨#[102,97,108,115,101]⟩:ByteArray) ((1:Int),((0:Int),(⟨#[]⟩:ByteArray))) (putKV (⟨#[110,117,108,108]⟩:ByteArray) ((0:Int),((0:Int),(⟨#[]⟩:ByteArray))) ([]:List (ByteArray×tValueT))))))),e5.1,e5.2.1,e5.2.2,())))]],
 agreeL [agreeL [let e5:tValueT:=(Option.getD (getKV y2.2.1 (putKV (⟨#[116,114,117,101]⟩:ByteArray) ((1:Int),((1:Int),(⟨#[]⟩:ByteArray))) (putKV (⟨#[102,97,108,115,101]⟩:ByteArray) ((1:Int),((0:Int),(⟨#[]⟩:ByteArray))) (putKV (⟨#[110,117,108,108]⟩:ByteArray) ((0:Int),((0:Int),(⟨#[]⟩:ByteArray))) ([]:List (ByteArray×tValueT)))))) ((0:Int),((0:Int),(⟨#[]⟩:ByteArray))))
 (fun z=>agreeL [agreeL [agreeL [agreeL [agreeL [z]],agreeL [agreeL [z]]],agreeL [agreeL [agreeL [z]]]]]) (some (.inl ((Option.isSome (getKV y2.2.1 (putKV (⟨#[116,114,117,101]⟩:ByteArray) ((1:Int),((1:Int),(⟨#[]⟩:ByteArray))) (putKV (⟨#[102,97,108,115,101]⟩:ByteArray) ((1:Int),((0:Int),(⟨#[]⟩:ByteArray))) (putKV (⟨#[110,117,108,108]⟩:ByteArray) ((0:Int),((0:Int),(⟨#[]⟩:ByteArray))) ([]:List (ByteArray×tValueT))))))),e5.1,e5.2.1,e5.2.2,())))]]],
 (fun z=>agreeL [agreeL [agreeL [z]],agreeL [agreeL [z]]]) (let e5:tValueT:=(Option.getD (getKV y2.2.1 (putKV (⟨#[116,114,117,101]⟩:ByteArray) ((1:Int),((1:Int),(⟨#[]⟩:ByteArray))) (putKV (⟨#[102,97,108,115,101]⟩:ByteArray) ((1:Int),((0:Int),(⟨#[]⟩:ByteArray))) (putKV (⟨#[110,117,108,108]⟩:ByteArray) ((0:Int),((0:Int),(⟨#[]⟩:ByteArray))) ([]:List (ByteArray×tValueT)))))) ((0:Int),((0:Int),(⟨#[]⟩:ByteArray))))
 (fun z=>agreeL [agreeL [agreeL [agreeL [agreeL [z]],agreeL [agreeL [z]]],agreeL [agreeL [agreeL [z]]]]]) (some (.inl ((Option.isSome (getKV y2.2.1 (putKV (⟨#[116,114,117,101]⟩:ByteArray) ((1:Int),((1:Int),(⟨#[]⟩:ByteArray))) (putKV (⟨#[102,97,108,115,101]⟩:ByteArray) ((1:Int),((0:Int),(⟨#[]⟩:ByteArray))) (putKV (⟨#[110,117,108,108]⟩:ByteArray) ((0:Int),((0:Int),(⟨#[]⟩:ByteArray))) ([]:List (ByteArray×tValueT))))))),e5.1,e5.2.1,e5.2.2,()))))],
 (fun z=>agreeL [agreeL [agreeL [agreeL [z]]],agreeL [agreeL [agreeL [z]],agreeL [agreeL [z]]]]) (let e5:tValueT:=(Option.getD (getKV y2.2.1 (putKV (⟨#[116,114,117,101]⟩:ByteArray) ((1:Int),((1:Int),(⟨#[]⟩:ByteArray))) (putKV (⟨#[102,97,108,115,101]⟩:ByteArray) ((1:Int),((0:Int),(⟨#[]⟩:ByteArray))) (putKV (⟨#[110,117,108,108]⟩:ByteArray) ((0:Int),((0:Int),(⟨#[]⟩:ByteArray))) ([]:List (ByteArray×tValueT)))))) ((0:Int),((0:Int),(⟨#[]⟩:ByteArray))))
 (fun z=>agreeL [agreeL [agreeL [agreeL [agreeL [z]],agreeL [agreeL [z]]],agreeL [agreeL [agreeL [z]]]]]) (some (.inl ((Option.isSome (getKV y2.2.1 (putKV (⟨#[116,114,117,101]⟩:ByteArray) ((1:Int),((1:Int),(⟨#[]⟩:ByteArray))) (putKV (⟨#[102,97,108,115,101]⟩:ByteArray) ((1:Int),((0:Int),(⟨#[]⟩:ByteArray))) (putKV (⟨#[110,117,108,108]⟩:ByteArray) ((0:Int),((0:Int),(⟨#[]⟩:ByteArray))) ([]:List (ByteArray×tValueT))))))),e5.1,e5.2.1,e5.2.2,()))))]:Option ((Bool×Int×Int×ByteArray×Unit)⊕_)) fun r6=>match r6 with
 | .inl (x7_6,o6_0_0_6,o6_0_1_6,o6_0_2_6,_)=>
 ((bif x7_6 then
 some (.inl ((1:Int),(0:Int),o6_0_0_6,o6_0_1_6,o6_0_2_6,y2.2.2.2.2.2.1,()))
 else
 Option.bind (ddl_column.F (y2.2.1,())) fun y7=>
 Option.bind (ddl_need.F (y7.2.1,())) fun zy8=>match zy8 with
 | .inl y8=>
 (some (.inl ((0:Int),y7.1,(0:Int),(0:Int),(⟨#[]⟩:ByteArray),y2.2.2.2.2.2.1,())))
 | .inr n9=>some (.inr n9)))
 | .inr r=>some r))
 | .inr r=>some r))
 | .inr n10=>some (.inr n10))
noncomputable def ddl_parser_step.F:=stk ddl_parser_step.B
theorem ddl_parser_step.eq:ddl_parser_step.F=ddl_parser_step.B:=stk_eq _
noncomputable def ddl_parser_step.ins:Nat→List (Option Slot)→Heap→Option (Code×List ResultVar×H):=fun g xs hp=>bif Nat.beq g 149 then some (Tryz.f149.body.getD .skip,Tryz.f149.results.toList,.n) else bif Nat.beq g 176 then some (Tryz.f176.body.getD .skip,Tryz.f176.results.toList,.n) else none
theorem ddl_parser_step.ins_ok:∀n xs hp code res h,ddl_parser_step.ins n xs hp=some (code,res,h)→∃nt,FnOk PP n code res nt:=by
 intro n xs hp code res h e
 unfold ddl_parser_step.ins at e
 cases e0:(Nat.beq n 149) with
 |true=>rw [e0] at e;cases e;rw [Nat.eq_of_beq_eq_true e0];exact ⟨_,fnOk_mk (by kernel_rfl) (by kernel_rfl) (by kernel_rfl) (by kernel_rfl)⟩
 |false=>
 rw [e0] at e
 cases e1:(Nat.beq n 176) with
 |true=>rw [e1] at e;cases e;rw [Nat.eq_of_beq_eq_true e1];exact ⟨_,fnOk_mk (by kernel_rfl) (by kernel_rfl) (by kernel_rfl) (by kernel_rfl)⟩
 |false=>
 rw [e1] at e
 cases e
theorem ddl_parser_step.ev (x:TS ddl_parser_step.si):evFP cddl_column (inlS cddl_column ddl_parser_step.ins (inlS cddl_column ddl_parser_step.ins (inlS cddl_column ddl_parser_step.ins inl0))) (Tryz.f163.body.getD .skip) Tryz.f163.results.toList ddl_parser_step.h ddl_parser_step.si ddl_parser_step.so x=ddl_parser_step.B x:=by kernel_rfl
theorem ddl_parser_step.fn:FnOk PP 163 (Tryz.f163.body.getD .skip) Tryz.f163.results.toList Tryz.f163.ntmps:=fnOk_mk (by kernel_rfl) (by kernel_rfl) (by kernel_rfl) (by kernel_rfl)
theorem ddl_parser_step.ok:SpecPOk PP 163 159 ⟨1,ddl_parser_step.si,ddl_parser_step.so,ddl_parser_step.F⟩:=fnP_stk cxddl_column (inlS_ok cxddl_column (inlS_ok cxddl_column (inlS_ok cxddl_column (inl0_ok _ _) (drawnOk cxddl_column mixed) ddl_parser_step.ins_ok) (drawnOk cxddl_column mixed) ddl_parser_step.ins_ok) (drawnOk cxddl_column mixed) ddl_parser_step.ins_ok) mixed ddl_parser_step.fn ddl_parser_step.h (by kernel_rfl) ddl_parser_step.ev
noncomputable def sqddl_parser_step:List (Nat×List (Nat×AK)×Lv.SpecP):=(163,[],⟨1,ddl_parser_step.si,ddl_parser_step.so,ddl_parser_step.F⟩)::sqddl_parser_columnOf
noncomputable abbrev cddl_parser_step:Cx:=⟨tabAt tab0,eqAt eqs0,specAt spddl_column,159,specPAt sqddl_parser_step⟩
theorem cxddl_parser_step:CxOk PP cddl_parser_step:=cxddl_column.consP [] ddl_parser_step.fn.enters ddl_parser_step.ok
def ddl_parser_expr.si:Sh:=⟨[(0,.v false [.ptr 0 0])],[(0,true,.box 162 [.sl 111 tTok])],[],1,[]⟩
def ddl_parser_expr.so:Sh:=⟨[(0,.v false [.ref 1001])],[(0,true,.box 162 [.sl 111 tTok]),(1001,false,.arr 78 tNode)],[],1002,[(0,0)]⟩
def ddl_parser_expr.h:H:=(.s none .n (.s none .n (.s none .n (.s none (.b (.l ⟨[(0,.v false [.ptr 1 0]),(3,.v false [.ref 0])],[(0,false,.arr 78 tNode),(1,true,.box 162 [.sl 111 tTok])],[],2,[]⟩ .n)) .n))))
noncomputable def ddl_parser_expr.B:(List tTokT)×Unit→Option (((List tTokT)×(List tNodeT)×Unit)⊕Int):=fun (o0,_)=>
 Option.bind (ddl_parser_take.F ([(⟨#[91]⟩:ByteArray)],o0,())) fun y1=>
 Option.bind (ddl_need.F (y1.1,())) fun zy2=>match zy2 with
 | .inl y2=>
 (loopM (S:=(List tNodeT)×(List tTokT)×Unit) (fun (o3_0,o0_0,_)=>
 Option.bind (ddl_parser_take.F ([(⟨#[93]⟩:ByteArray)],o0_0,())) fun y3=>
 (bif (!y3.1) then
 Option.bind (ddl_parser_step.F (y3.2.1,())) fun zy4=>match zy4 with
 | .inl y4=>
 (bif (Nat.ble (o3_0.length+ [(y4.1,(y4.2.1,(y4.2.2.1,(y4.2.2.2.1,y4.2.2.2.2.1))))].length) 2932031007402) then
 Option.bind (ddl_need.F ((decide (((o3_0++ [(y4.1,(y4.2.1,(y4.2.2.1,(y4.2.2.2.1,y4.2.2.2.2.1))))]).length:Int)≤(100:Int))),())) fun zy5=>match zy5 with
 | .inl y5=>
 (some (.inl ((o3_0++ [(y4.1,(y4.2.1,(y4.2.2.1,(y4.2.2.2.1,y4.2.2.2.2.1))))]),y4.2.2.2.2.2.1,())))
 | .inr n6=>some (.inr (.inr n6))
 else none)
 | .inr n7=>some (.inr (.inr n7))
 else
 some (.inr (.inl (y3.2.1,o3_0,()))))) ([],y1.2.1,()))
 | .inr n8=>some (.inr n8)
noncomputable def ddl_parser_expr.F:=stk ddl_parser_expr.B
theorem ddl_parser_expr.eq:ddl_parser_expr.F=ddl_parser_expr.B:=stk_eq _
theorem ddl_parser_expr.ev (x:TS ddl_parser_expr.si):evFP cddl_parser_step inl0 (Tryz.f139.body.getD .skip) Tryz.f139.results.toList ddl_parser_expr.h ddl_parser_expr.si ddl_parser_expr.so x=ddl_parser_expr.B x:=by kernel_rfl
theorem ddl_parser_expr.fn:FnOk PP 139 (Tryz.f139.body.getD .skip) Tryz.f139.results.toList Tryz.f139.ntmps:=fnOk_mk (by kernel_rfl) (by kernel_rfl) (by kernel_rfl) (by kernel_rfl)
theorem ddl_parser_expr.ok:SpecPOk PP 139 159 ⟨1,ddl_parser_expr.si,ddl_parser_expr.so,ddl_parser_expr.F⟩:=fnP_stk cxddl_parser_step (inl0_ok _ _) mixed ddl_parser_expr.fn ddl_parser_expr.h (by kernel_rfl) ddl_parser_expr.ev
noncomputable def sqddl_parser_expr:List (Nat×List (Nat×AK)×Lv.SpecP):=(139,[],⟨1,ddl_parser_expr.si,ddl_parser_expr.so,ddl_parser_expr.F⟩)::sqddl_parser_step
noncomputable abbrev cddl_parser_expr:Cx:=⟨tabAt tab0,eqAt eqs0,specAt spddl_column,159,specPAt sqddl_parser_expr⟩
theorem cxddl_parser_expr:CxOk PP cddl_parser_expr:=cxddl_parser_step.consP [] ddl_parser_expr.fn.enters ddl_parser_expr.ok
def ddl_parser_table.si:Sh:=⟨[(0,.v false [.ptr 0 0])],[(0,true,.box 162 [.sl 111 tTok])],[],1,[]⟩
def ddl_parser_table.so:Sh:=⟨[(0,.v true [.str,.ref 1001,.ref 1002])],[(0,true,.box 162 [.sl 111 tTok]),(1001,false,.arr 41 tColumn),(1002,false,.arr 32 (.sl 78 tNode))],[],1003,[(0,0)]⟩
def ddl_parser_table.h:H:=(.s none .n (.s none .n (.s none .n (.s none .n (.s none .n (.s (some ⟨[(3,.v false [.ptr 2 0])],[(0,true,.box 162 [.sl 111 tTok]),(1,true,.box 160 [.ptr 0 0]),(2,true,.box 29 [.str,.ref 3,.ref 4]),(3,false,.arr 41 tColumn),(4,false,.arr 32 (.sl 78 tNode))],[2],5,[(0,0),(1,1000)]⟩) (.b (.l ⟨[(1,.v false [.ptr 0 0]),(3,.v false [.ptr 2 0])],[(0,true,.box 160 [.ptr 1 0]),(1,true,.box 162 [.sl 111 tTok]),(2,true,.box 29 [.str,.ref 3,.ref 4]),(3,false,.arr 41 tColumn),(4,false,.arr 32 (.sl 78 tNode))],[2],5,[]⟩ (.s none .n (.b (.s (some ⟨[(1,.v false [.ptr 0 0]),(3,.v false [.ptr 2 0])],[(0,true,.box 160 [.ptr 1 0]),(1,true,.box 162 [.sl 111 tTok]),(2,true,.box 29 [.str,.ref 3,.ref 4]),(3,false,.arr 41 tColumn),(4,false,.arr 32 (.sl 78 tNode))],[2],5,[]⟩) .d .n))))) .n))))))
noncomputable def ddl_parser_table.B:(List tTokT)×Unit→Option ((ByteArray×(List tTokT)×(List tColumnT)×(List (List tNodeT))×Unit)⊕Int):=fun (o0,_)=>
 Option.bind (ddl_parser_name.F (o0,())) fun zy1=>match zy1 with
 | .inl y1=>
 (Option.bind (ddl_parser_take.F ([(⟨#[40]⟩:ByteArray)],y1.2.1,())) fun y2=>
 Option.bind (ddl_need.F (y2.1,())) fun zy3=>match zy3 with
 | .inl y3=>
 (Option.bind (
 agreeL [agreeL [agreeL [agreeL [Option.bind (ddl_parser_columnOf.F (y2.2.1,())) fun zy4=>match zy4 with
 | .inl y4=>
 (agreeL [agreeL [bif (Nat.ble [(y4.1,(y4.2.1,(y4.2.2.1,(y4.2.2.2.1,(y4.2.2.2.2.1,y4.2.2.2.2.2.1)))))].length 2513169434916) then
 agreeL [agreeL [some (.inl (y1.1,[(y4.1,(y4.2.1,(y4.2.2.1,(y4.2.2.2.1,(y4.2.2.2.2.1,y4.2.2.2.2.2.1)))))],[],y4.2.2.2.2.2.2.1,()))]]
 else none]])
 | .inr n5=>some (.inr (.inr n5))]],
 agreeL [agreeL [Option.bind (ddl_parser_columnOf.F (y2.2.1,())) fun zy4=>match zy4 with
 | .inl y4=>
 (agreeL [agreeL [bif (Nat.ble [(y4.1,(y4.2.1,(y4.2.2.1,(y4.2.2.2.1,(y4.2.2.2.2.1,y4.2.2.2.2.2.1)))))].length 2513169434916) then
 agreeL [agreeL [some (.inl (y1.1,[(y4.1,(y4.2.1,(y4.2.2.1,(y4.2.2.2.1,(y4.2.2.2.2.1,y4.2.2.2.2.2.1)))))],[],y4.2.2.2.2.2.2.1,()))]]
 else none]])
 | .inr n5=>some (.inr (.inr n5))],
 Option.bind (ddl_parser_columnOf.F (y2.2.1,())) fun zy4=>match zy4 with
 | .inl y4=>
 ((fun z=>agreeL [agreeL [agreeL [z]],agreeL [agreeL [z]]]) (bif (Nat.ble [(y4.1,(y4.2.1,(y4.2.2.1,(y4.2.2.2.1,(y4.2.2.2.2.1,y4.2.2.2.2.2.1)))))].length 2513169434916) then
 agreeL [agreeL [some (.inl (y1.1,[(y4.1,(y4.2.1,(y4.2.2.1,(y4.2.2.2.1,(y4.2.2.2.2.1,y4.2.2.2.2.2.1)))))],[],y4.2.2.2.2.2.2.1,()))]]
 else none))
 | .inr n5=>some (.inr (.inr n5))]],
 agreeL [agreeL [agreeL [Option.bind (ddl_parser_columnOf.F (y2.2.1,())) fun zy4=>match zy4 with
 | .inl y4=>
 (agreeL [agreeL [bif (Nat.ble [(y4.1,(y4.2.1,(y4.2.2.1,(y4.2.2.2.1,(y4.2.2.2.2.1,y4.2.2.2.2.2.1)))))].length 2513169434916) then
 agreeL [agreeL [some (.inl (y1.1,[(y4.1,(y4.2.1,(y4.2.2.1,(y4.2.2.2.1,(y4.2.2.2.2.1,y4.2.2.2.2.2.1)))))],[],y4.2.2.2.2.2.2.1,()))]]
 else none]])
 | .inr n5=>some (.inr (.inr n5))],
 Option.bind (ddl_parser_columnOf.F (y2.2.1,())) fun zy4=>match zy4 with
 | .inl y4=>
 ((fun z=>agreeL [agreeL [agreeL [z]],agreeL [agreeL [z]]]) (bif (Nat.ble [(y4.1,(y4.2.1,(y4.2.2.1,(y4.2.2.2.1,(y4.2.2.2.2.1,y4.2.2.2.2.2.1)))))].length 2513169434916) then
 agreeL [agreeL [some (.inl (y1.1,[(y4.1,(y4.2.1,(y4.2.2.1,(y4.2.2.2.1,(y4.2.2.2.2.1,y4.2.2.2.2.2.1)))))],[],y4.2.2.2.2.2.2.1,()))]]
 else none))
 | .inr n5=>some (.inr (.inr n5))],
 Option.bind (ddl_parser_columnOf.F (y2.2.1,())) fun zy4=>match zy4 with
 | .inl y4=>
 ((fun z=>agreeL [agreeL [agreeL [agreeL [z]],agreeL [agreeL [z]]],agreeL [agreeL [agreeL [z]]]]) (bif (Nat.ble [(y4.1,(y4.2.1,(y4.2.2.1,(y4.2.2.2.1,(y4.2.2.2.2.1,y4.2.2.2.2.2.1)))))].length 2513169434916) then
 agreeL [agreeL [some (.inl (y1.1,[(y4.1,(y4.2.1,(y4.2.2.1,(y4.2.2.2.1,(y4.2.2.2.2.1,y4.2.2.2.2.2.1)))))],[],y4.2.2.2.2.2.2.1,()))]]
 else none))
 | .inr n5=>some (.inr (.inr n5))]]:Option ((ByteArray×(List tColumnT)×(List (List tNodeT))×(List tTokT)×Unit)⊕_)) fun r6=>match r6 with
 | .inl (ok_1_0_0_6,ok_1_0_1_6,ok_1_0_2_6,o0_0_6,_)=>
 (loopM (S:=Int×ByteArray×(List tColumnT)×(List (List tNodeT))×(List tTokT)×Unit) (fun (x4,ok_1_0_0,ok_1_0_1,ok_1_0_2,o0_0,_)=>
 Option.bind (ddl_parser_take.F ([(⟨#[44]⟩:ByteArray)],o0_0,())) fun y7=>
 (bif y7.1 then
 let e8:Int:=(IntKind.i64.wrap (x4+(1:Int)))
 Option.bind (ddl_need.F ((decide (e8≤(40:Int))),())) fun zy9=>match zy9 with
 | .inl y9=>
 (agreeL [agreeL [agreeL [agreeL [Option.bind (ddl_parser_columnOf.F (y7.2.1,())) fun zy10=>match zy10 with
 | .inl y10=>
 (agreeL [agreeL [bif (Nat.ble (ok_1_0_1.length+ [(y10.1,(y10.2.1,(y10.2.2.1,(y10.2.2.2.1,(y10.2.2.2.2.1,y10.2.2.2.2.2.1)))))].length) 2513169434916) then
 agreeL [agreeL [some (.inl (e8,ok_1_0_0,(ok_1_0_1++ [(y10.1,(y10.2.1,(y10.2.2.1,(y10.2.2.2.1,(y10.2.2.2.2.1,y10.2.2.2.2.2.1)))))]),ok_1_0_2,y10.2.2.2.2.2.2.1,()))]]
 else none]])
 | .inr n11=>some (.inr (.inr n11))]],
 agreeL [agreeL [Option.bind (ddl_parser_columnOf.F (y7.2.1,())) fun zy10=>match zy10 with
 | .inl y10=>
 (agreeL [agreeL [bif (Nat.ble (ok_1_0_1.length+ [(y10.1,(y10.2.1,(y10.2.2.1,(y10.2.2.2.1,(y10.2.2.2.2.1,y10.2.2.2.2.2.1)))))].length) 2513169434916) then
 agreeL [agreeL [some (.inl (e8,ok_1_0_0,(ok_1_0_1++ [(y10.1,(y10.2.1,(y10.2.2.1,(y10.2.2.2.1,(y10.2.2.2.2.1,y10.2.2.2.2.2.1)))))]),ok_1_0_2,y10.2.2.2.2.2.2.1,()))]]
 else none]])
 | .inr n11=>some (.inr (.inr n11))],
 Option.bind (ddl_parser_columnOf.F (y7.2.1,())) fun zy10=>match zy10 with
 | .inl y10=>
 ((fun z=>agreeL [agreeL [agreeL [z]],agreeL [agreeL [z]]]) (bif (Nat.ble (ok_1_0_1.length+ [(y10.1,(y10.2.1,(y10.2.2.1,(y10.2.2.2.1,(y10.2.2.2.2.1,y10.2.2.2.2.2.1)))))].length) 2513169434916) then
 agreeL [agreeL [some (.inl (e8,ok_1_0_0,(ok_1_0_1++ [(y10.1,(y10.2.1,(y10.2.2.1,(y10.2.2.2.1,(y10.2.2.2.2.1,y10.2.2.2.2.2.1)))))]),ok_1_0_2,y10.2.2.2.2.2.2.1,()))]]
 else none))
 | .inr n11=>some (.inr (.inr n11))]],
 agreeL [agreeL [agreeL [Option.bind (ddl_parser_columnOf.F (y7.2.1,())) fun zy10=>match zy10 with
 | .inl y10=>
 (agreeL [agreeL [bif (Nat.ble (ok_1_0_1.length+ [(y10.1,(y10.2.1,(y10.2.2.1,(y10.2.2.2.1,(y10.2.2.2.2.1,y10.2.2.2.2.2.1)))))].length) 2513169434916) then
 agreeL [agreeL [some (.inl (e8,ok_1_0_0,(ok_1_0_1++ [(y10.1,(y10.2.1,(y10.2.2.1,(y10.2.2.2.1,(y10.2.2.2.2.1,y10.2.2.2.2.2.1)))))]),ok_1_0_2,y10.2.2.2.2.2.2.1,()))]]
 else none]])
 | .inr n11=>some (.inr (.inr n11))],
 Option.bind (ddl_parser_columnOf.F (y7.2.1,())) fun zy10=>match zy10 with
 | .inl y10=>
 ((fun z=>agreeL [agreeL [agreeL [z]],agreeL [agreeL [z]]]) (bif (Nat.ble (ok_1_0_1.length+ [(y10.1,(y10.2.1,(y10.2.2.1,(y10.2.2.2.1,(y10.2.2.2.2.1,y10.2.2.2.2.2.1)))))].length) 2513169434916) then
 agreeL [agreeL [some (.inl (e8,ok_1_0_0,(ok_1_0_1++ [(y10.1,(y10.2.1,(y10.2.2.1,(y10.2.2.2.1,(y10.2.2.2.2.1,y10.2.2.2.2.2.1)))))]),ok_1_0_2,y10.2.2.2.2.2.2.1,()))]]
 else none))
 | .inr n11=>some (.inr (.inr n11))],
 Option.bind (ddl_parser_columnOf.F (y7.2.1,())) fun zy10=>match zy10 with
 | .inl y10=>
 ((fun z=>agreeL [agreeL [agreeL [agreeL [z]],agreeL [agreeL [z]]],agreeL [agreeL [agreeL [z]]]]) (bif (Nat.ble (ok_1_0_1.length+ [(y10.1,(y10.2.1,(y10.2.2.1,(y10.2.2.2.1,(y10.2.2.2.2.1,y10.2.2.2.2.2.1)))))].length) 2513169434916) then
 agreeL [agreeL [some (.inl (e8,ok_1_0_0,(ok_1_0_1++ [(y10.1,(y10.2.1,(y10.2.2.1,(y10.2.2.2.1,(y10.2.2.2.2.1,y10.2.2.2.2.2.1)))))]),ok_1_0_2,y10.2.2.2.2.2.2.1,()))]]
 else none))
 | .inr n11=>some (.inr (.inr n11))]])
 | .inr n12=>some (.inr (.inr n12))
 else
 Option.map Sum.inr (Option.bind (ddl_parser_take.F ([(⟨#[41]⟩:ByteArray)],y7.2.1,())) fun y13=>
 Option.bind (ddl_need.F (y13.1,())) fun zy14=>match zy14 with
 | .inl y14=>
 (Option.bind (
 loopM (S:=(List tTokT)×ByteArray×(List tColumnT)×(List (List tNodeT))×Unit) (fun (o1_0_0,o3_0_0,o3_0_1,o3_0_2,_)=>
 Option.bind (ddl_parser_take.F ([(⟨#[99,104,101,99,107]⟩:ByteArray)],o1_0_0,())) fun y15=>
 (bif y15.1 then
 Option.bind (
 agreeL [agreeL [agreeL [agreeL [Option.bind (ddl_parser_expr.F (y15.2.1,())) fun zy16=>match zy16 with
 | .inl y16=>
 (agreeL [agreeL [bif (Nat.ble (o3_0_2.length+ [y16.2.1].length) 5864062014805) then
 agreeL [agreeL [some (.inl (y16.1,o3_0_0,o3_0_1,(o3_0_2++ [y16.2.1]),()))]]
 else none]])
 | .inr n17=>some (.inr (.inr (.inr (.inr n17))))]],
 agreeL [agreeL [Option.bind (ddl_parser_expr.F (y15.2.1,())) fun zy16=>match zy16 with
 | .inl y16=>
 (agreeL [agreeL [bif (Nat.ble (o3_0_2.length+ [y16.2.1].length) 5864062014805) then
 agreeL [agreeL [some (.inl (y16.1,o3_0_0,o3_0_1,(o3_0_2++ [y16.2.1]),()))]]
 else none]])
 | .inr n17=>some (.inr (.inr (.inr (.inr n17))))],
 Option.bind (ddl_parser_expr.F (y15.2.1,())) fun zy16=>match zy16 with
 | .inl y16=>
 ((fun z=>agreeL [agreeL [agreeL [z]],agreeL [agreeL [z]]]) (bif (Nat.ble (o3_0_2.length+ [y16.2.1].length) 5864062014805) then
 agreeL [agreeL [some (.inl (y16.1,o3_0_0,o3_0_1,(o3_0_2++ [y16.2.1]),()))]]
 else none))
 | .inr n17=>some (.inr (.inr (.inr (.inr n17))))]],
 agreeL [agreeL [agreeL [Option.bind (ddl_parser_expr.F (y15.2.1,())) fun zy16=>match zy16 with
 | .inl y16=>
 (agreeL [agreeL [bif (Nat.ble (o3_0_2.length+ [y16.2.1].length) 5864062014805) then
 agreeL [agreeL [some (.inl (y16.1,o3_0_0,o3_0_1,(o3_0_2++ [y16.2.1]),()))]]
 else none]])
 | .inr n17=>some (.inr (.inr (.inr (.inr n17))))],
 Option.bind (ddl_parser_expr.F (y15.2.1,())) fun zy16=>match zy16 with
 | .inl y16=>
 ((fun z=>agreeL [agreeL [agreeL [z]],agreeL [agreeL [z]]]) (bif (Nat.ble (o3_0_2.length+ [y16.2.1].length) 5864062014805) then
 agreeL [agreeL [some (.inl (y16.1,o3_0_0,o3_0_1,(o3_0_2++ [y16.2.1]),()))]]
 else none))
 | .inr n17=>some (.inr (.inr (.inr (.inr n17))))],
 Option.bind (ddl_parser_expr.F (y15.2.1,())) fun zy16=>match zy16 with
 | .inl y16=>
 ((fun z=>agreeL [agreeL [agreeL [agreeL [z]],agreeL [agreeL [z]]],agreeL [agreeL [agreeL [z]]]]) (bif (Nat.ble (o3_0_2.length+ [y16.2.1].length) 5864062014805) then
 agreeL [agreeL [some (.inl (y16.1,o3_0_0,o3_0_1,(o3_0_2++ [y16.2.1]),()))]]
 else none))
 | .inr n17=>some (.inr (.inr (.inr (.inr n17))))]]:Option (((List tTokT)×ByteArray×(List tColumnT)×(List (List tNodeT))×Unit)⊕_)) fun r18=>match r18 with
 | .inl (o1_0_0_18,o3_0_0_18,o3_0_1_18,o3_0_2_18,_)=>
 (Option.bind (ddl_need.F ((decide ((o3_0_2_18.length:Int)≤(40:Int))),())) fun zy19=>match zy19 with
 | .inl y19=>
 (some (.inl (o1_0_0_18,o3_0_0_18,o3_0_1_18,o3_0_2_18,())))
 | .inr n20=>some (.inr (.inr (.inr n20))))
 | .inr r=>some r
 else
 some (.inr (.inl (y15.2.1,o3_0_0,o3_0_1,o3_0_2,()))))) (y13.2.1,ok_1_0_0,ok_1_0_1,ok_1_0_2,()):Option (((List tTokT)×ByteArray×(List tColumnT)×(List (List tNodeT))×Unit)⊕_)) fun r21=>match r21 with
 | .inl (oin_0_21,o3_0_0_21,o3_0_1_21,o3_0_2_21,_)=>
 (some (.inl (o3_0_0_21,oin_0_21,o3_0_1_21,o3_0_2_21,())))
 | .inr r=>some r)
 | .inr n22=>some (.inr n22)))) ((1:Int),ok_1_0_0_6,ok_1_0_1_6,ok_1_0_2_6,o0_0_6,()))
 | .inr r=>some r)
 | .inr n23=>some (.inr n23))
 | .inr n24=>some (.inr n24)
noncomputable def ddl_parser_table.F:=stk ddl_parser_table.B
theorem ddl_parser_table.eq:ddl_parser_table.F=ddl_parser_table.B:=stk_eq _
noncomputable def ddl_parser_table.ins:Nat→List (Option Slot)→Heap→Option (Code×List ResultVar×H):=fun g xs hp=>bif Nat.beq g 136&&cloK xs hp 1 137 then some (Tryz.f136.body.getD .skip,Tryz.f136.results.toList,(.s none .n (.s (some ⟨[(0,.v false [.ptr 3 0])],[(0,true,.box 29 [.str,.ref 1,.ref 2]),(1,false,.arr 41 tColumn),(2,false,.arr 32 (.sl 78 tNode)),(3,true,.box 162 [.sl 111 tTok])],[1,4],4,[(0,1003)]⟩) .n (.b (.l ⟨[(0,.v false [.ptr 3 0]),(4,.v false [.int .i64])],[(0,true,.box 29 [.str,.ref 1,.ref 2]),(1,false,.arr 41 tColumn),(2,false,.arr 32 (.sl 78 tNode)),(3,true,.box 162 [.sl 111 tTok])],[1],4,[(0,1003)]⟩ .n))))) else bif Nat.beq g 137 then some (Tryz.f137.body.getD .skip,Tryz.f137.results.toList,.d) else none
theorem ddl_parser_table.ins_ok:∀n xs hp code res h,ddl_parser_table.ins n xs hp=some (code,res,h)→∃nt,FnOk PP n code res nt:=by
 intro n xs hp code res h e
 unfold ddl_parser_table.ins at e
 cases e0:(Nat.beq n 136&&cloK xs hp 1 137) with
 |true=>rw [e0] at e;cases e;rw [Nat.eq_of_beq_eq_true (Bool.and_eq_true_iff.1 e0).1];exact ⟨_,fnOk_mk (by kernel_rfl) (by kernel_rfl) (by kernel_rfl) (by kernel_rfl)⟩
 |false=>
 rw [e0] at e
 cases e1:(Nat.beq n 137) with
 |true=>rw [e1] at e;cases e;rw [Nat.eq_of_beq_eq_true e1];exact ⟨_,fnOk_mk (by kernel_rfl) (by kernel_rfl) (by kernel_rfl) (by kernel_rfl)⟩
 |false=>
 rw [e1] at e
 cases e
theorem ddl_parser_table.ev (x:TS ddl_parser_table.si):evFP cddl_parser_expr (inlS cddl_parser_expr ddl_parser_table.ins (inlS cddl_parser_expr ddl_parser_table.ins (inlS cddl_parser_expr ddl_parser_table.ins inl0))) (Tryz.f110.body.getD .skip) Tryz.f110.results.toList ddl_parser_table.h ddl_parser_table.si ddl_parser_table.so x=ddl_parser_table.B x:=by kernel_rfl
theorem ddl_parser_table.fn:FnOk PP 110 (Tryz.f110.body.getD .skip) Tryz.f110.results.toList Tryz.f110.ntmps:=fnOk_mk (by kernel_rfl) (by kernel_rfl) (by kernel_rfl) (by kernel_rfl)
theorem ddl_parser_table.ok:SpecPOk PP 110 159 ⟨1,ddl_parser_table.si,ddl_parser_table.so,ddl_parser_table.F⟩:=fnP_stk cxddl_parser_expr (inlS_ok cxddl_parser_expr (inlS_ok cxddl_parser_expr (inlS_ok cxddl_parser_expr (inl0_ok _ _) (drawnOk cxddl_parser_expr mixed) ddl_parser_table.ins_ok) (drawnOk cxddl_parser_expr mixed) ddl_parser_table.ins_ok) (drawnOk cxddl_parser_expr mixed) ddl_parser_table.ins_ok) mixed ddl_parser_table.fn ddl_parser_table.h (by kernel_rfl) ddl_parser_table.ev
noncomputable def sqddl_parser_table:List (Nat×List (Nat×AK)×Lv.SpecP):=(110,[],⟨1,ddl_parser_table.si,ddl_parser_table.so,ddl_parser_table.F⟩)::sqddl_parser_expr
noncomputable abbrev cddl_parser_table:Cx:=⟨tabAt tab0,eqAt eqs0,specAt spddl_column,159,specPAt sqddl_parser_table⟩
theorem cxddl_parser_table:CxOk PP cddl_parser_table:=cxddl_parser_expr.consP [] ddl_parser_table.fn.enters ddl_parser_table.ok
def ddl_parser_col.si:Sh:=⟨[(0,.v false [.ptr 0 0])],[(0,true,.box 162 [.sl 111 tTok])],[],1,[]⟩
def ddl_parser_col.so:Sh:=⟨[(0,.v false [.int .i64])],[(0,true,.box 162 [.sl 111 tTok])],[],1001,[(0,0)]⟩
def ddl_parser_col.h:H:=(.s none .n (.s none .n (.s (some ⟨[],[],[3],0,[]⟩) .n .n)))
noncomputable def ddl_parser_col.B:(List tTokT)×Unit→Option ((Int×(List tTokT)×Unit)⊕Int):=fun (o0,_)=>
 Option.bind (ddl_parser_next.F (o0,())) fun zy1=>match zy1 with
 | .inl y1=>
 (Option.bind (
 (bif (y1.1==(1:Int)) then
 (bif (y1.2.2.1==(2:Int)) then
 (bif (decide (y1.2.2.2.1≥(0:Int))) then
 Option.bind (ddl_need.F ((decide (y1.2.2.2.1≤(99:Int))),())) fun zy2=>match zy2 with
 | .inl y2=>
 (some (.inl (())))
 | .inr n3=>some (.inr (.inr n3))
 else
 Option.bind (ddl_need.F (false,())) fun zy4=>match zy4 with
 | .inl y4=>
 (some (.inl (())))
 | .inr n5=>some (.inr (.inr n5)))
 else
 Option.bind (ddl_need.F (false,())) fun zy6=>match zy6 with
 | .inl y6=>
 (some (.inl (())))
 | .inr n7=>some (.inr (.inr n7)))
 else
 Option.bind (ddl_need.F (false,())) fun zy8=>match zy8 with
 | .inl y8=>
 (some (.inl (())))
 | .inr n9=>some (.inr (.inr n9))):Option ((Unit)⊕_)) fun r10=>match r10 with
 | .inl (_)=>
 (some (.inl (y1.2.2.2.1,y1.2.2.2.2.2.1,())))
 | .inr r=>some r)
 | .inr n11=>some (.inr n11)
noncomputable def ddl_parser_col.F:=stk ddl_parser_col.B
theorem ddl_parser_col.eq:ddl_parser_col.F=ddl_parser_col.B:=stk_eq _
theorem ddl_parser_col.ev (x:TS ddl_parser_col.si):evFP cddl_parser_table inl0 (Tryz.f140.body.getD .skip) Tryz.f140.results.toList ddl_parser_col.h ddl_parser_col.si ddl_parser_col.so x=ddl_parser_col.B x:=by kernel_rfl
theorem ddl_parser_col.fn:FnOk PP 140 (Tryz.f140.body.getD .skip) Tryz.f140.results.toList Tryz.f140.ntmps:=fnOk_mk (by kernel_rfl) (by kernel_rfl) (by kernel_rfl) (by kernel_rfl)
theorem ddl_parser_col.ok:SpecPOk PP 140 159 ⟨1,ddl_parser_col.si,ddl_parser_col.so,ddl_parser_col.F⟩:=fnP_stk cxddl_parser_table (inl0_ok _ _) mixed ddl_parser_col.fn ddl_parser_col.h (by kernel_rfl) ddl_parser_col.ev
noncomputable def sqddl_parser_col:List (Nat×List (Nat×AK)×Lv.SpecP):=(140,[],⟨1,ddl_parser_col.si,ddl_parser_col.so,ddl_parser_col.F⟩)::sqddl_parser_table
noncomputable abbrev cddl_parser_col:Cx:=⟨tabAt tab0,eqAt eqs0,specAt spddl_column,159,specPAt sqddl_parser_col⟩
theorem cxddl_parser_col:CxOk PP cddl_parser_col:=cxddl_parser_table.consP [] ddl_parser_col.fn.enters ddl_parser_col.ok
def ddl_parser_view.si:Sh:=⟨[(0,.v false [.ptr 0 0])],[(0,true,.box 162 [.sl 111 tTok])],[],1,[]⟩
def ddl_parser_view.so:Sh:=⟨[(0,.v true [.str,.str,.str,.int .i64,.int .i64,.ref 1001,.ref 1002,.bool,.ref 1003])],[(0,true,.box 162 [.sl 111 tTok]),(1001,false,.arr 78 tNode),(1002,false,.arr 3 (.int .i64)),(1003,false,.arr 66 tAgg)],[],1004,[(0,0)]⟩
def ddl_parser_view.h:H:=(.s none .n (.s none .n (.s none .n (.s none .n (.s (some ⟨[(1,.v false [.ptr 0 0]),(3,.v false [.ptr 2 0])],[(0,true,.box 160 [.ptr 1 0]),(1,true,.box 162 [.sl 111 tTok]),(2,true,.box 36 [.str,.str,.str,.int .i64,.int .i64,.ref 3,.ref 4,.bool,.ref 5]),(3,false,.arr 78 tNode),(4,false,.arr 3 (.int .i64)),(5,false,.arr 66 tAgg)],[2],6,[]⟩) .n (.s (some ⟨[(1,.v false [.ptr 0 0]),(3,.v false [.ptr 2 0])],[(0,true,.box 160 [.ptr 1 0]),(1,true,.box 162 [.sl 111 tTok]),(2,true,.box 36 [.str,.str,.str,.int .i64,.int .i64,.ref 3,.ref 4,.bool,.ref 5]),(3,false,.arr 78 tNode),(4,false,.arr 3 (.int .i64)),(5,false,.arr 66 tAgg)],[2],6,[]⟩) .n (.s none .n (.s (some ⟨[(1,.v false [.ptr 0 0]),(3,.v false [.ptr 2 0])],[(0,true,.box 160 [.ptr 1 0]),(1,true,.box 162 [.sl 111 tTok]),(2,true,.box 36 [.str,.str,.str,.int .i64,.int .i64,.ref 3,.ref 4,.bool,.ref 5]),(3,false,.arr 78 tNode),(4,false,.arr 3 (.int .i64)),(5,false,.arr 66 tAgg)],[2],6,[]⟩) .n .n))))))))
noncomputable def ddl_parser_view.B:(List tTokT)×Unit→Option ((ByteArray×ByteArray×ByteArray×Int×Int×Bool×(List tTokT)×(List tNodeT)×(List Int)×(List tAggT)×Unit)⊕Int):=fun (o0,_)=>
 Option.bind (ddl_parser_name.F (o0,())) fun zy1=>match zy1 with
 | .inl y1=>
 (Option.bind (ddl_parser_take.F ([(⟨#[102,114,111,109]⟩:ByteArray)],y1.2.1,())) fun y2=>
 Option.bind (ddl_need.F (y2.1,())) fun zy3=>match zy3 with
 | .inl y3=>
 (Option.bind (ddl_parser_name.F (y2.2.1,())) fun zy4=>match zy4 with
 | .inl y4=>
 (Option.bind (
 Option.bind (ddl_parser_take.F ([(⟨#[106,111,105,110]⟩:ByteArray)],y4.2.1,())) fun y5=>
 (bif y5.1 then
 Option.bind (ddl_parser_name.F (y5.2.1,())) fun zy6=>match zy6 with
 | .inl y6=>
 (Option.bind (ddl_parser_take.F ([(⟨#[111,110]⟩:ByteArray)],y6.2.1,())) fun y7=>
 Option.bind (ddl_need.F (y7.1,())) fun zy8=>match zy8 with
 | .inl y8=>
 (Option.bind (ddl_parser_col.F (y7.2.1,())) fun zy9=>match zy9 with
 | .inl y9=>
 (bif (decide (0≤(0:Int))&&decide ((0:Int)<(2:Int))) then
 Option.bind (ddl_parser_take.F ([(⟨#[61]⟩:ByteArray)],y9.2.1,())) fun y10=>
 Option.bind (ddl_need.F (y10.1,())) fun zy11=>match zy11 with
 | .inl y11=>
 (Option.bind (ddl_parser_col.F (y10.2.1,())) fun zy12=>match zy12 with
 | .inl y12=>
 (bif (decide (0≤(1:Int))&&decide ((1:Int)<(2:Int))) then
 some (.inl (y12.2.1,y1.1,y4.1,y6.1,y9.1,y12.1,false,[],[],[],()))
 else none)
 | .inr n13=>some (.inr (.inr n13)))
 | .inr n14=>some (.inr (.inr n14))
 else none)
 | .inr n15=>some (.inr (.inr n15)))
 | .inr n16=>some (.inr (.inr n16)))
 | .inr n17=>some (.inr (.inr n17))
 else
 some (.inl (y5.2.1,y1.1,y4.1,(⟨#[]⟩:ByteArray),(0:Int),(0:Int),false,[],[],[],()))):Option (((List tTokT)×ByteArray×ByteArray×ByteArray×Int×Int×Bool×(List tNodeT)×(List Int)×(List tAggT)×Unit)⊕_)) fun r18=>match r18 with
 | .inl (o1_0_0_18,o3_0_0_18,o3_0_1_18,o3_0_2_18,o3_0_3_18,o3_0_4_18,o3_0_7_18,o3_0_5_18,o3_0_6_18,o3_0_8_18,_)=>
 (Option.bind (
 Option.bind (ddl_parser_take.F ([(⟨#[119,104,101,114,101]⟩:ByteArray)],o1_0_0_18,())) fun y19=>
 (bif y19.1 then
 Option.bind (ddl_parser_expr.F (y19.2.1,())) fun zy20=>match zy20 with
 | .inl y20=>
 (some (.inl (y20.1,o3_0_0_18,o3_0_1_18,o3_0_2_18,o3_0_3_18,o3_0_4_18,o3_0_7_18,y20.2.1,o3_0_6_18,o3_0_8_18,())))
 | .inr n21=>some (.inr (.inr n21))
 else
 some (.inl (y19.2.1,o3_0_0_18,o3_0_1_18,o3_0_2_18,o3_0_3_18,o3_0_4_18,o3_0_7_18,o3_0_5_18,o3_0_6_18,o3_0_8_18,()))):Option (((List tTokT)×ByteArray×ByteArray×ByteArray×Int×Int×Bool×(List tNodeT)×(List Int)×(List tAggT)×Unit)⊕_)) fun r22=>match r22 with
 | .inl (o1_0_0_22,o3_0_0_22,o3_0_1_22,o3_0_2_22,o3_0_3_22,o3_0_4_22,o3_0_7_22,o3_0_5_22,o3_0_6_22,o3_0_8_22,_)=>
 (Option.bind (ddl_parser_take.F ([(⟨#[112,105,99,107]⟩:ByteArray)],o1_0_0_22,())) fun y23=>
 Option.bind (ddl_need.F (y23.1,())) fun zy24=>match zy24 with
 | .inl y24=>
 (Option.bind (
 (bif (decide ((y23.2.1.length:Int)>(0:Int))) then
 Option.bind (ddl_parser_is.F ([(⟨#[103,114,111,117,112]⟩:ByteArray)],y23.2.1,())) fun y25=>
 (bif (!y25.1) then
 Option.bind (
 agreeL [agreeL [agreeL [agreeL [Option.bind (ddl_parser_col.F (y25.2.1,())) fun zy26=>match zy26 with
 | .inl y26=>
 (agreeL [agreeL [bif (Nat.ble (o3_0_6_22.length+ [y26.1].length) 17592186044416) then
 agreeL [agreeL [some (.inl (o3_0_0_22,o3_0_1_22,o3_0_2_22,o3_0_3_22,o3_0_4_22,o3_0_7_22,o3_0_5_22,(o3_0_6_22++ [y26.1]),o3_0_8_22,y26.2.1,()))]]
 else none]])
 | .inr n27=>some (.inr (.inr (.inr n27)))]],
 agreeL [agreeL [Option.bind (ddl_parser_col.F (y25.2.1,())) fun zy26=>match zy26 with
 | .inl y26=>
 (agreeL [agreeL [bif (Nat.ble (o3_0_6_22.length+ [y26.1].length) 17592186044416) then
 agreeL [agreeL [some (.inl (o3_0_0_22,o3_0_1_22,o3_0_2_22,o3_0_3_22,o3_0_4_22,o3_0_7_22,o3_0_5_22,(o3_0_6_22++ [y26.1]),o3_0_8_22,y26.2.1,()))]]
 else none]])
 | .inr n27=>some (.inr (.inr (.inr n27)))],
 Option.bind (ddl_parser_col.F (y25.2.1,())) fun zy26=>match zy26 with
 | .inl y26=>
 ((fun z=>agreeL [agreeL [agreeL [z]],agreeL [agreeL [z]]]) (bif (Nat.ble (o3_0_6_22.length+ [y26.1].length) 17592186044416) then
 agreeL [agreeL [some (.inl (o3_0_0_22,o3_0_1_22,o3_0_2_22,o3_0_3_22,o3_0_4_22,o3_0_7_22,o3_0_5_22,(o3_0_6_22++ [y26.1]),o3_0_8_22,y26.2.1,()))]]
 else none))
 | .inr n27=>some (.inr (.inr (.inr n27)))]],
 agreeL [agreeL [agreeL [Option.bind (ddl_parser_col.F (y25.2.1,())) fun zy26=>match zy26 with
 | .inl y26=>
 (agreeL [agreeL [bif (Nat.ble (o3_0_6_22.length+ [y26.1].length) 17592186044416) then
 agreeL [agreeL [some (.inl (o3_0_0_22,o3_0_1_22,o3_0_2_22,o3_0_3_22,o3_0_4_22,o3_0_7_22,o3_0_5_22,(o3_0_6_22++ [y26.1]),o3_0_8_22,y26.2.1,()))]]
 else none]])
 | .inr n27=>some (.inr (.inr (.inr n27)))],
 Option.bind (ddl_parser_col.F (y25.2.1,())) fun zy26=>match zy26 with
 | .inl y26=>
 ((fun z=>agreeL [agreeL [agreeL [z]],agreeL [agreeL [z]]]) (bif (Nat.ble (o3_0_6_22.length+ [y26.1].length) 17592186044416) then
 agreeL [agreeL [some (.inl (o3_0_0_22,o3_0_1_22,o3_0_2_22,o3_0_3_22,o3_0_4_22,o3_0_7_22,o3_0_5_22,(o3_0_6_22++ [y26.1]),o3_0_8_22,y26.2.1,()))]]
 else none))
 | .inr n27=>some (.inr (.inr (.inr n27)))],
 Option.bind (ddl_parser_col.F (y25.2.1,())) fun zy26=>match zy26 with
 | .inl y26=>
 ((fun z=>agreeL [agreeL [agreeL [agreeL [z]],agreeL [agreeL [z]]],agreeL [agreeL [agreeL [z]]]]) (bif (Nat.ble (o3_0_6_22.length+ [y26.1].length) 17592186044416) then
 agreeL [agreeL [some (.inl (o3_0_0_22,o3_0_1_22,o3_0_2_22,o3_0_3_22,o3_0_4_22,o3_0_7_22,o3_0_5_22,(o3_0_6_22++ [y26.1]),o3_0_8_22,y26.2.1,()))]]
 else none))
 | .inr n27=>some (.inr (.inr (.inr n27)))]]:Option ((ByteArray×ByteArray×ByteArray×Int×Int×Bool×(List tNodeT)×(List Int)×(List tAggT)×(List tTokT)×Unit)⊕_)) fun r28=>match r28 with
 | .inl (ok_1_0_0_28,ok_1_0_1_28,ok_1_0_2_28,ok_1_0_3_28,ok_1_0_4_28,ok_1_0_7_28,ok_1_0_5_28,ok_1_0_6_28,ok_1_0_8_28,o0_0_28,_)=>
 (loopM (S:=Int×ByteArray×ByteArray×ByteArray×Int×Int×Bool×(List tNodeT)×(List Int)×(List tAggT)×(List tTokT)×Unit) (fun (x4,ok_1_0_0,ok_1_0_1,ok_1_0_2,ok_1_0_3,ok_1_0_4,ok_1_0_7,ok_1_0_5,ok_1_0_6,ok_1_0_8,o0_0,_)=>
 Option.bind (ddl_parser_take.F ([(⟨#[44]⟩:ByteArray)],o0_0,())) fun y29=>
 (bif y29.1 then
 let e30:Int:=(IntKind.i64.wrap (x4+(1:Int)))
 Option.bind (ddl_need.F ((decide (e30≤(40:Int))),())) fun zy31=>match zy31 with
 | .inl y31=>
 (agreeL [agreeL [agreeL [agreeL [Option.bind (ddl_parser_col.F (y29.2.1,())) fun zy32=>match zy32 with
 | .inl y32=>
 (agreeL [agreeL [bif (Nat.ble (ok_1_0_6.length+ [y32.1].length) 17592186044416) then
 agreeL [agreeL [some (.inl (e30,ok_1_0_0,ok_1_0_1,ok_1_0_2,ok_1_0_3,ok_1_0_4,ok_1_0_7,ok_1_0_5,(ok_1_0_6++ [y32.1]),ok_1_0_8,y32.2.1,()))]]
 else none]])
 | .inr n33=>some (.inr (.inr (.inr n33)))]],
 agreeL [agreeL [Option.bind (ddl_parser_col.F (y29.2.1,())) fun zy32=>match zy32 with
 | .inl y32=>
 (agreeL [agreeL [bif (Nat.ble (ok_1_0_6.length+ [y32.1].length) 17592186044416) then
 agreeL [agreeL [some (.inl (e30,ok_1_0_0,ok_1_0_1,ok_1_0_2,ok_1_0_3,ok_1_0_4,ok_1_0_7,ok_1_0_5,(ok_1_0_6++ [y32.1]),ok_1_0_8,y32.2.1,()))]]
 else none]])
 | .inr n33=>some (.inr (.inr (.inr n33)))],
 Option.bind (ddl_parser_col.F (y29.2.1,())) fun zy32=>match zy32 with
 | .inl y32=>
 ((fun z=>agreeL [agreeL [agreeL [z]],agreeL [agreeL [z]]]) (bif (Nat.ble (ok_1_0_6.length+ [y32.1].length) 17592186044416) then
 agreeL [agreeL [some (.inl (e30,ok_1_0_0,ok_1_0_1,ok_1_0_2,ok_1_0_3,ok_1_0_4,ok_1_0_7,ok_1_0_5,(ok_1_0_6++ [y32.1]),ok_1_0_8,y32.2.1,()))]]
 else none))
 | .inr n33=>some (.inr (.inr (.inr n33)))]],
 agreeL [agreeL [agreeL [Option.bind (ddl_parser_col.F (y29.2.1,())) fun zy32=>match zy32 with
 | .inl y32=>
 (agreeL [agreeL [bif (Nat.ble (ok_1_0_6.length+ [y32.1].length) 17592186044416) then
 agreeL [agreeL [some (.inl (e30,ok_1_0_0,ok_1_0_1,ok_1_0_2,ok_1_0_3,ok_1_0_4,ok_1_0_7,ok_1_0_5,(ok_1_0_6++ [y32.1]),ok_1_0_8,y32.2.1,()))]]
 else none]])
 | .inr n33=>some (.inr (.inr (.inr n33)))],
 Option.bind (ddl_parser_col.F (y29.2.1,())) fun zy32=>match zy32 with
 | .inl y32=>
 ((fun z=>agreeL [agreeL [agreeL [z]],agreeL [agreeL [z]]]) (bif (Nat.ble (ok_1_0_6.length+ [y32.1].length) 17592186044416) then
 agreeL [agreeL [some (.inl (e30,ok_1_0_0,ok_1_0_1,ok_1_0_2,ok_1_0_3,ok_1_0_4,ok_1_0_7,ok_1_0_5,(ok_1_0_6++ [y32.1]),ok_1_0_8,y32.2.1,()))]]
 else none))
 | .inr n33=>some (.inr (.inr (.inr n33)))],
 Option.bind (ddl_parser_col.F (y29.2.1,())) fun zy32=>match zy32 with
 | .inl y32=>
 ((fun z=>agreeL [agreeL [agreeL [agreeL [z]],agreeL [agreeL [z]]],agreeL [agreeL [agreeL [z]]]]) (bif (Nat.ble (ok_1_0_6.length+ [y32.1].length) 17592186044416) then
 agreeL [agreeL [some (.inl (e30,ok_1_0_0,ok_1_0_1,ok_1_0_2,ok_1_0_3,ok_1_0_4,ok_1_0_7,ok_1_0_5,(ok_1_0_6++ [y32.1]),ok_1_0_8,y32.2.1,()))]]
 else none))
 | .inr n33=>some (.inr (.inr (.inr n33)))]])
 | .inr n34=>some (.inr (.inr (.inr n34)))
 else
 some (.inr (.inl (y29.2.1,ok_1_0_0,ok_1_0_1,ok_1_0_2,ok_1_0_3,ok_1_0_4,ok_1_0_7,ok_1_0_5,ok_1_0_6,ok_1_0_8,()))))) ((1:Int),ok_1_0_0_28,ok_1_0_1_28,ok_1_0_2_28,ok_1_0_3_28,ok_1_0_4_28,ok_1_0_7_28,ok_1_0_5_28,ok_1_0_6_28,ok_1_0_8_28,o0_0_28,()))
 | .inr r=>some r
 else
 some (.inl (y25.2.1,o3_0_0_22,o3_0_1_22,o3_0_2_22,o3_0_3_22,o3_0_4_22,o3_0_7_22,o3_0_5_22,o3_0_6_22,o3_0_8_22,())))
 else
 some (.inl (y23.2.1,o3_0_0_22,o3_0_1_22,o3_0_2_22,o3_0_3_22,o3_0_4_22,o3_0_7_22,o3_0_5_22,o3_0_6_22,o3_0_8_22,()))):Option (((List tTokT)×ByteArray×ByteArray×ByteArray×Int×Int×Bool×(List tNodeT)×(List Int)×(List tAggT)×Unit)⊕_)) fun r35=>match r35 with
 | .inl (o1_0_0_35,o3_0_0_35,o3_0_1_35,o3_0_2_35,o3_0_3_35,o3_0_4_35,o3_0_7_35,o3_0_5_35,o3_0_6_35,o3_0_8_35,_)=>
 (Option.bind (ddl_parser_take.F ([(⟨#[103,114,111,117,112]⟩:ByteArray)],o1_0_0_35,())) fun y36=>
 (bif y36.1 then
 (bif (decide ((y36.2.1.length:Int)>(0:Int))) then
 Option.bind (
 Option.bind (ddl_parser_one.F ([(⟨#[99,111,117,110,116]⟩:ByteArray),(⟨#[115,117,109]⟩:ByteArray),(⟨#[109,105,110]⟩:ByteArray),(⟨#[109,97,120]⟩:ByteArray)],y36.2.1,())) fun zy37=>match zy37 with
 | .inl y37=>
 ((bif (y37.1 !=(0:Int)) then
 Option.bind (ddl_parser_col.F (y37.2.1,())) fun zy38=>match zy38 with
 | .inl y38=>
 (bif (Nat.ble (o3_0_8_35.length+ [(y37.1,y38.1)].length) 8796093022208) then
 some (.inl (o3_0_0_35,o3_0_1_35,o3_0_2_35,o3_0_3_35,o3_0_4_35,y36.1,o3_0_5_35,o3_0_6_35,(o3_0_8_35++ [(y37.1,y38.1)]),y38.2.1,()))
 else none)
 | .inr n39=>some (.inr (.inr n39))
 else
 bif (Nat.ble (o3_0_8_35.length+ [(y37.1,(0:Int))].length) 8796093022208) then
 some (.inl (o3_0_0_35,o3_0_1_35,o3_0_2_35,o3_0_3_35,o3_0_4_35,y36.1,o3_0_5_35,o3_0_6_35,(o3_0_8_35++ [(y37.1,(0:Int))]),y37.2.1,()))
 else none))
 | .inr n40=>some (.inr (.inr n40)):Option ((ByteArray×ByteArray×ByteArray×Int×Int×Bool×(List tNodeT)×(List Int)×(List tAggT)×(List tTokT)×Unit)⊕_)) fun r41=>match r41 with
 | .inl (ok_1_1_0_41,ok_1_1_1_41,ok_1_1_2_41,ok_1_1_3_41,ok_1_1_4_41,ok_1_1_7_41,ok_1_1_5_41,ok_1_1_6_41,ok_1_1_8_41,o0_0_41,_)=>
 (loopM (S:=Int×ByteArray×ByteArray×ByteArray×Int×Int×Bool×(List tNodeT)×(List Int)×(List tAggT)×(List tTokT)×Unit) (fun (x4,ok_1_1_0,ok_1_1_1,ok_1_1_2,ok_1_1_3,ok_1_1_4,ok_1_1_7,ok_1_1_5,ok_1_1_6,ok_1_1_8,o0_0,_)=>
 Option.bind (ddl_parser_take.F ([(⟨#[44]⟩:ByteArray)],o0_0,())) fun y42=>
 (bif y42.1 then
 let e43:Int:=(IntKind.i64.wrap (x4+(1:Int)))
 Option.bind (ddl_need.F ((decide (e43≤(40:Int))),())) fun zy44=>match zy44 with
 | .inl y44=>
 (Option.bind (ddl_parser_one.F ([(⟨#[99,111,117,110,116]⟩:ByteArray),(⟨#[115,117,109]⟩:ByteArray),(⟨#[109,105,110]⟩:ByteArray),(⟨#[109,97,120]⟩:ByteArray)],y42.2.1,())) fun zy45=>match zy45 with
 | .inl y45=>
 ((bif (y45.1 !=(0:Int)) then
 Option.bind (ddl_parser_col.F (y45.2.1,())) fun zy46=>match zy46 with
 | .inl y46=>
 (bif (Nat.ble (ok_1_1_8.length+ [(y45.1,y46.1)].length) 8796093022208) then
 some (.inl (e43,ok_1_1_0,ok_1_1_1,ok_1_1_2,ok_1_1_3,ok_1_1_4,ok_1_1_7,ok_1_1_5,ok_1_1_6,(ok_1_1_8++ [(y45.1,y46.1)]),y46.2.1,()))
 else none)
 | .inr n47=>some (.inr (.inr n47))
 else
 bif (Nat.ble (ok_1_1_8.length+ [(y45.1,(0:Int))].length) 8796093022208) then
 some (.inl (e43,ok_1_1_0,ok_1_1_1,ok_1_1_2,ok_1_1_3,ok_1_1_4,ok_1_1_7,ok_1_1_5,ok_1_1_6,(ok_1_1_8++ [(y45.1,(0:Int))]),y45.2.1,()))
 else none))
 | .inr n48=>some (.inr (.inr n48)))
 | .inr n49=>some (.inr (.inr n49))
 else
 some (.inr (.inl (ok_1_1_0,ok_1_1_1,ok_1_1_2,ok_1_1_3,ok_1_1_4,ok_1_1_7,y42.2.1,ok_1_1_5,ok_1_1_6,ok_1_1_8,()))))) ((1:Int),ok_1_1_0_41,ok_1_1_1_41,ok_1_1_2_41,ok_1_1_3_41,ok_1_1_4_41,ok_1_1_7_41,ok_1_1_5_41,ok_1_1_6_41,ok_1_1_8_41,o0_0_41,()))
 | .inr r=>some r
 else
 some (.inl (o3_0_0_35,o3_0_1_35,o3_0_2_35,o3_0_3_35,o3_0_4_35,y36.1,y36.2.1,o3_0_5_35,o3_0_6_35,o3_0_8_35,())))
 else
 some (.inl (o3_0_0_35,o3_0_1_35,o3_0_2_35,o3_0_3_35,o3_0_4_35,y36.1,y36.2.1,o3_0_5_35,o3_0_6_35,o3_0_8_35,()))))
 | .inr r=>some r)
 | .inr n50=>some (.inr n50))
 | .inr r=>some r)
 | .inr r=>some r)
 | .inr n51=>some (.inr n51))
 | .inr n52=>some (.inr n52))
 | .inr n53=>some (.inr n53)
noncomputable def ddl_parser_view.F:=stk ddl_parser_view.B
theorem ddl_parser_view.eq:ddl_parser_view.F=ddl_parser_view.B:=stk_eq _
noncomputable def ddl_parser_view.ins:Nat→List (Option Slot)→Heap→Option (Code×List ResultVar×H):=fun g xs hp=>bif Nat.beq g 136&&cloK xs hp 1 142 then some (Tryz.f136.body.getD .skip,Tryz.f136.results.toList,(.s none .n (.s (some ⟨[(0,.v false [.ptr 4 0])],[(0,true,.box 36 [.str,.str,.str,.int .i64,.int .i64,.ref 1,.ref 2,.bool,.ref 3]),(1,false,.arr 78 tNode),(2,false,.arr 3 (.int .i64)),(3,false,.arr 66 tAgg),(4,true,.box 162 [.sl 111 tTok])],[1,4],5,[(0,1003)]⟩) .n (.b (.l ⟨[(0,.v false [.ptr 4 0]),(4,.v false [.int .i64])],[(0,true,.box 36 [.str,.str,.str,.int .i64,.int .i64,.ref 1,.ref 2,.bool,.ref 3]),(1,false,.arr 78 tNode),(2,false,.arr 3 (.int .i64)),(3,false,.arr 66 tAgg),(4,true,.box 162 [.sl 111 tTok])],[1],5,[(0,1003)]⟩ .n))))) else bif Nat.beq g 136&&cloK xs hp 1 143 then some (Tryz.f136.body.getD .skip,Tryz.f136.results.toList,(.s none .n (.s (some ⟨[(0,.v false [.ptr 4 0])],[(0,true,.box 36 [.str,.str,.str,.int .i64,.int .i64,.ref 1,.ref 2,.bool,.ref 3]),(1,false,.arr 78 tNode),(2,false,.arr 3 (.int .i64)),(3,false,.arr 66 tAgg),(4,true,.box 162 [.sl 111 tTok])],[1,4],5,[(0,1003)]⟩) .n (.b (.l ⟨[(0,.v false [.ptr 4 0]),(4,.v false [.int .i64])],[(0,true,.box 36 [.str,.str,.str,.int .i64,.int .i64,.ref 1,.ref 2,.bool,.ref 3]),(1,false,.arr 78 tNode),(2,false,.arr 3 (.int .i64)),(3,false,.arr 66 tAgg),(4,true,.box 162 [.sl 111 tTok])],[1],5,[(0,1003)]⟩ .n))))) else bif Nat.beq g 142 then some (Tryz.f142.body.getD .skip,Tryz.f142.results.toList,.d) else bif Nat.beq g 143 then some (Tryz.f143.body.getD .skip,Tryz.f143.results.toList,.n) else none
theorem ddl_parser_view.ins_ok:∀n xs hp code res h,ddl_parser_view.ins n xs hp=some (code,res,h)→∃nt,FnOk PP n code res nt:=by
 intro n xs hp code res h e
 unfold ddl_parser_view.ins at e
 cases e0:(Nat.beq n 136&&cloK xs hp 1 142) with
 |true=>rw [e0] at e;cases e;rw [Nat.eq_of_beq_eq_true (Bool.and_eq_true_iff.1 e0).1];exact ⟨_,fnOk_mk (by kernel_rfl) (by kernel_rfl) (by kernel_rfl) (by kernel_rfl)⟩
 |false=>
 rw [e0] at e
 cases e1:(Nat.beq n 136&&cloK xs hp 1 143) with
 |true=>rw [e1] at e;cases e;rw [Nat.eq_of_beq_eq_true (Bool.and_eq_true_iff.1 e1).1];exact ⟨_,fnOk_mk (by kernel_rfl) (by kernel_rfl) (by kernel_rfl) (by kernel_rfl)⟩
 |false=>
 rw [e1] at e
 cases e2:(Nat.beq n 142) with
 |true=>rw [e2] at e;cases e;rw [Nat.eq_of_beq_eq_true e2];exact ⟨_,fnOk_mk (by kernel_rfl) (by kernel_rfl) (by kernel_rfl) (by kernel_rfl)⟩
 |false=>
 rw [e2] at e
 cases e3:(Nat.beq n 143) with
 |true=>rw [e3] at e;cases e;rw [Nat.eq_of_beq_eq_true e3];exact ⟨_,fnOk_mk (by kernel_rfl) (by kernel_rfl) (by kernel_rfl) (by kernel_rfl)⟩
 |false=>
 rw [e3] at e
 cases e
theorem ddl_parser_view.ev (x:TS ddl_parser_view.si):evFP cddl_parser_col (inlS cddl_parser_col ddl_parser_view.ins (inlS cddl_parser_col ddl_parser_view.ins (inlS cddl_parser_col ddl_parser_view.ins inl0))) (Tryz.f111.body.getD .skip) Tryz.f111.results.toList ddl_parser_view.h ddl_parser_view.si ddl_parser_view.so x=ddl_parser_view.B x:=by kernel_rfl
theorem ddl_parser_view.fn:FnOk PP 111 (Tryz.f111.body.getD .skip) Tryz.f111.results.toList Tryz.f111.ntmps:=fnOk_mk (by kernel_rfl) (by kernel_rfl) (by kernel_rfl) (by kernel_rfl)
theorem ddl_parser_view.ok:SpecPOk PP 111 159 ⟨1,ddl_parser_view.si,ddl_parser_view.so,ddl_parser_view.F⟩:=fnP_stk cxddl_parser_col (inlS_ok cxddl_parser_col (inlS_ok cxddl_parser_col (inlS_ok cxddl_parser_col (inl0_ok _ _) (drawnOk cxddl_parser_col mixed) ddl_parser_view.ins_ok) (drawnOk cxddl_parser_col mixed) ddl_parser_view.ins_ok) (drawnOk cxddl_parser_col mixed) ddl_parser_view.ins_ok) mixed ddl_parser_view.fn ddl_parser_view.h (by kernel_rfl) ddl_parser_view.ev
noncomputable def sqddl_parser_view:List (Nat×List (Nat×AK)×Lv.SpecP):=(111,[],⟨1,ddl_parser_view.si,ddl_parser_view.so,ddl_parser_view.F⟩)::sqddl_parser_col
noncomputable abbrev cddl_parser_view:Cx:=⟨tabAt tab0,eqAt eqs0,specAt spddl_column,159,specPAt sqddl_parser_view⟩
theorem cxddl_parser_view:CxOk PP cddl_parser_view:=cxddl_parser_col.consP [] ddl_parser_view.fn.enters ddl_parser_view.ok
def ddl_Parse.si:Sh:=⟨[(0,.v false [.str])],[],[],0,[]⟩
def ddl_Parse.so:Sh:=⟨[(0,.tup [(true,[.int .i64,.str,.ref 1000,.ref 1001,.str,.str,.str,.int .i64,.int .i64,.ref 1002,.ref 1003,.bool,.ref 1004]),(false,[.int .i64])])],[(1000,false,.arr 41 tColumn),(1001,false,.arr 32 (.sl 78 tNode)),(1002,false,.arr 78 tNode),(1003,false,.arr 3 (.int .i64)),(1004,false,.arr 66 tAgg)],[],1005,[]⟩
noncomputable def ddl_Parse.B:ByteArray×Unit→Option (Int×ByteArray×ByteArray×ByteArray×ByteArray×Int×Int×Bool×Int×(List tColumnT)×(List (List tNodeT))×(List tNodeT)×(List Int)×(List tAggT)×Unit):=fun (p0,_)=>
 Option.bind (lex_Lex.F (p0,())) fun y1=>
 (bif (y1.1 !=(0:Int)) then
 some ((0:Int),(⟨#[]⟩:ByteArray),(⟨#[]⟩:ByteArray),(⟨#[]⟩:ByteArray),(⟨#[]⟩:ByteArray),(0:Int),(0:Int),false,y1.1,[],[],[],[],[],())
 else
 Option.bind (ddl_parser_one.F ([(⟨#[116,97,98,108,101]⟩:ByteArray),(⟨#[118,105,101,119]⟩:ByteArray)],y1.2.1,())) fun zy2=>match zy2 with
 | .inl y2=>
 ((bif (y2.1==(0:Int)) then
 Option.bind (ddl_parser_table.F (y2.2.1,())) fun zy3=>match zy3 with
 | .inl y3=>
 (Option.bind (ddl_need.F (((y3.2.1.length:Int)==(0:Int)),())) fun zy4=>match zy4 with
 | .inl y4=>
 (some (y2.1,y3.1,(⟨#[]⟩:ByteArray),(⟨#[]⟩:ByteArray),(⟨#[]⟩:ByteArray),(0:Int),(0:Int),false,(0:Int),y3.2.2.1,y3.2.2.2.1,[],[],[],()))
 | .inr n5=>some ((0:Int),(⟨#[]⟩:ByteArray),(⟨#[]⟩:ByteArray),(⟨#[]⟩:ByteArray),(⟨#[]⟩:ByteArray),(0:Int),(0:Int),false,n5,[],[],[],[],[],()))
 | .inr n6=>some ((0:Int),(⟨#[]⟩:ByteArray),(⟨#[]⟩:ByteArray),(⟨#[]⟩:ByteArray),(⟨#[]⟩:ByteArray),(0:Int),(0:Int),false,n6,[],[],[],[],[],())
 else
 Option.bind (ddl_parser_view.F (y2.2.1,())) fun zy7=>match zy7 with
 | .inl y7=>
 (Option.bind (ddl_need.F (((y7.2.2.2.2.2.2.1.length:Int)==(0:Int)),())) fun zy8=>match zy8 with
 | .inl y8=>
 (some (y2.1,(⟨#[]⟩:ByteArray),y7.1,y7.2.1,y7.2.2.1,y7.2.2.2.1,y7.2.2.2.2.1,y7.2.2.2.2.2.1,(0:Int),[],[],y7.2.2.2.2.2.2.2.1,y7.2.2.2.2.2.2.2.2.1,y7.2.2.2.2.2.2.2.2.2.1,()))
 | .inr n9=>some ((0:Int),(⟨#[]⟩:ByteArray),(⟨#[]⟩:ByteArray),(⟨#[]⟩:ByteArray),(⟨#[]⟩:ByteArray),(0:Int),(0:Int),false,n9,[],[],[],[],[],()))
 | .inr n10=>some ((0:Int),(⟨#[]⟩:ByteArray),(⟨#[]⟩:ByteArray),(⟨#[]⟩:ByteArray),(⟨#[]⟩:ByteArray),(0:Int),(0:Int),false,n10,[],[],[],[],[],())))
 | .inr n11=>some ((0:Int),(⟨#[]⟩:ByteArray),(⟨#[]⟩:ByteArray),(⟨#[]⟩:ByteArray),(⟨#[]⟩:ByteArray),(0:Int),(0:Int),false,n11,[],[],[],[],[],()))
noncomputable def ddl_Parse.F:=stk ddl_Parse.B
theorem ddl_Parse.eq:ddl_Parse.F=ddl_Parse.B:=stk_eq _
noncomputable def ddl_Parse.pre:List (Code×H):=[(lC (Tryz.f81.body.getD .skip),.n),(lC (rC' (Tryz.f81.body.getD .skip)),.n),(lC (rC' (rC' (Tryz.f81.body.getD .skip))),.n)]
noncomputable def ddl_Parse.E:Code:=(rC' (rC' (rC' (rC' (Tryz.f81.body.getD .skip)))))
noncomputable def ddl_Parse.G:Code:=(rC' (Tryz.f108.body.getD .skip))
def ddl_Parse.hE:H:=.n
def ddl_Parse.hG:H:=.n
theorem ddl_Parse.ev (x:TS ddl_Parse.si):evDef cddl_parser_view inl0 ddl_Parse.pre ddl_Parse.E ddl_Parse.hE ddl_Parse.G ddl_Parse.hG 2 3 15 5 Tryz.f81.results.toList ddl_Parse.si ddl_Parse.so x=ddl_Parse.B x:=by kernel_rfl
theorem ddl_Parse.en:Lv.Enters PP 81:=⟨_,Tryz.func81,by kernel_rfl,by decide⟩
theorem ddl_Parse.ok:SpecOk PP 81 ⟨1,ddl_Parse.si,ddl_Parse.so,ddl_Parse.F⟩:=
 def_stk (pre:=ddl_Parse.pre) (i:=4) (om:=opC (lC (rC' (rC' (rC' (Tryz.f81.body.getD .skip))))) 0) (od:=opC (lC (rC' (rC' (rC' (Tryz.f81.body.getD .skip))))) 1) (E:=ddl_Parse.E) (f:=108) (p:=2) (q:=3) (t:=15) (ir:=0) (tr:=5) (or:=opC (lC (Tryz.f108.body.getD .skip)) 0) (G:=ddl_Parse.G) cxddl_parser_view (inl0_ok _ _) mixed Tryz.func81 (by kernel_rfl) ⟨by kernel_rfl,by kernel_rfl,by kernel_rfl,by kernel_rfl,by kernel_rfl,by kernel_rfl⟩ Tryz.func108 (by kernel_rfl) (by kernel_rfl) ⟨⟨#[],by kernel_rfl⟩,by kernel_rfl,by kernel_rfl⟩ (by kernel_rfl) (by kernel_rfl) (by kernel_rfl) (by kernel_rfl) ddl_Parse.hE ddl_Parse.hG (by kernel_rfl) ddl_Parse.ev
noncomputable def spddl_Parse:List (Nat×List (Nat×AK)×Lv.Spec):=(81,[],⟨1,ddl_Parse.si,ddl_Parse.so,ddl_Parse.F⟩)::spddl_column
noncomputable abbrev cddl_Parse:Cx:=⟨tabAt tab0,eqAt eqs0,specAt spddl_Parse,159,specPAt sqddl_parser_view⟩
theorem cxddl_Parse:CxOk PP cddl_Parse:=cxddl_parser_view.consS [] ddl_Parse.en ddl_Parse.ok
def slices_Equal_api_Expr_api_Node.si:Sh:=⟨[(0,.v false [.sl 78 tNode]),(1,.v false [.sl 78 tNode])],[],[],0,[]⟩
def slices_Equal_api_Expr_api_Node.so:Sh:=⟨[(0,.v false [.bool])],[],[],1000,[]⟩
def slices_Equal_api_Expr_api_Node.h:H:=(.s none .n (.s none .n (.s none (.s none .n (.b (.l ⟨[(13,.v false [.int .i64])],[],[0,1,12],0,[]⟩ .n))) .n)))
noncomputable def slices_Equal_api_Expr_api_Node.B:(List tNodeT)×(List tNodeT)×Unit→Option (Bool×Unit):=fun (p0,p1,_)=>
 (bif ((p0.length:Int) !=(p1.length:Int)) then
 some (false,())
 else
 loopM (S:=Int×Unit) (fun (x13,_)=>
 (bif (decide (x13<(p0.length:Int))) then
 bif (decide (0≤x13)&&decide (x13<(p0.length:Int))) then
 let e1:tNodeT:=(List.getD p0 (Int.toNat x13) tNode.z)
 bif (decide (0≤x13)&&decide (x13<(p1.length:Int))) then
 let e2:tNodeT:=(List.getD p1 (Int.toNat x13) tNode.z)
 (bif (!(Ty.eq tNode e1 e2)) then
 some (.inr (false,()))
 else
 let e3:Int:=(IntKind.i64.wrap (x13+(1:Int)))
 some (.inl (e3,())))
 else none
 else none
 else
 some (.inr (true,())))) ((0:Int),()))
noncomputable def slices_Equal_api_Expr_api_Node.F:=stk slices_Equal_api_Expr_api_Node.B
theorem slices_Equal_api_Expr_api_Node.eq:slices_Equal_api_Expr_api_Node.F=slices_Equal_api_Expr_api_Node.B:=stk_eq _
theorem slices_Equal_api_Expr_api_Node.ev (x:TS slices_Equal_api_Expr_api_Node.si):evF cddl_Parse inl0 (Tryz.f115.body.getD .skip) Tryz.f115.results.toList slices_Equal_api_Expr_api_Node.h slices_Equal_api_Expr_api_Node.si slices_Equal_api_Expr_api_Node.so x=slices_Equal_api_Expr_api_Node.B x:=by kernel_rfl
theorem slices_Equal_api_Expr_api_Node.fn:FnOk PP 115 (Tryz.f115.body.getD .skip) Tryz.f115.results.toList Tryz.f115.ntmps:=fnOk_mk (by kernel_rfl) (by kernel_rfl) (by kernel_rfl) (by kernel_rfl)
theorem slices_Equal_api_Expr_api_Node.ok:SpecOk PP 115 ⟨2,slices_Equal_api_Expr_api_Node.si,slices_Equal_api_Expr_api_Node.so,slices_Equal_api_Expr_api_Node.F⟩:=fn_stk cxddl_Parse (inl0_ok _ _) mixed slices_Equal_api_Expr_api_Node.fn slices_Equal_api_Expr_api_Node.h (by kernel_rfl) slices_Equal_api_Expr_api_Node.ev
noncomputable def spslices_Equal_api_Expr_api_Node:List (Nat×List (Nat×AK)×Lv.Spec):=(115,[],⟨2,slices_Equal_api_Expr_api_Node.si,slices_Equal_api_Expr_api_Node.so,slices_Equal_api_Expr_api_Node.F⟩)::spddl_Parse
noncomputable abbrev cslices_Equal_api_Expr_api_Node:Cx:=⟨tabAt tab0,eqAt eqs0,specAt spslices_Equal_api_Expr_api_Node,159,specPAt sqddl_parser_view⟩
theorem cxslices_Equal_api_Expr_api_Node:CxOk PP cslices_Equal_api_Expr_api_Node:=cxddl_Parse.consS [] slices_Equal_api_Expr_api_Node.fn.enters slices_Equal_api_Expr_api_Node.ok
def ddl_Same_1.si:Sh:=⟨[(0,.v false [.sl 78 tNode]),(1,.v false [.sl 78 tNode])],[],[],0,[]⟩
def ddl_Same_1.so:Sh:=⟨[(0,.v false [.bool])],[],[],1000,[]⟩
def ddl_Same_1.h:H:=.n
noncomputable def ddl_Same_1.B:(List tNodeT)×(List tNodeT)×Unit→Option (Bool×Unit):=fun (p0,p1,_)=>
 Option.bind (slices_Equal_api_Expr_api_Node.F (p0,p1,())) fun y1=>
 some (y1.1,())
noncomputable def ddl_Same_1.F:=stk ddl_Same_1.B
theorem ddl_Same_1.eq:ddl_Same_1.F=ddl_Same_1.B:=stk_eq _
theorem ddl_Same_1.ev (x:TS ddl_Same_1.si):evF cslices_Equal_api_Expr_api_Node inl0 (Tryz.f114.body.getD .skip) Tryz.f114.results.toList ddl_Same_1.h ddl_Same_1.si ddl_Same_1.so x=ddl_Same_1.B x:=by kernel_rfl
theorem ddl_Same_1.fn:FnOk PP 114 (Tryz.f114.body.getD .skip) Tryz.f114.results.toList Tryz.f114.ntmps:=fnOk_mk (by kernel_rfl) (by kernel_rfl) (by kernel_rfl) (by kernel_rfl)
theorem ddl_Same_1.ok:SpecOk PP 114 ⟨2,ddl_Same_1.si,ddl_Same_1.so,ddl_Same_1.F⟩:=fn_stk cxslices_Equal_api_Expr_api_Node (inl0_ok _ _) mixed ddl_Same_1.fn ddl_Same_1.h (by kernel_rfl) ddl_Same_1.ev
noncomputable def spddl_Same_1:List (Nat×List (Nat×AK)×Lv.Spec):=(114,[],⟨2,ddl_Same_1.si,ddl_Same_1.so,ddl_Same_1.F⟩)::spslices_Equal_api_Expr_api_Node
noncomputable abbrev cddl_Same_1:Cx:=⟨tabAt tab0,eqAt eqs0,specAt spddl_Same_1,159,specPAt sqddl_parser_view⟩
theorem cxddl_Same_1:CxOk PP cddl_Same_1:=cxslices_Equal_api_Expr_api_Node.consS [] ddl_Same_1.fn.enters ddl_Same_1.ok
def slices_Equal_sl_api_Column_api_Column.si:Sh:=⟨[(0,.v false [.sl 41 tColumn]),(1,.v false [.sl 41 tColumn])],[],[],0,[]⟩
def slices_Equal_sl_api_Column_api_Column.so:Sh:=⟨[(0,.v false [.bool])],[],[],1000,[]⟩
def slices_Equal_sl_api_Column_api_Column.h:H:=(.s none .n (.s none .n (.s none (.s none .n (.b (.l ⟨[(13,.v false [.int .i64])],[],[0,1,12],0,[]⟩ .n))) .n)))
noncomputable def slices_Equal_sl_api_Column_api_Column.B:(List tColumnT)×(List tColumnT)×Unit→Option (Bool×Unit):=fun (p0,p1,_)=>
 (bif ((p0.length:Int) !=(p1.length:Int)) then
 some (false,())
 else
 loopM (S:=Int×Unit) (fun (x13,_)=>
 (bif (decide (x13<(p0.length:Int))) then
 bif (decide (0≤x13)&&decide (x13<(p0.length:Int))) then
 let e1:tColumnT:=(List.getD p0 (Int.toNat x13) tColumn.z)
 bif (decide (0≤x13)&&decide (x13<(p1.length:Int))) then
 let e2:tColumnT:=(List.getD p1 (Int.toNat x13) tColumn.z)
 (bif (!(Ty.eq tColumn e1 e2)) then
 some (.inr (false,()))
 else
 let e3:Int:=(IntKind.i64.wrap (x13+(1:Int)))
 some (.inl (e3,())))
 else none
 else none
 else
 some (.inr (true,())))) ((0:Int),()))
noncomputable def slices_Equal_sl_api_Column_api_Column.F:=stk slices_Equal_sl_api_Column_api_Column.B
theorem slices_Equal_sl_api_Column_api_Column.eq:slices_Equal_sl_api_Column_api_Column.F=slices_Equal_sl_api_Column_api_Column.B:=stk_eq _
theorem slices_Equal_sl_api_Column_api_Column.ev (x:TS slices_Equal_sl_api_Column_api_Column.si):evF cddl_Same_1 inl0 (Tryz.f116.body.getD .skip) Tryz.f116.results.toList slices_Equal_sl_api_Column_api_Column.h slices_Equal_sl_api_Column_api_Column.si slices_Equal_sl_api_Column_api_Column.so x=slices_Equal_sl_api_Column_api_Column.B x:=by kernel_rfl
theorem slices_Equal_sl_api_Column_api_Column.fn:FnOk PP 116 (Tryz.f116.body.getD .skip) Tryz.f116.results.toList Tryz.f116.ntmps:=fnOk_mk (by kernel_rfl) (by kernel_rfl) (by kernel_rfl) (by kernel_rfl)
theorem slices_Equal_sl_api_Column_api_Column.ok:SpecOk PP 116 ⟨2,slices_Equal_sl_api_Column_api_Column.si,slices_Equal_sl_api_Column_api_Column.so,slices_Equal_sl_api_Column_api_Column.F⟩:=fn_stk cxddl_Same_1 (inl0_ok _ _) mixed slices_Equal_sl_api_Column_api_Column.fn slices_Equal_sl_api_Column_api_Column.h (by kernel_rfl) slices_Equal_sl_api_Column_api_Column.ev
noncomputable def spslices_Equal_sl_api_Column_api_Column:List (Nat×List (Nat×AK)×Lv.Spec):=(116,[],⟨2,slices_Equal_sl_api_Column_api_Column.si,slices_Equal_sl_api_Column_api_Column.so,slices_Equal_sl_api_Column_api_Column.F⟩)::spddl_Same_1
noncomputable abbrev cslices_Equal_sl_api_Column_api_Column:Cx:=⟨tabAt tab0,eqAt eqs0,specAt spslices_Equal_sl_api_Column_api_Column,159,specPAt sqddl_parser_view⟩
theorem cxslices_Equal_sl_api_Column_api_Column:CxOk PP cslices_Equal_sl_api_Column_api_Column:=cxddl_Same_1.consS [] slices_Equal_sl_api_Column_api_Column.fn.enters slices_Equal_sl_api_Column_api_Column.ok
def slices_Equal_sl_int_int.si:Sh:=⟨[(0,.v false [.sl 3 (.int .i64)]),(1,.v false [.sl 3 (.int .i64)])],[],[],0,[]⟩
def slices_Equal_sl_int_int.so:Sh:=⟨[(0,.v false [.bool])],[],[],1000,[]⟩
def slices_Equal_sl_int_int.h:H:=(.s none .n (.s none .n (.s none (.s none .n (.b (.l ⟨[(13,.v false [.int .i64])],[],[0,1,12],0,[]⟩ .n))) .n)))
noncomputable def slices_Equal_sl_int_int.B:(List Int)×(List Int)×Unit→Option (Bool×Unit):=fun (p0,p1,_)=>
 (bif ((p0.length:Int) !=(p1.length:Int)) then
 some (false,())
 else
 loopM (S:=Int×Unit) (fun (x13,_)=>
 (bif (decide (x13<(p0.length:Int))) then
 bif (decide (0≤x13)&&decide (x13<(p0.length:Int))) then
 let e1:Int:=(List.getD p0 (Int.toNat x13) (0:Int))
 bif (decide (0≤x13)&&decide (x13<(p1.length:Int))) then
 let e2:Int:=(List.getD p1 (Int.toNat x13) (0:Int))
 (bif (e1 !=e2) then
 some (.inr (false,()))
 else
 let e3:Int:=(IntKind.i64.wrap (x13+(1:Int)))
 some (.inl (e3,())))
 else none
 else none
 else
 some (.inr (true,())))) ((0:Int),()))
noncomputable def slices_Equal_sl_int_int.F:=stk slices_Equal_sl_int_int.B
theorem slices_Equal_sl_int_int.eq:slices_Equal_sl_int_int.F=slices_Equal_sl_int_int.B:=stk_eq _
theorem slices_Equal_sl_int_int.ev (x:TS slices_Equal_sl_int_int.si):evF cslices_Equal_sl_api_Column_api_Column inl0 (Tryz.f117.body.getD .skip) Tryz.f117.results.toList slices_Equal_sl_int_int.h slices_Equal_sl_int_int.si slices_Equal_sl_int_int.so x=slices_Equal_sl_int_int.B x:=by kernel_rfl
theorem slices_Equal_sl_int_int.fn:FnOk PP 117 (Tryz.f117.body.getD .skip) Tryz.f117.results.toList Tryz.f117.ntmps:=fnOk_mk (by kernel_rfl) (by kernel_rfl) (by kernel_rfl) (by kernel_rfl)
theorem slices_Equal_sl_int_int.ok:SpecOk PP 117 ⟨2,slices_Equal_sl_int_int.si,slices_Equal_sl_int_int.so,slices_Equal_sl_int_int.F⟩:=fn_stk cxslices_Equal_sl_api_Column_api_Column (inl0_ok _ _) mixed slices_Equal_sl_int_int.fn slices_Equal_sl_int_int.h (by kernel_rfl) slices_Equal_sl_int_int.ev
noncomputable def spslices_Equal_sl_int_int:List (Nat×List (Nat×AK)×Lv.Spec):=(117,[],⟨2,slices_Equal_sl_int_int.si,slices_Equal_sl_int_int.so,slices_Equal_sl_int_int.F⟩)::spslices_Equal_sl_api_Column_api_Column
noncomputable abbrev cslices_Equal_sl_int_int:Cx:=⟨tabAt tab0,eqAt eqs0,specAt spslices_Equal_sl_int_int,159,specPAt sqddl_parser_view⟩
theorem cxslices_Equal_sl_int_int:CxOk PP cslices_Equal_sl_int_int:=cxslices_Equal_sl_api_Column_api_Column.consS [] slices_Equal_sl_int_int.fn.enters slices_Equal_sl_int_int.ok
def slices_Equal_sl_api_Agg_api_Agg.si:Sh:=⟨[(0,.v false [.sl 66 tAgg]),(1,.v false [.sl 66 tAgg])],[],[],0,[]⟩
def slices_Equal_sl_api_Agg_api_Agg.so:Sh:=⟨[(0,.v false [.bool])],[],[],1000,[]⟩
def slices_Equal_sl_api_Agg_api_Agg.h:H:=(.s none .n (.s none .n (.s none (.s none .n (.b (.l ⟨[(13,.v false [.int .i64])],[],[0,1,12],0,[]⟩ .n))) .n)))
noncomputable def slices_Equal_sl_api_Agg_api_Agg.B:(List tAggT)×(List tAggT)×Unit→Option (Bool×Unit):=fun (p0,p1,_)=>
 (bif ((p0.length:Int) !=(p1.length:Int)) then
 some (false,())
 else
 loopM (S:=Int×Unit) (fun (x13,_)=>
 (bif (decide (x13<(p0.length:Int))) then
 bif (decide (0≤x13)&&decide (x13<(p0.length:Int))) then
 let e1:tAggT:=(List.getD p0 (Int.toNat x13) tAgg.z)
 bif (decide (0≤x13)&&decide (x13<(p1.length:Int))) then
 let e2:tAggT:=(List.getD p1 (Int.toNat x13) tAgg.z)
 (bif (!(Ty.eq tAgg e1 e2)) then
 some (.inr (false,()))
 else
 let e3:Int:=(IntKind.i64.wrap (x13+(1:Int)))
 some (.inl (e3,())))
 else none
 else none
 else
 some (.inr (true,())))) ((0:Int),()))
noncomputable def slices_Equal_sl_api_Agg_api_Agg.F:=stk slices_Equal_sl_api_Agg_api_Agg.B
theorem slices_Equal_sl_api_Agg_api_Agg.eq:slices_Equal_sl_api_Agg_api_Agg.F=slices_Equal_sl_api_Agg_api_Agg.B:=stk_eq _
theorem slices_Equal_sl_api_Agg_api_Agg.ev (x:TS slices_Equal_sl_api_Agg_api_Agg.si):evF cslices_Equal_sl_int_int inl0 (Tryz.f118.body.getD .skip) Tryz.f118.results.toList slices_Equal_sl_api_Agg_api_Agg.h slices_Equal_sl_api_Agg_api_Agg.si slices_Equal_sl_api_Agg_api_Agg.so x=slices_Equal_sl_api_Agg_api_Agg.B x:=by kernel_rfl
theorem slices_Equal_sl_api_Agg_api_Agg.fn:FnOk PP 118 (Tryz.f118.body.getD .skip) Tryz.f118.results.toList Tryz.f118.ntmps:=fnOk_mk (by kernel_rfl) (by kernel_rfl) (by kernel_rfl) (by kernel_rfl)
theorem slices_Equal_sl_api_Agg_api_Agg.ok:SpecOk PP 118 ⟨2,slices_Equal_sl_api_Agg_api_Agg.si,slices_Equal_sl_api_Agg_api_Agg.so,slices_Equal_sl_api_Agg_api_Agg.F⟩:=fn_stk cxslices_Equal_sl_int_int (inl0_ok _ _) mixed slices_Equal_sl_api_Agg_api_Agg.fn slices_Equal_sl_api_Agg_api_Agg.h (by kernel_rfl) slices_Equal_sl_api_Agg_api_Agg.ev
noncomputable def spslices_Equal_sl_api_Agg_api_Agg:List (Nat×List (Nat×AK)×Lv.Spec):=(118,[],⟨2,slices_Equal_sl_api_Agg_api_Agg.si,slices_Equal_sl_api_Agg_api_Agg.so,slices_Equal_sl_api_Agg_api_Agg.F⟩)::spslices_Equal_sl_int_int
noncomputable abbrev cslices_Equal_sl_api_Agg_api_Agg:Cx:=⟨tabAt tab0,eqAt eqs0,specAt spslices_Equal_sl_api_Agg_api_Agg,159,specPAt sqddl_parser_view⟩
theorem cxslices_Equal_sl_api_Agg_api_Agg:CxOk PP cslices_Equal_sl_api_Agg_api_Agg:=cxslices_Equal_sl_int_int.consS [] slices_Equal_sl_api_Agg_api_Agg.fn.enters slices_Equal_sl_api_Agg_api_Agg.ok
def ddl_Same.si:Sh:=⟨[(0,.v true [.int .i64,.str,.sl 41 tColumn,.sl 32 (.sl 78 tNode),.str,.str,.str,.int .i64,.int .i64,.sl 78 tNode,.sl 3 (.int .i64),.bool,.sl 66 tAgg]),(1,.v true [.int .i64,.str,.sl 41 tColumn,.sl 32 (.sl 78 tNode),.str,.str,.str,.int .i64,.int .i64,.sl 78 tNode,.sl 3 (.int .i64),.bool,.sl 66 tAgg])],[],[],0,[]⟩
def ddl_Same.so:Sh:=⟨[(0,.v false [.bool])],[],[],1000,[]⟩
def ddl_Same.h:H:=(.s none .n (.s none .n (.s none .n (.s (some ⟨[(10,.v false [.bool])],[],[2,3,7,8],0,[]⟩) .n (.s (some ⟨[(11,.v false [.bool])],[],[2,3,10],0,[]⟩) .n .n)))))
noncomputable def ddl_Same.B:Int×ByteArray×(List tColumnT)×(List (List tNodeT))×ByteArray×ByteArray×ByteArray×Int×Int×(List tNodeT)×(List Int)×Bool×(List tAggT)×Int×ByteArray×(List tColumnT)×(List (List tNodeT))×ByteArray×ByteArray×ByteArray×Int×Int×(List tNodeT)×(List Int)×Bool×(List tAggT)×Unit→Option (Bool×Unit):=fun (p0_0,p0_1,p0_2,p0_3,p0_4,p0_5,p0_6,p0_7,p0_8,p0_9,p0_10,p0_11,p0_12,p1_0,p1_1,p1_2,p1_3,p1_4,p1_5,p1_6,p1_7,p1_8,p1_9,p1_10,p1_11,p1_12,_)=>
 (bif ((p0_3.length:Int) !=(p1_3.length:Int)) then
 Option.bind (
 (bif (p0_1.toList==p1_1.toList) then
 Option.bind (slices_Equal_sl_api_Column_api_Column.F (p0_2,p1_2,())) fun y1=>
 (bif y1.1 then
 some (.inl (false,()))
 else
 some (.inl (false,())))
 else
 some (.inl (false,()))):Option ((Bool×Unit)⊕_)) fun r2=>match r2 with
 | .inl (x10_2,_)=>
 (Option.bind (
 (bif (p0_4.toList==p1_4.toList) then
 (bif (p0_5.toList==p1_5.toList) then
 (bif (p0_6.toList==p1_6.toList) then
 (bif (Ty.eq tAgg (p0_7,p0_8) (p1_7,p1_8)) then
 Option.bind (slices_Equal_api_Expr_api_Node.F (p0_9,p1_9,())) fun y3=>
 (bif y3.1 then
 Option.bind (slices_Equal_sl_int_int.F (p0_10,p1_10,())) fun y4=>
 (bif y4.1 then
 (bif (p0_11==p1_11) then
 Option.bind (slices_Equal_sl_api_Agg_api_Agg.F (p0_12,p1_12,())) fun y5=>
 some (.inl (y5.1,()))
 else
 some (.inl (false,())))
 else
 some (.inl (false,())))
 else
 some (.inl (false,())))
 else
 some (.inl (false,())))
 else
 some (.inl (false,())))
 else
 some (.inl (false,())))
 else
 some (.inl (false,()))):Option ((Bool×Unit)⊕_)) fun r6=>match r6 with
 | .inl (x11_6,_)=>
 ((bif (p0_0==p1_0) then
 (bif x10_2 then
 some (x11_6,())
 else
 some (false,()))
 else
 some (false,())))
 | .inr r=>some r)
 | .inr r=>some r
 else
 loopM (S:=Int×Unit) (fun (x17,_)=>
 (bif (decide (x17<(p0_3.length:Int))) then
 bif (decide (0≤x17)&&decide (x17<(p0_3.length:Int))) then
 let e7:(List tNodeT):=(List.getD p0_3 (Int.toNat x17) [])
 bif (decide (0≤x17)&&decide (x17<(p1_3.length:Int))) then
 let e8:(List tNodeT):=(List.getD p1_3 (Int.toNat x17) [])
 Option.bind (
 Option.bind (ddl_Same_1.F (e7,e8,())) fun y9=>
 some (.inl ((!y9.1),())):Option ((Bool×Unit)⊕_)) fun r10=>match r10 with
 | .inl (x30_10,_)=>
 ((bif x30_10 then
 Option.map Sum.inr (Option.bind (
 (bif (p0_1.toList==p1_1.toList) then
 Option.bind (slices_Equal_sl_api_Column_api_Column.F (p0_2,p1_2,())) fun y11=>
 (bif y11.1 then
 some (.inl (false,()))
 else
 some (.inl (false,())))
 else
 some (.inl (false,()))):Option ((Bool×Unit)⊕_)) fun r12=>match r12 with
 | .inl (x10_12,_)=>
 (Option.bind (
 (bif (p0_4.toList==p1_4.toList) then
 (bif (p0_5.toList==p1_5.toList) then
 (bif (p0_6.toList==p1_6.toList) then
 (bif (Ty.eq tAgg (p0_7,p0_8) (p1_7,p1_8)) then
 Option.bind (slices_Equal_api_Expr_api_Node.F (p0_9,p1_9,())) fun y13=>
 (bif y13.1 then
 Option.bind (slices_Equal_sl_int_int.F (p0_10,p1_10,())) fun y14=>
 (bif y14.1 then
 (bif (p0_11==p1_11) then
 Option.bind (slices_Equal_sl_api_Agg_api_Agg.F (p0_12,p1_12,())) fun y15=>
 some (.inl (y15.1,()))
 else
 some (.inl (false,())))
 else
 some (.inl (false,())))
 else
 some (.inl (false,())))
 else
 some (.inl (false,())))
 else
 some (.inl (false,())))
 else
 some (.inl (false,())))
 else
 some (.inl (false,()))):Option ((Bool×Unit)⊕_)) fun r16=>match r16 with
 | .inl (x11_16,_)=>
 ((bif (p0_0==p1_0) then
 (bif x10_12 then
 some (x11_16,())
 else
 some (false,()))
 else
 some (false,())))
 | .inr r=>some r)
 | .inr r=>some r)
 else
 let e17:Int:=(IntKind.i64.wrap (x17+(1:Int)))
 some (.inl (e17,()))))
 | .inr r=>some r
 else none
 else none
 else
 Option.map Sum.inr (Option.bind (
 (bif (p0_1.toList==p1_1.toList) then
 Option.bind (slices_Equal_sl_api_Column_api_Column.F (p0_2,p1_2,())) fun y18=>
 (bif y18.1 then
 some (.inl (true,()))
 else
 some (.inl (false,())))
 else
 some (.inl (false,()))):Option ((Bool×Unit)⊕_)) fun r19=>match r19 with
 | .inl (x10_19,_)=>
 (Option.bind (
 (bif (p0_4.toList==p1_4.toList) then
 (bif (p0_5.toList==p1_5.toList) then
 (bif (p0_6.toList==p1_6.toList) then
 (bif (Ty.eq tAgg (p0_7,p0_8) (p1_7,p1_8)) then
 Option.bind (slices_Equal_api_Expr_api_Node.F (p0_9,p1_9,())) fun y20=>
 (bif y20.1 then
 Option.bind (slices_Equal_sl_int_int.F (p0_10,p1_10,())) fun y21=>
 (bif y21.1 then
 (bif (p0_11==p1_11) then
 Option.bind (slices_Equal_sl_api_Agg_api_Agg.F (p0_12,p1_12,())) fun y22=>
 some (.inl (y22.1,()))
 else
 some (.inl (false,())))
 else
 some (.inl (false,())))
 else
 some (.inl (false,())))
 else
 some (.inl (false,())))
 else
 some (.inl (false,())))
 else
 some (.inl (false,())))
 else
 some (.inl (false,()))):Option ((Bool×Unit)⊕_)) fun r23=>match r23 with
 | .inl (x11_23,_)=>
 ((bif (p0_0==p1_0) then
 (bif x10_19 then
 some (x11_23,())
 else
 some (false,()))
 else
 some (false,())))
 | .inr r=>some r)
 | .inr r=>some r))) ((0:Int),()))
noncomputable def ddl_Same.F:=stk ddl_Same.B
theorem ddl_Same.eq:ddl_Same.F=ddl_Same.B:=stk_eq _
noncomputable def ddl_Same.ins:Nat→List (Option Slot)→Heap→Option (Code×List ResultVar×H):=fun g xs hp=>bif Nat.beq g 113 then some (Tryz.f113.body.getD .skip,Tryz.f113.results.toList,(.s none .n (.s none .n (.s none (.s none .n (.b (.l ⟨[(17,.v false [.int .i64])],[],[1,2,15,16],0,[]⟩ (.s none .n (.s none .n (.s none (.b (.s none .n (.s none .n (.s (some ⟨[(30,.v false [.bool])],[],[1,2,15,16,17],0,[]⟩) .n .n)))) .n)))))) .n)))) else none
theorem ddl_Same.ins_ok:∀n xs hp code res h,ddl_Same.ins n xs hp=some (code,res,h)→∃nt,FnOk PP n code res nt:=by
 intro n xs hp code res h e
 unfold ddl_Same.ins at e
 cases e0:(Nat.beq n 113) with
 |true=>rw [e0] at e;cases e;rw [Nat.eq_of_beq_eq_true e0];exact ⟨_,fnOk_mk (by kernel_rfl) (by kernel_rfl) (by kernel_rfl) (by kernel_rfl)⟩
 |false=>
 rw [e0] at e
 cases e
theorem ddl_Same.ev (x:TS ddl_Same.si):evF cslices_Equal_sl_api_Agg_api_Agg (inlS cslices_Equal_sl_api_Agg_api_Agg ddl_Same.ins (inlS cslices_Equal_sl_api_Agg_api_Agg ddl_Same.ins (inlS cslices_Equal_sl_api_Agg_api_Agg ddl_Same.ins inl0))) (Tryz.f82.body.getD .skip) Tryz.f82.results.toList ddl_Same.h ddl_Same.si ddl_Same.so x=ddl_Same.B x:=by kernel_rfl
theorem ddl_Same.fn:FnOk PP 82 (Tryz.f82.body.getD .skip) Tryz.f82.results.toList Tryz.f82.ntmps:=fnOk_mk (by kernel_rfl) (by kernel_rfl) (by kernel_rfl) (by kernel_rfl)
theorem ddl_Same.ok:SpecOk PP 82 ⟨2,ddl_Same.si,ddl_Same.so,ddl_Same.F⟩:=fn_stk cxslices_Equal_sl_api_Agg_api_Agg (inlS_ok cxslices_Equal_sl_api_Agg_api_Agg (inlS_ok cxslices_Equal_sl_api_Agg_api_Agg (inlS_ok cxslices_Equal_sl_api_Agg_api_Agg (inl0_ok _ _) (drawnOk cxslices_Equal_sl_api_Agg_api_Agg mixed) ddl_Same.ins_ok) (drawnOk cxslices_Equal_sl_api_Agg_api_Agg mixed) ddl_Same.ins_ok) (drawnOk cxslices_Equal_sl_api_Agg_api_Agg mixed) ddl_Same.ins_ok) mixed ddl_Same.fn ddl_Same.h (by kernel_rfl) ddl_Same.ev
noncomputable def spddl_Same:List (Nat×List (Nat×AK)×Lv.Spec):=(82,[],⟨2,ddl_Same.si,ddl_Same.so,ddl_Same.F⟩)::spslices_Equal_sl_api_Agg_api_Agg
noncomputable abbrev cddl_Same:Cx:=⟨tabAt tab0,eqAt eqs0,specAt spddl_Same,159,specPAt sqddl_parser_view⟩
theorem cxddl_Same:CxOk PP cddl_Same:=cxslices_Equal_sl_api_Agg_api_Agg.consS [] ddl_Same.fn.enters ddl_Same.ok
def ddl_Print.si:Sh:=⟨[(0,.v true [.int .i64,.str,.sl 41 tColumn,.sl 32 (.sl 78 tNode),.str,.str,.str,.int .i64,.int .i64,.sl 78 tNode,.sl 3 (.int .i64),.bool,.sl 66 tAgg])],[],[],0,[]⟩
def ddl_Print.so:Sh:=⟨[(0,.v false [.str])],[],[],1000,[]⟩
def ddl_Print.h:H:=(.s none .n (.s none .n (.s (some ⟨[(3,.v false [.ptr 0 0])],[(0,true,.box 127 [.ref 1]),(1,false,.arr 9 .str)],[1],2,[]⟩) .n .n)))
noncomputable def ddl_Print.B:Int×ByteArray×(List tColumnT)×(List (List tNodeT))×ByteArray×ByteArray×ByteArray×Int×Int×(List tNodeT)×(List Int)×Bool×(List tAggT)×Unit→Option (ByteArray×Unit):=fun (p0_0,p0_1,p0_2,p0_3,p0_4,p0_5,p0_6,p0_7,p0_8,p0_9,p0_10,p0_11,p0_12,_)=>
 Option.bind (
 (bif (p0_0==(0:Int)) then
 Option.bind (ddl_printer_table.F (p0_1,p0_2,p0_3,[],())) fun y1=>
 some (.inl (y1.1,()))
 else
 Option.bind (ddl_printer_view.F (p0_4,p0_5,p0_6,p0_7,p0_8,p0_9,p0_10,p0_11,p0_12,[],())) fun y2=>
 some (.inl (y2.1,()))):Option (((List ByteArray)×Unit)⊕_)) fun r3=>match r3 with
 | .inl (o3_0_0_3,_)=>
 (Option.bind (strings_Join.F (o3_0_0_3,(⟨#[32]⟩:ByteArray),())) fun y4=>
 (bif (decide ((y4.1.size:Int)>(20000:Int))) then
 some ((⟨#[]⟩:ByteArray),())
 else
 Option.bind (ddl_Parse.F (y4.1,())) fun y5=>
 (bif (y5.2.2.2.2.2.2.2.2.1 !=(0:Int)) then
 some ((⟨#[]⟩:ByteArray),())
 else
 Option.bind (ddl_Same.F (p0_0,p0_1,p0_2,p0_3,p0_4,p0_5,p0_6,p0_7,p0_8,p0_9,p0_10,p0_11,p0_12,y5.1,y5.2.1,y5.2.2.2.2.2.2.2.2.2.1,y5.2.2.2.2.2.2.2.2.2.2.1,y5.2.2.1,y5.2.2.2.1,y5.2.2.2.2.1,y5.2.2.2.2.2.1,y5.2.2.2.2.2.2.1,y5.2.2.2.2.2.2.2.2.2.2.2.1,y5.2.2.2.2.2.2.2.2.2.2.2.2.1,y5.2.2.2.2.2.2.2.1,y5.2.2.2.2.2.2.2.2.2.2.2.2.2.1,())) fun y6=>
 (bif (!y6.1) then
 some ((⟨#[]⟩:ByteArray),())
 else
 some (y4.1,())))))
 | .inr r=>some r
noncomputable def ddl_Print.F:=stk ddl_Print.B
theorem ddl_Print.eq:ddl_Print.F=ddl_Print.B:=stk_eq _
theorem ddl_Print.ev (x:TS ddl_Print.si):evF cddl_Same inl0 (Tryz.f52.body.getD .skip) Tryz.f52.results.toList ddl_Print.h ddl_Print.si ddl_Print.so x=ddl_Print.B x:=by kernel_rfl
theorem ddl_Print.fn:FnOk PP 52 (Tryz.f52.body.getD .skip) Tryz.f52.results.toList Tryz.f52.ntmps:=fnOk_mk (by kernel_rfl) (by kernel_rfl) (by kernel_rfl) (by kernel_rfl)
theorem ddl_Print.ok:SpecOk PP 52 ⟨1,ddl_Print.si,ddl_Print.so,ddl_Print.F⟩:=fn_stk cxddl_Same (inl0_ok _ _) mixed ddl_Print.fn ddl_Print.h (by kernel_rfl) ddl_Print.ev
noncomputable def spddl_Print:List (Nat×List (Nat×AK)×Lv.Spec):=(52,[],⟨1,ddl_Print.si,ddl_Print.so,ddl_Print.F⟩)::spddl_Same
noncomputable abbrev cddl_Print:Cx:=⟨tabAt tab0,eqAt eqs0,specAt spddl_Print,159,specPAt sqddl_parser_view⟩
theorem cxddl_Print:CxOk PP cddl_Print:=cxddl_Same.consS [] ddl_Print.fn.enters ddl_Print.ok
def ddl_May.si:Sh:=⟨[(0,.v true [.int .i64,.str,.sl 41 tColumn,.sl 32 (.sl 78 tNode),.str,.str,.str,.int .i64,.int .i64,.sl 78 tNode,.sl 3 (.int .i64),.bool,.sl 66 tAgg])],[],[],0,[]⟩
def ddl_May.so:Sh:=⟨[(0,.v false [.bool])],[],[],1000,[]⟩
def ddl_May.h:H:=.n
noncomputable def ddl_May.B:Int×ByteArray×(List tColumnT)×(List (List tNodeT))×ByteArray×ByteArray×ByteArray×Int×Int×(List tNodeT)×(List Int)×Bool×(List tAggT)×Unit→Option (Bool×Unit):=fun (p0_0,p0_1,p0_2,p0_3,p0_4,p0_5,p0_6,p0_7,p0_8,p0_9,p0_10,p0_11,p0_12,_)=>
 Option.bind (ddl_Print.F (p0_0,p0_1,p0_2,p0_3,p0_4,p0_5,p0_6,p0_7,p0_8,p0_9,p0_10,p0_11,p0_12,())) fun y1=>
 some ((!(y1.1.toList==(⟨#[]⟩:ByteArray).toList)),())
noncomputable def ddl_May.F:=stk ddl_May.B
theorem ddl_May.eq:ddl_May.F=ddl_May.B:=stk_eq _
theorem ddl_May.ev (x:TS ddl_May.si):evF cddl_Print inl0 (Tryz.f33.body.getD .skip) Tryz.f33.results.toList ddl_May.h ddl_May.si ddl_May.so x=ddl_May.B x:=by kernel_rfl
theorem ddl_May.fn:FnOk PP 33 (Tryz.f33.body.getD .skip) Tryz.f33.results.toList Tryz.f33.ntmps:=fnOk_mk (by kernel_rfl) (by kernel_rfl) (by kernel_rfl) (by kernel_rfl)
theorem ddl_May.ok:SpecOk PP 33 ⟨1,ddl_May.si,ddl_May.so,ddl_May.F⟩:=fn_stk cxddl_Print (inl0_ok _ _) mixed ddl_May.fn ddl_May.h (by kernel_rfl) ddl_May.ev
noncomputable def spddl_May:List (Nat×List (Nat×AK)×Lv.Spec):=(33,[],⟨1,ddl_May.si,ddl_May.so,ddl_May.F⟩)::spddl_Print
noncomputable abbrev cddl_May:Cx:=⟨tabAt tab0,eqAt eqs0,specAt spddl_May,159,specPAt sqddl_parser_view⟩
theorem cxddl_May:CxOk PP cddl_May:=cxddl_Print.consS [] ddl_May.fn.enters ddl_May.ok
end Go.Proofs.Ytleadolkcmagfaa
