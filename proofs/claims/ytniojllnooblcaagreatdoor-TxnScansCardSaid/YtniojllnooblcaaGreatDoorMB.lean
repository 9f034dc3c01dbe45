import Derived.Test.YtniojllnooblcaaGreatDoorM7
import Derived.Test.YtniojllnooblcaaGreatDoorM4
import Derived.KernelRfl
import Derived.Test.YtniojllnooblcaaGreatDoorM5
import Derived.Sort.Walk0
import Derived.Test.YtniojllnooblcaaGreatDoorM8
import Derived.Test.YtniojllnooblcaaGreatDoorMA
import Derived.Lay
import Derived.SevenTiedAt
import Derived.Stop.LaidErr
import Derived.Lib.LaidTab
import Derived.Test.YtniojllnooblcaaGreatDoorCards
import Derived.Test.YtniojllnooblcaaGreatDoorTie
import Derived.Test.YtniojllnooblcaaGreatDoorChecked
set_option linter.all false
set_option linter.unusedVariables false
set_option linter.unusedSimpArgs false
set_option linter.unusedSectionVars false
section
set_option maxRecDepth 100000
namespace Go.Proofs.Ytniojllnooblcaa
open Go Lv Go.Proofs Go.RowKit Go.Shelf
abbrev e0:ByteArray:=⟨#[]⟩
/-! ## Small functions -/
theorem bindT_is {α β:Type} {x:Option α} {K:α→Option β} (v:α) (h:x=some v):x.bind K=K v:=by rw [h];rfl
theorem bT_eq (n m:Int):(n==m)=decide (n=m):=by by_cases h:n=m<;>simp [h]
theorem both_same {R:Type} (p:Bool→Option R) (r:Option R) (h1:p true=r) (h0:p false=r):both p=r:=by
  unfold both;rw [h1,h0,if_pos rfl]
theorem clone_all {α:Type} (l:List α) (n:Nat) (hn:1000000000≤n) (hs:l.length≤1000000):
    (bif l.isEmpty then both (fun b1=>(bif b1 then some ([],()) else bif (Nat.ble (([]:List α).length+l.length) n) then some ((([]:List α)++l),()) else none)) else bif (Nat.ble (([]:List α).length+l.length) n) then some ((([]:List α)++l),()) else none)=some (l,()):=by
  have hb:Nat.ble (([]:List α).length+l.length) n=true:=Nat.ble_eq_true_of_le (by simp;omega)
  rw [hb]
  cases l with
  |nil=>
    rw [show ([]:List α).isEmpty=true from rfl,cond_true]
    apply both_same<;>rfl
  |cons a r=>rfl
theorem cRow (l:List tValueT) (h:l.length≤1000):slices_Clone_api_Row_api_Value.F (l,())=some (l,()):=by
  rw [slices_Clone_api_Row_api_Value.eq];exact clone_all l _ (by decide) (by omega)
theorem cReads (l:List tReadT) (h:l.length≤1000):slices_Clone_sl_api_Read_api_Read.F (l,())=some (l,()):=by
  rw [slices_Clone_sl_api_Read_api_Read.eq];exact clone_all l _ (by decide) (by omega)
theorem cRanges (l:List tRangeT) (h:l.length≤1000):slices_Clone_sl_api_Range_api_Range.F (l,())=some (l,()):=by
  rw [slices_Clone_sl_api_Range_api_Range.eq];exact clone_all l _ (by decide) (by omega)
theorem cLooks (l:List tLookT) (h:l.length≤1000):slices_Clone_sl_api_Look_api_Look.F (l,())=some (l,()):=by
  rw [slices_Clone_sl_api_Look_api_Look.eq];exact clone_all l _ (by decide) (by omega)
theorem cWrites (l:List tWriteT) (h:l.length≤1000):slices_Clone_sl_api_Write_api_Write.F (l,())=some (l,()):=by
  rw [slices_Clone_sl_api_Write_api_Write.eq];exact clone_all l _ (by decide) (by omega)
theorem cStmts (l:List tStmtT) (h:l.length≤1000):slices_Clone_sl_api_Stmt_api_Stmt.F (l,())=some (l,()):=by
  rw [slices_Clone_sl_api_Stmt_api_Stmt.eq];exact clone_all l _ (by decide) (by omega)
theorem cTexts (l:List ByteArray) (h:l.length≤1000):slices_Clone_sl_string_string.F (l,())=some (l,()):=by
  rw [slices_Clone_sl_string_string.eq];exact clone_all l _ (by decide) (by omega)
/--a transaction without ranges and looks is copied as it is -/
theorem copied_t (rd:List tReadT) (ws:List tWriteT) (st:List tStmtT) (an:List ByteArray) (h1:rd.length≤1000) (h2:ws.length≤1000) (h3:st.length≤1000) (h4:an.length≤1000)
    (hw:∀w∈ws,w.2.2.length≤1000) (hs:∀s∈st,s.2.2.length≤1000):txn_copied.F (rd,[],[],ws,st,an,())=some (rd,[],[],ws,st,an,()):=by
  rw [txn_copied.eq]
  unfold txn_copied.B
  simp only [cReads rd h1,cRanges [] (by decide),cLooks [] (by decide),Option.bind_some]
  refine (bindT_is (.inl (rd,[],[],())) (by rw [loopM_q];rfl)).trans ?_
  refine (bindT_is (.inl (rd,[],[],())) (by rw [loopM_q];rfl)).trans ?_
  simp only [cWrites ws h2,cStmts st h3,cTexts an h4,Option.bind_some]
  refine (bindT_is (.inl (rd,[],[],ws,st,an,())) (loop_f (fun x=>ws.length-x.1.toNat) (fun x=>∃i:Nat,x=((i:Int),rd,[],[],ws,st,an,())∧i≤ws.length) (fun _=>Sum.inl (rd,[],[],ws,st,an,())) ?_ _ ⟨0,rfl,by omega⟩)).trans ?_
  · rintro _ ⟨i,rfl,hi⟩
    by_cases hlt:i<ws.length
    · refine .inl ⟨(((i+1:Nat):Int),rd,[],[],ws,st,an,()),?_,⟨i+1,rfl,by omega⟩,by show _-Int.toNat _<_-Int.toNat _;rw [Int.toNat_natCast,Int.toNat_natCast];omega,rfl⟩
      have d1:decide ((i:Int)<(ws.length:Int))=true:=by simp;omega
      have d0:decide (0≤(i:Int))=true:=by simp
      have gi:ws.getD i tWrite.z=ws[i]:=getD_at hlt _
      simp only [d1,d0,Bool.and_self,cond_true,Int.toNat_natCast,gi,cRow _ (hw _ (List.getElem_mem hlt)),Option.bind_some,wrap_s hlt (show ws.length<9223372036854775808 by omega)]
      rw [List.set_getElem_self]
    · refine .inr ?_
      have d1:decide ((i:Int)<(ws.length:Int))=false:=by simp;omega
      simp only [d1,cond_false]
  refine (bindT_is (.inl (rd,[],[],ws,st,an,())) (loop_f (fun x=>st.length-x.1.toNat) (fun x=>∃i:Nat,x=((i:Int),rd,[],[],ws,st,an,())∧i≤st.length) (fun _=>Sum.inl (rd,[],[],ws,st,an,())) ?_ _ ⟨0,rfl,by omega⟩)).trans rfl
  · rintro _ ⟨i,rfl,hi⟩
    by_cases hlt:i<st.length
    · refine .inl ⟨(((i+1:Nat):Int),rd,[],[],ws,st,an,()),?_,⟨i+1,rfl,by omega⟩,by show _-Int.toNat _<_-Int.toNat _;rw [Int.toNat_natCast,Int.toNat_natCast];omega,rfl⟩
      have d1:decide ((i:Int)<(st.length:Int))=true:=by simp;omega
      have d0:decide (0≤(i:Int))=true:=by simp
      have gi:st.getD i tStmt.z=st[i]:=getD_at hlt _
      simp only [d1,d0,Bool.and_self,cond_true,Int.toNat_natCast,gi,cRow _ (hs _ (List.getElem_mem hlt)),Option.bind_some,wrap_s hlt (show st.length<9223372036854775808 by omega)]
      rw [List.set_getElem_self]
    · refine .inr ?_
      have d1:decide ((i:Int)<(st.length:Int))=false:=by simp;omega
      simp only [d1,cond_false]
theorem itoa_t (n:Int) (h0:0≤n) (h:n≤1000000):strconv_Itoa.F (n,())=some (itoaB n,()):=by
  rw [strconv_Itoa.eq]
  show (if -9223372036854775808≤n∧n≤9223372036854775807 then some (itoaB n,()) else none)=_
  rw [if_pos (by omega)]
/-! ### nothing there:no records -/
theorem look_t (tb:ByteArray):reads_Look.F ([],tb,())=some (e0,[],()):=by
  rw [reads_Look.eq];unfold reads_Look.B;simp only [];rw [loopM_q];rfl
theorem may_t (n:ByteArray):rel_May.F (n,[],())=some (true,()):=by
  rw [rel_May.eq];unfold rel_May.B;simp only [];rw [loopM_q];rfl
theorem find_t (n:ByteArray) (a b:Int) (c:ByteArray):rel_find.F (n,[],a,b,c,())=some (0,false,()):=by
  rw [rel_find.eq];unfold rel_find.B
  simp only []
  refine (bindT_is (.inl (0,())) (by rw [loopM_q];rfl)).trans rfl
theorem get_t (n:ByteArray) (a b:Int) (c:ByteArray):rel_Get.F (n,[],a,b,c,())=some (0,false,[],()):=by
  rw [rel_Get.eq];unfold rel_Get.B
  simp only [may_t,Option.bind_some,Bool.not_true,cond_false,find_t,Bool.not_false,cond_true]
theorem one_t (tb:ByteArray) (a b:Int) (c:ByteArray):reads_One.F ([],tb,a,b,c,())=some (tb,a,b,c,0,()):=by
  rw [reads_One.eq];unfold reads_One.B
  simp only [look_t,get_t,Option.bind_some]
theorem scan_t (n:ByteArray) (a b:Int) (c:ByteArray) (a' b':Int) (c':ByteArray):(∃v,value_Compare.F (a,b,c,a',b',c',())=some (v,()))→rel_Scan.F (n,[],a,b,c,a',b',c',())=some ([],()):=by
  rintro ⟨v,hv⟩
  rw [rel_Scan.eq];unfold rel_Scan.B
  simp only [may_t,hv,find_t,Option.bind_some,Bool.not_true,cond_false]
  have hsome:rel_some.F ([],())=some ([],()):=by rw [rel_some.eq];unfold rel_some.B;simp only [];rw [loopM_q];rfl
  cases decide (v≥0) with
  |true=>rfl
  |false=>exact (bindT_is ([],()) hsome).trans rfl
/-! ### comparing numbers -/
theorem cmpI_t (a b:Int):cmp_Compare_int.F (a,b,())=some (if a<b then -1 else if a>b then 1 else 0,()):=by
  rw [cmp_Compare_int.eq];unfold cmp_Compare_int.B
  have hn:∀n:Int,cmp_isNaN_int.F (n,())=some (false,()):=fun n=>by rw [cmp_isNaN_int.eq];unfold cmp_isNaN_int.B;simp
  simp only [hn,Option.bind_some,cond_false]
  by_cases h1:a<b
  · simp [h1]
  · by_cases h2:a>b
    · simp [h1,h2]
    · simp [h1,h2]
theorem or3_t (a b c:Int):cmp_Or_int.F ([a,b,c],())=some (if a≠0 then a else if b≠0 then b else c,()):=by
  rw [cmp_Or_int.eq];unfold cmp_Or_int.B
  simp only []
  rw [loop_l0 (fun i (_:Unit)=>(i,())) [a,b,c] (by simp) (fun (e:Int) (_:Unit)=>some (if e≠0 then .inr (e,()) else .inl ())) (fun _=>some (0,())) (by
    intro i hi st
    have d1:decide ((i:Int)<(([a,b,c]:List Int).length:Int))=true:=by rw [decide_eq_true_eq];omega
    have d0:decide (0≤(i:Int))=true:=by simp
    simp only [d1,d0,Bool.and_self,cond_true,Int.toNat_natCast,getD_at hi,wrap_s hi (show ([a,b,c]:List Int).length<9223372036854775808 by simp)]
    by_cases h:([a,b,c]:List Int)[i]=0
    · simp [h]
    · have:(([a,b,c]:List Int)[i] !=0)=true:=by simpa using h
      rw [this];simp [h]) (by
    intro st
    rfl) ()]
  simp only [foldS]
  by_cases h1:a=0
  · by_cases h2:b=0
    · by_cases h3:c=0
      · simp [h1,h2,h3]
      · simp [h1,h2,h3]
    · simp [h1,h2]
  · simp [h1]
theorem cmpV_t (a b:Int) (s:ByteArray) (a' b':Int) (s':ByteArray):∃v,value_Compare.F (a,b,s,a',b',s',())=some (v,()):=by
  rw [value_Compare.eq];unfold value_Compare.B
  have hs:∀s s',strings_Compare.F (s,s',())=some (cmpB s s',()):=fun s s'=>by rw [strings_Compare.eq];rfl
  simp only [cmpI_t,hs,or3_t,Option.bind_some]
  exact ⟨_,rfl⟩
theorem cmpN_t (a b:Int):value_Compare.F (2,a,e0,2,b,e0,())=some (if a<b then -1 else if a>b then 1 else 0,()):=by
  rw [value_Compare.eq];unfold value_Compare.B
  have hs:∀s s',strings_Compare.F (s,s',())=some (cmpB s s',()):=fun s s'=>by rw [strings_Compare.eq];rfl
  simp only [cmpI_t,hs,or3_t,Option.bind_some]
  have h0:cmpB e0 e0=0:=by kernel_rfl
  rw [h0]
  by_cases h1:a<b
  · simp [h1];rfl
  · by_cases h2:a>b
    · simp [h1,h2];rfl
    · simp [h1,h2];rfl
end Go.Proofs.Ytniojllnooblcaa
end
section
set_option maxRecDepth 100000
namespace Go.Proofs.Ytniojllnooblcaa
open Go Lv Go.Proofs Go.RowKit Go.Shelf
abbrev Col:=tColumnT
abbrev Agg:=tAggT
/-! ## A name's place -/
def nameP (d:tDefT):ByteArray:=if d.1=0 then d.2.1.1 else d.2.2.1
theorem sname_s (k:Int) (tn:ByteArray) (c:List Col) (ck:List (List tNodeT)) (vn vf vw:ByteArray) (o1 o2:Int) (wh:List tNodeT) (pk:List Int) (gr:Bool) (ag:List Agg):schema_Name.F (k,tn,c,ck,vn,vf,vw,o1,o2,wh,pk,gr,ag,())=some (nameP (k,((tn,(c,ck)),(vn,(vf,(vw,((o1,o2),(wh,(pk,(gr,ag))))))))),()):=by
  rw [schema_Name.eq];unfold schema_Name.B;by_cases h:k=0<;>simp [nameP,bT_eq,h]
def fndN (nm:ByteArray):List tDefT→Nat→Int
  | [],_=>-1
  |d::r,i=>if nameP d=nm then i else fndN nm r (i+1)
def find (l:List tDefT) (nm:ByteArray):Int:=fndN nm l 0
theorem find_s (l:List tDefT) (nm:ByteArray) (hl:l.length<1000000000000000):schema_Find.F (l,nm,())=some (find l nm,()):=by
  rw [schema_Find.eq]
  unfold schema_Find.B
  have hf:∀(l:List tDefT) (i:Nat),foldT (fun (d:tDefT) (i:Nat)=>if nameP d=nm then (.inr ((i:Int),()):Nat⊕(Int×Unit)) else .inl (i+1)) (fun _=>((-1:Int),())) l i=(fndN nm l i,()):=by
    intro l
    induction l with
    |nil=>intro i;rfl
    |cons d r ih=>
      intro i
      simp only [foldT,fndN]
      by_cases h:nameP d=nm
      · rw [if_pos h,if_pos h]
      · rw [if_neg h,if_neg h];exact ih _
  refine (loop_T (fun i (_:Nat)=>(i,())) l (fun i st=>st=i) (fun (d:tDefT) (i:Nat)=>if nameP d=nm then (.inr ((i:Int),()):Nat⊕(Int×Unit)) else .inl (i+1)) (fun _=>((-1:Int),())) ?_ ?_ 0 rfl).trans (congrArg some (hf l 0))
  · intro i hi st hst
    rw [hst]
    have d1:decide ((i:Int)<(l.length:Int))=true:=by simp;omega
    have d0:decide (0≤(i:Int))=true:=by simp
    simp only [d1,d0,Bool.and_self,cond_true,Int.toNat_natCast,getD_at hi,wrap_s hi (show l.length<9223372036854775808 by omega),sname_s,Option.bind_some,beq_bytes]
    rw [show nameP (l[i].1,((l[i].2.1.1,(l[i].2.1.2.1,l[i].2.1.2.2)),(l[i].2.2.1,(l[i].2.2.2.1,(l[i].2.2.2.2.1,((l[i].2.2.2.2.2.1.1,l[i].2.2.2.2.2.1.2),(l[i].2.2.2.2.2.2.1,(l[i].2.2.2.2.2.2.2.1,(l[i].2.2.2.2.2.2.2.2.1,l[i].2.2.2.2.2.2.2.2.2)))))))))=nameP l[i] from rfl]
    by_cases h:nameP l[i]=nm
    · simp [h]
    · simp [h]
  · intro st hst
    have d1:decide ((l.length:Int)<(l.length:Int))=false:=by simp
    simp only [d1,cond_false]
/-! ## The law's catalog,and statements -/
abbrev iv (n:Int):tValueT:=(2,(n,e0))
def cat1:List tDefT:=[(0,(((⟨#[116]⟩:ByteArray),([((⟨#[107]⟩:ByteArray),(2,(false,(false,(e0,0))))),((⟨#[97]⟩:ByteArray),(2,(false,(false,(e0,0)))))],[])),(e0,(e0,(e0,((0,0),([],([],(false,[])))))))))]
theorem one_cat:L21_one.F ()=some (cat1,()):=by rw [L21_one.eq];rfl
theorem int_t (n:Int):R01_Int.F (n,())=some (2,n,e0,()):=by rw [R01_Int.eq];rfl
theorem get_st (n:Int):L21_get.F (n,())=some (0,(⟨#[116]⟩:ByteArray),[iv n],()):=by
  rw [L21_get.eq];unfold L21_get.B;simp only [int_t,Option.bind_some]
theorem put_st (n m:Int):L21_put.F (n,m,())=some (2,(⟨#[116]⟩:ByteArray),[iv n,iv m],()):=by
  rw [L21_put.eq];unfold L21_put.B;simp only [int_t,Option.bind_some]
theorem find1:schema_Find.F (cat1,(⟨#[116]⟩:ByteArray),())=some (0,()):=(find_s cat1 (⟨#[116]⟩:ByteArray) (by decide)).trans (by kernel_rfl)
theorem vint (n:Int):value_May.F (2,n,e0,())=some (true,()):=by
  rw [value_May.eq];unfold value_May.B;simp [beq_bytes]
theorem rmay (l:List tValueT) (hl:l.length≤40) (h:∀x∈l,value_May.F (x.1,x.2.1,x.2.2,())=some (true,())):row_May.F (l,())=some (true,()):=by
  rw [row_May.eq];unfold row_May.B
  have d:decide ((l.length:Int)≤40)=true:=by simp;omega
  simp only [d,cond_true]
  refine loop_f (fun x=>l.length-x.1.toNat) (fun x=>∃i:Nat,x=((i:Int),())∧i≤l.length) (fun _=>(true,())) ?_ _ ⟨0,rfl,by omega⟩
  rintro _ ⟨i,rfl,hi⟩
  by_cases hlt:i<l.length
  · refine .inl ⟨(((i+1:Nat):Int),()),?_,⟨i+1,rfl,by omega⟩,by show _-Int.toNat _<_-Int.toNat _;rw [Int.toNat_natCast,Int.toNat_natCast];omega,rfl⟩
    have d1:decide ((i:Int)<(l.length:Int))=true:=by simp;omega
    have d0:decide (0≤(i:Int))=true:=by simp
    have gi:l.getD i tValue.z=l[i]:=getD_at hlt _
    have hx:=h _ (List.getElem_mem hlt)
    have hr:row_May_1.F (l[i].1,l[i].2.1,l[i].2.2,())=some (false,()):=by
      rw [row_May_1.eq];unfold row_May_1.B;simp only [hx,Option.bind_some];rfl
    simp only [d1,d0,Bool.and_self,cond_true,Int.toNat_natCast,gi,hr,Option.bind_some,cond_false,wrap_s hlt (show l.length<9223372036854775808 by omega)]
  · refine .inr ?_
    have d1:decide ((i:Int)<(l.length:Int))=false:=by simp;omega
    simp only [d1,cond_false];rfl
theorem wrong0 (x:tValueT):txn_wrong.F (cat1,0,(⟨#[116]⟩:ByteArray),[x],())=some (0,()):=by
  rw [txn_wrong.eq];unfold txn_wrong.B;simp only [find1,Option.bind_some];rfl
theorem wrong4 (x:tValueT):txn_wrong.F (cat1,4,(⟨#[116]⟩:ByteArray),[x],())=some (0,()):=by
  rw [txn_wrong.eq];unfold txn_wrong.B;simp only [find1,Option.bind_some];rfl
theorem wrong1 (x y:tValueT):txn_wrong.F (cat1,1,(⟨#[116]⟩:ByteArray),[x,y],())=some (0,()):=by
  rw [txn_wrong.eq];unfold txn_wrong.B;simp only [find1,Option.bind_some];rfl
theorem wrong5:txn_wrong.F (cat1,5,(⟨#[116]⟩:ByteArray),[],())=some (212,()):=by
  rw [txn_wrong.eq];unfold txn_wrong.B
  refine (bindT_is _ find1).trans ?_
  rfl
theorem wrong2 (n m:Int):txn_wrong.F (cat1,2,(⟨#[116]⟩:ByteArray),[iv n,iv m],())=some (0,()):=by
  have hm:row_May.F ([iv n,iv m],())=some (true,()):=rmay _ (by simp) (fun x hx=>by
    simp only [List.mem_cons,List.not_mem_nil,or_false] at hx
    rcases hx with rfl|rfl<;>exact vint _)
  rw [txn_wrong.eq];unfold txn_wrong.B;simp only [find1,hm,Option.bind_some];rfl
theorem failed_t (n:Int) (h0:0≤n) (h:n≤300):(itoaB n).size≤3→txn_failed.F (n,())=some ((⟨#[101,114,114,111,114,32]⟩:ByteArray)++itoaB n,()):=fun hs=>by
  rw [txn_failed.eq];unfold txn_failed.B
  refine (bindT_is (itoaB n,()) (itoa_t n h0 (by omega))).trans ?_
  have:(!decide ((((⟨#[101,114,114,111,114,32]⟩:ByteArray).size+(itoaB n).size:Nat):Int)>IntKind.i64.max))=true:=by
    have h1:(⟨#[101,114,114,111,114,32]⟩:ByteArray).size=6:=rfl
    have h2:IntKind.i64.max=9223372036854775807:=by decide
    rw [h1,h2];simp;omega
  show (bif (!decide ((((⟨#[101,114,114,111,114,32]⟩:ByteArray).size+(itoaB n).size:Nat):Int)>IntKind.i64.max)) then _ else _)=_
  rw [this];rfl
/-! ## Writes of a key -/
theorem own0 (tb:ByteArray) (k:tValueT):txn_Own.F ([],tb,k.1,k.2.1,k.2.2,())=some (false,()):=by
  rw [txn_Own.eq];unfold txn_Own.B;simp only [];rw [loopM_q];rfl
theorem own0_o (tb:ByteArray) (k:tValueT):txn_Own_o.F (tb,k.1,k.2.1,k.2.2,[],())=some (false,[],()):=by
  rw [txn_Own_o.eq];unfold txn_Own_o.B;simp only [];rw [loopM_q];rfl
theorem own1 (w:tWriteT) (tb:ByteArray) (k:tValueT):txn_Own.F ([w],tb,k.1,k.2.1,k.2.2,())=some (ofP w tb k,()):=by
  rw [txn_Own.eq];unfold txn_Own.B;simp only [];rw [loopM_q]
  have ho:=of_t w tb k
  have g:List.getD [w] (Int.toNat 0) tWrite.z=w:=rfl
  simp only [List.length_cons,List.length_nil,g,ho,Option.bind_some]
  cases ofP w tb k with
  |true=>rfl
  |false=>
    show loopM _ _=_
    rw [loopM_q];rfl
theorem own1_o (w:tWriteT) (tb:ByteArray) (k:tValueT):txn_Own_o.F (tb,k.1,k.2.1,k.2.2,[w],())=some (ofP w tb k,[w],()):=by
  rw [txn_Own_o.eq];unfold txn_Own_o.B;simp only [];rw [loopM_q]
  have ho:=of_t w tb k
  have g:List.getD [w] (Int.toNat 0) tWrite.z=w:=rfl
  simp only [List.length_cons,List.length_nil,g,ho,Option.bind_some]
  cases ofP w tb k with
  |true=>rfl
  |false=>
    show loopM _ _=_
    rw [loopM_q];rfl
/-! ## A row of nothing but writes -/
def rowR (ws:List tWriteT) (tb:ByteArray) (k:tValueT):Bool×List tValueT:=match lastW ws tb k with
  |some w=>hitP w
  |none=>(false,[])
theorem rowP_t (ws:List tWriteT) (tb:ByteArray) (k:tValueT) (h:∀w∈ws,w.2.2.length≤1000):rowP [] ws tb k=some (rowR ws tb k):=by
  unfold rowP rowR
  have ha:ws.all (fun w=>Nat.ble w.2.2.length 4398046511104)=true:=List.all_eq_true.2 fun w hw=>Nat.ble_eq_true_of_le (Nat.le_trans (h w hw) (by decide))
  rw [ha,cond_true]
  cases lastW ws tb k with
  |some w=>rfl
  |none=>simp only [look_t,get_t,Option.bind_some]
theorem row_t (ws:List tWriteT) (tb:ByteArray) (k:tValueT) (hl:ws.length≤1000) (h:∀w∈ws,w.2.2.length≤1000):txn_Row.F ([],ws,tb,k.1,k.2.1,k.2.2,())=some ((rowR ws tb k).1,(rowR ws tb k).2,()):=by
  rw [txn_Row.eq]
  show txnRowF ([],ws,tb,k.1,k.2.1,k.2.2,())=_
  unfold txnRowF
  simp only []
  rw [show Nat.ble ws.length 140737488351=true from Nat.ble_eq_true_of_le (by omega),cond_true,show (k.1,(k.2.1,k.2.2))=k from rfl,rowP_t ws tb k h]
  rfl
theorem row_to (ws:List tWriteT) (tb:ByteArray) (k:tValueT) (hl:ws.length≤1000) (h:∀w∈ws,w.2.2.length≤1000):txn_Row_o.F ([],tb,k.1,k.2.1,k.2.2,ws,())=some ((rowR ws tb k).1,ws,(rowR ws tb k).2,()):=by
  rw [txn_Row_o.eq]
  show txnRowO ([],tb,k.1,k.2.1,k.2.2,ws,())=_
  unfold txnRowO
  simp only []
  rw [show Nat.ble ws.length 140737488351=true from Nat.ble_eq_true_of_le (by omega),cond_true,show (k.1,(k.2.1,k.2.2))=k from rfl,rowP_t ws tb k h]
  rfl
end Go.Proofs.Ytniojllnooblcaa
end
section
set_option maxRecDepth 100000
namespace Go.Proofs.Ytniojllnooblcaa
open Go Lv Go.Proofs Go.RowKit Go.Shelf
abbrev Rd:=List tReadT
theorem bind_to {α β:Type} {x:Option α} {K:α→Option β} {r:Option β} (v:α) (h:x=some v) (g:K v=r):x.bind K=r:=by rw [h];exact g
theorem ble_of {a b:Nat} (h:a≤b):Nat.ble a b=true:=Nat.ble_eq_true_of_le h
theorem one_k (tb:ByteArray) (k:tValueT):reads_One.F ([],tb,k.1,k.2.1,k.2.2,())=some (tb,k.1,k.2.1,k.2.2,0,()):=one_t _ _ _ _
/--a key of which there is no write of ours -/
theorem see_no (ws:List tWriteT) (tb:ByteArray) (k:tValueT) (rd:Rd) (rg:List tRangeT) (st:List tStmtT) (an:List ByteArray) (hr:rd.length≤1000) (hl:ws.length≤1000) (h:∀w∈ws,w.2.2.length≤1000)
    (ho:txn_Own_o.F (tb,k.1,k.2.1,k.2.2,ws,())=some (false,ws,())) (hn:rowR ws tb k=(false,[])):
    txn_doer_see.F (tb,k.1,k.2.1,k.2.2,[],[],rd,rg,[],ws,st,an,())=some (false,[],[],rd++ [(tb,(k,0))],rg,[],ws,st,an,[],()):=by
  rw [txn_doer_see.eq];unfold txn_doer_see.B
  refine bind_to _ ho ?_
  refine bind_to _ (one_k tb k) ?_
  have hb:Nat.ble (rd.length+1) 2513169434916=true:=ble_of (by omega)
  show (bif Nat.ble (rd.length+1) 2513169434916 then _ else _)=_
  rw [hb,cond_true]
  refine bind_to _ (row_to ws tb k hl h) ?_
  rw [hn]
/--a key that is ours -/
theorem see_own (ws:List tWriteT) (tb:ByteArray) (k:tValueT) (rd:Rd) (rg:List tRangeT) (st:List tStmtT) (an:List ByteArray) (hl:ws.length≤1000) (h:∀w∈ws,w.2.2.length≤1000)
    (ho:txn_Own_o.F (tb,k.1,k.2.1,k.2.2,ws,())=some (true,ws,())):
    txn_doer_see.F (tb,k.1,k.2.1,k.2.2,[],[],rd,rg,[],ws,st,an,())=some ((rowR ws tb k).1,[],[],rd,rg,[],ws,st,an,(rowR ws tb k).2,()):=by
  rw [txn_doer_see.eq];unfold txn_doer_see.B
  refine bind_to _ ho ?_
  refine bind_to _ (row_to ws tb k hl h) ?_
  rfl
/-! ## A statement -/
theorem do_none (tb:ByteArray) (k:tValueT) (ws:List tWriteT) (rd rd':Rd) (rg:List tRangeT) (st:List tStmtT) (an:List ByteArray)
    (hs:txn_doer_see.F (tb,k.1,k.2.1,k.2.2,[],[],rd,rg,[],ws,st,an,())=some (false,[],[],rd',rg,[],ws,st,an,[],())):
    txn_doer_do.F (0,tb,[k],[],[],rd,rg,[],ws,st,an,())=some ((⟨#[110,111,110,101]⟩:ByteArray),[],[],rd',rg,[],ws,st,an,()):=by
  rw [txn_doer_do.eq];unfold txn_doer_do.B
  refine bind_to (.inl ()) rfl ?_
  refine bind_to _ hs ?_
  rfl
theorem do_get (tb:ByteArray) (k:tValueT) (row:List tValueT) (tx:ByteArray) (ws:List tWriteT) (rd rd':Rd) (rg:List tRangeT) (st:List tStmtT) (an:List ByteArray)
    (hs:txn_doer_see.F (tb,k.1,k.2.1,k.2.2,[],[],rd,rg,[],ws,st,an,())=some (true,[],[],rd',rg,[],ws,st,an,row,())) (ht:row_Text.F (row,())=some (tx,())):
    txn_doer_do.F (0,tb,[k],[],[],rd,rg,[],ws,st,an,())=some (tx,[],[],rd',rg,[],ws,st,an,()):=by
  rw [txn_doer_do.eq];unfold txn_doer_do.B
  refine bind_to (.inl ()) rfl ?_
  refine bind_to _ hs ?_
  refine bind_to (.inr (tx,[],[],rd',rg,[],ws,st,an,())) ?_ rfl
  refine bind_to (.inl (true,())) rfl ?_
  exact bind_to _ ht rfl
theorem do_put (tb:ByteArray) (k x:tValueT) (ws:List tWriteT) (rd rd':Rd) (rg:List tRangeT) (st:List tStmtT) (an:List ByteArray) (hl:ws.length≤1000)
    (hs:txn_doer_see.F (tb,k.1,k.2.1,k.2.2,[],[],rd,rg,[],ws,st,an,())=some (false,[],[],rd',rg,[],ws,st,an,[],())):
    txn_doer_do.F (2,tb,[k,x],[],[],rd,rg,[],ws,st,an,())=some ((⟨#[111,107]⟩:ByteArray),[],[],rd',rg,[],ws++ [(tb,(false,[k,x]))],st,an,()):=by
  rw [txn_doer_do.eq];unfold txn_doer_do.B
  refine bind_to (.inl ()) rfl ?_
  refine bind_to _ hs ?_
  refine bind_to (.inl ()) ?_ ?_
  · exact bind_to (.inl (false,())) rfl rfl
  refine bind_to _ (cRow [k,x] (by simp)) ?_
  have hb:Nat.ble (ws.length+1) 2932031007402=true:=ble_of (by omega)
  show (bif Nat.ble (ws.length+1) 2932031007402 then _ else _)=_
  rw [hb,cond_true]
  rfl
theorem do_twice (tb:ByteArray) (k x:tValueT) (row:List tValueT) (ws:List tWriteT) (rd rd':Rd) (rg:List tRangeT) (st:List tStmtT) (an:List ByteArray) (tx:ByteArray)
    (hs:txn_doer_see.F (tb,k.1,k.2.1,k.2.2,[],[],rd,rg,[],ws,st,an,())=some (true,[],[],rd',rg,[],ws,st,an,row,())) (hf:txn_failed.F (210,())=some (tx,())):
    txn_doer_do.F (2,tb,[k,x],[],[],rd,rg,[],ws,st,an,())=some (tx,[],[],rd',rg,[],ws,st,an,()):=by
  rw [txn_doer_do.eq];unfold txn_doer_do.B
  refine bind_to (.inl ()) rfl ?_
  refine bind_to _ hs ?_
  refine bind_to (.inr (tx,[],[],rd',rg,[],ws,st,an,())) ?_ rfl
  refine bind_to (.inl (false,())) rfl ?_
  exact bind_to _ hf rfl
theorem do_cutno (tb:ByteArray) (k:tValueT) (ws:List tWriteT) (rd rd':Rd) (rg:List tRangeT) (st:List tStmtT) (an:List ByteArray) (tx:ByteArray)
    (hs:txn_doer_see.F (tb,k.1,k.2.1,k.2.2,[],[],rd,rg,[],ws,st,an,())=some (false,[],[],rd',rg,[],ws,st,an,[],())) (hf:txn_failed.F (211,())=some (tx,())):
    txn_doer_do.F (4,tb,[k],[],[],rd,rg,[],ws,st,an,())=some (tx,[],[],rd',rg,[],ws,st,an,()):=by
  rw [txn_doer_do.eq];unfold txn_doer_do.B
  refine bind_to (.inl ()) rfl ?_
  refine bind_to _ hs ?_
  refine bind_to (.inr (tx,[],[],rd',rg,[],ws,st,an,())) ?_ rfl
  refine bind_to (.inl (false,())) rfl ?_
  exact bind_to _ hf rfl
/-! ## A transaction's step -/
theorem step_ok (rd:Rd) (ws:List tWriteT) (st:List tStmtT) (an:List ByteArray) (k:Int) (tb:ByteArray) (row:List tValueT) (ans:ByteArray) (rd':Rd) (rg':List tRangeT) (ws':List tWriteT) (h1:rd.length≤1000) (h2:ws.length≤1000) (h3:st.length<50) (h4:an.length≤1000)
    (hw:∀w∈ws,w.2.2.length≤1000) (hs:∀s∈st,s.2.2.length≤1000) (hr:row.length≤1000) (hwr:txn_wrong.F (cat1,k,tb,row,())=some (0,()))
    (hd:txn_doer_do.F (k,tb,row,[],[],rd,[],[],ws,st,an,())=some (ans,[],[],rd',rg',[],ws',st,an,())):
    txn_Do.F (cat1,[],[],rd,[],[],ws,st,an,k,tb,row,())=some (ans,rd',rg',[],ws',st++ [(k,(tb,row))],an++ [ans],()):=by
  rw [txn_Do.eq];unfold txn_Do.B
  refine bind_to _ (copied_t rd ws st an h1 h2 (by omega) h4 hw hs) ?_
  have d1:decide ((st.length:Int)≥50)=false:=by simp;omega
  show (bif decide ((st.length:Int)≥50) then _ else _)=_
  rw [d1,cond_false]
  refine bind_to (.inl (ans,[],[],rd',rg',[],ws',st,an,())) ?_ ?_
  · refine bind_to _ hwr ?_
    exact bind_to _ hd rfl
  refine bind_to _ (cRow row hr) ?_
  have b1:Nat.ble (st.length+1) 2932031007402=true:=ble_of (by omega)
  have b2:Nat.ble (an.length+1) 8796093022208=true:=ble_of (by omega)
  show (bif Nat.ble (st.length+1) 2932031007402 then (bif Nat.ble (an.length+1) 8796093022208 then _ else _) else _)=_
  rw [b1,b2];rfl
theorem step_wrong (rd:Rd) (ws:List tWriteT) (st:List tStmtT) (an:List ByteArray) (k:Int) (tb:ByteArray) (row:List tValueT) (e:Int) (ans:ByteArray) (h1:rd.length≤1000) (h2:ws.length≤1000) (h3:st.length<50) (h4:an.length≤1000)
    (hw:∀w∈ws,w.2.2.length≤1000) (hs:∀s∈st,s.2.2.length≤1000) (hr:row.length≤1000) (hwr:txn_wrong.F (cat1,k,tb,row,())=some (e,())) (he:(e !=0)=true) (hf:txn_failed.F (e,())=some (ans,())):
    txn_Do.F (cat1,[],[],rd,[],[],ws,st,an,k,tb,row,())=some (ans,rd,[],[],ws,st++ [(k,(tb,row))],an++ [ans],()):=by
  rw [txn_Do.eq];unfold txn_Do.B
  refine bind_to _ (copied_t rd ws st an h1 h2 (by omega) h4 hw hs) ?_
  have d1:decide ((st.length:Int)≥50)=false:=by simp;omega
  show (bif decide ((st.length:Int)≥50) then _ else _)=_
  rw [d1,cond_false]
  refine bind_to (.inl (ans,[],[],rd,[],[],ws,st,an,())) ?_ ?_
  · refine bind_to _ hwr ?_
    show (bif (e !=0) then _ else _)=_
    rw [he,cond_true]
    exact bind_to _ hf rfl
  refine bind_to _ (cRow row hr) ?_
  have b1:Nat.ble (st.length+1) 2932031007402=true:=ble_of (by omega)
  have b2:Nat.ble (an.length+1) 8796093022208=true:=ble_of (by omega)
  show (bif Nat.ble (st.length+1) 2932031007402 then (bif Nat.ble (an.length+1) 8796093022208 then _ else _) else _)=_
  rw [b1,b2];rfl
theorem step_full (rd:Rd) (ws:List tWriteT) (st:List tStmtT) (an:List ByteArray) (k:Int) (tb:ByteArray) (row:List tValueT) (ans:ByteArray) (h1:rd.length≤1000) (h2:ws.length≤1000) (h3:st.length=50) (h4:an.length≤1000)
    (hw:∀w∈ws,w.2.2.length≤1000) (hs:∀s∈st,s.2.2.length≤1000) (hf:txn_failed.F (213,())=some (ans,())):
    txn_Do.F (cat1,[],[],rd,[],[],ws,st,an,k,tb,row,())=some (ans,rd,[],[],ws,st,an,()):=by
  rw [txn_Do.eq];unfold txn_Do.B
  refine bind_to _ (copied_t rd ws st an h1 h2 (by omega) h4 hw hs) ?_
  have d1:decide ((st.length:Int)≥50)=true:=by simp;omega
  show (bif decide ((st.length:Int)≥50) then _ else _)=_
  rw [d1,cond_true]
  exact bind_to _ hf rfl
end Go.Proofs.Ytniojllnooblcaa
end
section
set_option maxRecDepth 100000
namespace Go.Proofs.Ytniojllnooblcaa
open Go Lv Go.Proofs Go.RowKit Go.Shelf
theorem loop_go {S R:Type} {body:S→Option (S⊕R)} {s:S} {r:Option R} (s':S) (h:body s=some (.inl s')) (g:loopM body s'=r):loopM body s=r:=by rw [loopM_q,h];exact g
theorem loop_out {S R:Type} {body:S→Option (S⊕R)} {s:S} (r:R) (h:body s=some (.inr r)):loopM body s=some r:=by rw [loopM_q,h]
abbrev tt:ByteArray:=(⟨#[116]⟩:ByteArray)
abbrev W1:tWriteT:=(tt,(false,[iv 1,iv 5]))
theorem vtext (n:Int) (h0:0≤n) (h:n≤1000000):value_Text.F (2,n,e0,())=some (itoaB n,()):=by
  rw [value_Text.eq];unfold value_Text.B
  exact bind_to _ (itoa_t n h0 h) rfl
theorem joinB15:joinB [itoaB 1,itoaB 5] (⟨#[44,32]⟩:ByteArray)=(⟨#[49,44,32,53]⟩:ByteArray):=by kernel_rfl
theorem join15:strings_Join.F ([itoaB 1,itoaB 5],(⟨#[44,32]⟩:ByteArray),())=some ((⟨#[49,44,32,53]⟩:ByteArray),()):=by
  rw [strings_Join.eq]
  show (if ([itoaB 1,itoaB 5]:List ByteArray).length≤140737488355328∧(joinB [itoaB 1,itoaB 5] (⟨#[44,32]⟩:ByteArray)).size≤140737488355328 then some (joinB [itoaB 1,itoaB 5] (⟨#[44,32]⟩:ByteArray),()) else none)=_
  rw [joinB15,if_pos (by refine ⟨?_,?_⟩<;>decide)]
theorem text15:row_Text.F ([iv 1,iv 5],())=some ((⟨#[40,49,44,32,53,41]⟩:ByteArray),()):=by
  rw [row_Text.eq];unfold row_Text.B
  refine bind_to (.inl ([itoaB 1,itoaB 5],())) ?_ ?_
  · refine loop_go ((1:Int),[itoaB 1],()) (bind_to _ (vtext 1 (by decide) (by decide)) rfl) ?_
    refine loop_go ((2:Int),[itoaB 1,itoaB 5],()) (bind_to _ (vtext 5 (by decide) (by decide)) rfl) ?_
    exact loop_out _ rfl
  · exact bind_to _ join15 (by kernel_rfl)
theorem between_t (tb:ByteArray) (a b:Int) (c:ByteArray) (a' b':Int) (c':ByteArray):reads_Between.F ([],tb,a,b,c,a',b',c',())=some (tb,a,b,c,a',b',c',[],()):=by
  rw [reads_Between.eq];unfold reads_Between.B
  refine bind_to (.inl (tb,a,b,c,a',b',c',[],())) ?_ rfl
  refine bind_to _ (look_t tb) ?_
  refine bind_to _ (scan_t e0 a b c a' b' c' (cmpV_t a b c a' b' c')) ?_
  exact loop_out _ rfl
theorem cmpX (x:tValueT):cmpOf tValue value_Compare.F x x=some 0:=by
  obtain ⟨a,b,c⟩:=x
  have hs:strings_Compare.F (c,c,())=some (0,()):=by
    rw [strings_Compare.eq]
    show some (cmpB c c,())=_
    have:cmpB c c=0:=by
      unfold cmpB
      induction c.data.toList with
      |nil=>rfl
      |cons x r ih=>simp [Lib.compareBytes,ih]
    rw [this]
  have h:value_Compare.F (a,b,c,a,b,c,())=some (0,()):=by
    rw [value_Compare.eq];unfold value_Compare.B
    refine bind_to _ (cmpI_t a a) ?_
    refine bind_to _ (cmpI_t b b) ?_
    refine bind_to _ hs ?_
    refine bind_to _ (or3_t _ _ _) ?_
    simp
  show ((value_Compare.F (a,b,c,a,b,c,())).map fun p=>p.1)=_
  rw [h];rfl
theorem sort1 (x:tValueT):slices_SortFunc_sl_api_Value_api_Value.F ([x],())=some ([x],()):=by
  rw [slices_SortFunc_sl_api_Value_api_Value.eq]
  show sortL (cmpOf tValue value_Compare.F) ([x],())=_
  refine sortL_some ⟨by simp,fun _ _=>0,?_,by simp,by simp,by simp,?_,List.Perm.refl _,by simp⟩
  · intro a ha b hb
    rw [List.mem_singleton.1 ha,List.mem_singleton.1 hb]
    exact cmpX x
  · intro a ha b hb _ _
    rw [List.mem_singleton.1 ha,List.mem_singleton.1 hb]
theorem compact1 (x:tValueT):slices_Compact_sl_api_Value_api_Value.F ([x],())=some ([x],()):=by
  rw [slices_Compact_sl_api_Value_api_Value.eq];rfl
theorem rowR1:rowR [W1] tt (iv 1)=(true,[iv 1,iv 5]):=by kernel_rfl
theorem rowR2:rowR [W1] tt (iv 2)=(false,[]):=by kernel_rfl
theorem rowR0 (k:tValueT):rowR [] tt k=(false,[]):=rfl
theorem of1:ofP W1 tt (iv 1)=true:=by kernel_rfl
theorem of2:ofP W1 tt (iv 2)=false:=by kernel_rfl
theorem W1len:∀w∈ [W1],w.2.2.length≤1000:=fun w hw=>by rw [List.mem_singleton.1 hw];decide
theorem rows_o1:txn_Rows_o.F ([],tt,2,0,e0,2,9,e0,[W1],())=some ([W1],[[iv 1,iv 5]],()):=by
  rw [txn_Rows_o.eq];unfold txn_Rows_o.B
  refine bind_to (.inl ([],())) ?_ ?_
  · refine bind_to _ (look_t tt) ?_
    refine bind_to _ (scan_t e0 2 0 e0 2 9 e0 (cmpV_t 2 0 e0 2 9 e0)) ?_
    exact loop_out _ rfl
  refine bind_to (.inl ([iv 1],())) ?_ ?_
  · refine loop_go ((1:Int),[iv 1],()) ?_ (loop_out _ rfl)
    refine bind_to (.inl (true,())) ?_ rfl
    show (bif (tt.toList==tt.toList) then _ else some (Sum.inl (false,())))=_
    rw [beq_self_eq_true,cond_true]
    refine bind_to _ (cmpN_t 1 0) ?_
    exact bind_to _ (cmpN_t 1 9) rfl
  refine bind_to _ (sort1 (iv 1)) ?_
  refine bind_to _ (compact1 (iv 1)) ?_
  refine loop_go ((1:Int),[[iv 1,iv 5]],[W1],()) ?_ (loop_out _ rfl)
  have hr:=row_to [W1] tt (iv 1) (by decide) W1len
  rw [rowR1] at hr
  exact bind_to _ hr rfl
theorem rows_1:txn_Rows.F ([],[W1],tt,2,0,e0,2,9,e0,())=some ([[iv 1,iv 5]],()):=by
  rw [txn_Rows.eq];unfold txn_Rows.B
  refine bind_to (.inl ([],())) ?_ ?_
  · refine bind_to _ (look_t tt) ?_
    refine bind_to _ (scan_t e0 2 0 e0 2 9 e0 (cmpV_t 2 0 e0 2 9 e0)) ?_
    exact loop_out _ rfl
  refine bind_to (.inl ([iv 1],())) ?_ ?_
  · refine loop_go ((1:Int),[iv 1],()) ?_ (loop_out _ rfl)
    refine bind_to (.inl (true,())) ?_ rfl
    show (bif (tt.toList==tt.toList) then _ else some (Sum.inl (false,())))=_
    rw [beq_self_eq_true,cond_true]
    refine bind_to _ (cmpN_t 1 0) ?_
    exact bind_to _ (cmpN_t 1 9) rfl
  refine bind_to _ (sort1 (iv 1)) ?_
  refine bind_to _ (compact1 (iv 1)) ?_
  refine loop_go ((1:Int),[[iv 1,iv 5]],()) ?_ (loop_out _ rfl)
  have hr:=row_t [W1] tt (iv 1) (by decide) W1len
  rw [rowR1] at hr
  exact bind_to _ hr rfl
theorem joinB1:joinB [(⟨#[40,49,44,32,53,41]⟩:ByteArray)] (⟨#[32]⟩:ByteArray)=(⟨#[40,49,44,32,53,41]⟩:ByteArray):=by kernel_rfl
theorem join1:strings_Join.F ([(⟨#[40,49,44,32,53,41]⟩:ByteArray)],(⟨#[32]⟩:ByteArray),())=some ((⟨#[40,49,44,32,53,41]⟩:ByteArray),()):=by
  rw [strings_Join.eq]
  show (if ([(⟨#[40,49,44,32,53,41]⟩:ByteArray)]:List ByteArray).length≤140737488355328∧(joinB [(⟨#[40,49,44,32,53,41]⟩:ByteArray)] (⟨#[32]⟩:ByteArray)).size≤140737488355328 then some (joinB [(⟨#[40,49,44,32,53,41]⟩:ByteArray)] (⟨#[32]⟩:ByteArray),()) else none)=_
  rw [joinB1,if_pos (by refine ⟨?_,?_⟩<;>decide)]
theorem or1:txn_or.F ((⟨#[40,49,44,32,53,41]⟩:ByteArray),())=some ((⟨#[40,49,44,32,53,41]⟩:ByteArray),()):=by
  rw [txn_or.eq];kernel_rfl
abbrev rg1:List tRangeT:=[(tt,(iv 0,(iv 9,[])))]
theorem do_scan (rd:Rd) (st:List tStmtT) (an:List ByteArray):txn_doer_do.F (1,tt,[iv 0,iv 9],[],[],rd,[],[],[W1],st,an,())=some ((⟨#[40,49,44,32,53,41]⟩:ByteArray),[],[],rd,rg1,[],[W1],st,an,()):=by
  rw [txn_doer_do.eq];unfold txn_doer_do.B
  refine bind_to (.inr ((⟨#[40,49,44,32,53,41]⟩:ByteArray),[],[],rd,rg1,[],[W1],st,an,())) ?_ rfl
  refine bind_to _ (between_t tt 2 0 e0 2 9 e0) ?_
  refine bind_to (.inl ([(⟨#[40,49,44,32,53,41]⟩:ByteArray)],[],[],rd,rg1,[],[W1],st,an,())) ?_ ?_
  · refine bind_to _ rows_o1 ?_
    refine loop_go ((1:Int),[(⟨#[40,49,44,32,53,41]⟩:ByteArray)],()) (bind_to _ text15 rfl) (loop_out _ rfl)
  · refine bind_to _ join1 ?_
    exact bind_to _ or1 rfl
end Go.Proofs.Ytniojllnooblcaa
end
section
set_option maxRecDepth 100000
namespace Go.Proofs.Ytniojllnooblcaa
open Go Lv Go.Proofs Go.RowKit Go.Shelf
theorem fail_is (n:Int) (tx:ByteArray) (h0:0≤n) (h:n≤300) (hs:(itoaB n).size≤3) (he:(⟨#[101,114,114,111,114,32]⟩:ByteArray)++itoaB n=tx):txn_failed.F (n,())=some (tx,()):=he▸failed_t n h0 h hs
theorem f210:txn_failed.F (210,())=some ((⟨#[101,114,114,111,114,32,50,49,48]⟩:ByteArray),()):=fail_is 210 _ (by decide) (by decide) (by rw [show itoaB 210=(⟨#[50,49,48]⟩:ByteArray) by kernel_rfl];decide) (by kernel_rfl)
theorem f211:txn_failed.F (211,())=some ((⟨#[101,114,114,111,114,32,50,49,49]⟩:ByteArray),()):=fail_is 211 _ (by decide) (by decide) (by rw [show itoaB 211=(⟨#[50,49,49]⟩:ByteArray) by kernel_rfl];decide) (by kernel_rfl)
theorem f212:txn_failed.F (212,())=some ((⟨#[101,114,114,111,114,32,50,49,50]⟩:ByteArray),()):=fail_is 212 _ (by decide) (by decide) (by rw [show itoaB 212=(⟨#[50,49,50]⟩:ByteArray) by kernel_rfl];decide) (by kernel_rfl)
theorem f213:txn_failed.F (213,())=some ((⟨#[101,114,114,111,114,32,50,49,51]⟩:ByteArray),()):=fail_is 213 _ (by decide) (by decide) (by rw [show itoaB 213=(⟨#[50,49,51]⟩:ByteArray) by kernel_rfl];decide) (by kernel_rfl)
abbrev rd1:Rd:=[(tt,(iv 1,0))]
abbrev st1:List tStmtT:=[(2,(tt,[iv 1,iv 5]))]
abbrev st2:List tStmtT:=[(2,(tt,[iv 1,iv 5])),(0,(tt,[iv 1]))]
abbrev an1:List ByteArray:=[(⟨#[111,107]⟩:ByteArray)]
abbrev an2:List ByteArray:=[(⟨#[111,107]⟩:ByteArray),(⟨#[40,49,44,32,53,41]⟩:ByteArray)]
theorem no0:∀w∈([]:List tWriteT),w.2.2.length≤1000:=fun _ h=>by cases h
theorem ns0:∀w∈([]:List tStmtT),w.2.2.length≤1000:=fun _ h=>by cases h
theorem ns1:∀w∈st1,w.2.2.length≤1000:=by decide
theorem ns2:∀w∈st2,w.2.2.length≤1000:=by decide
theorem y3:txn_Do.F (cat1,[],[],[],[],[],[],[],[],2,tt,[iv 1,iv 5],())=some ((⟨#[111,107]⟩:ByteArray),rd1,[],[],[W1],st1,an1,()):=
  step_ok [] [] [] [] 2 tt [iv 1,iv 5] (⟨#[111,107]⟩:ByteArray) rd1 [] [W1] (by decide) (by decide) (by decide) (by decide) no0 ns0 (by decide) (wrong2 1 5)
    (do_put tt (iv 1) (iv 5) [] [] rd1 [] [] [] (by decide) (see_no [] tt (iv 1) [] [] [] [] (by decide) (by decide) no0 (own0_o tt (iv 1)) (rowR0 _)))
theorem own1o (k:tValueT) (b:Bool) (h:ofP W1 tt k=b):txn_Own_o.F (tt,k.1,k.2.1,k.2.2,[W1],())=some (b,[W1],()):=h▸own1_o W1 tt k
theorem see1 (st:List tStmtT) (an:List ByteArray):txn_doer_see.F (tt,2,1,e0,[],[],rd1,[],[],[W1],st,an,())=some (true,[],[],rd1,[],[],[W1],st,an,[iv 1,iv 5],()):=by
  have h:=see_own [W1] tt (iv 1) rd1 [] st an (by decide) W1len (own1o (iv 1) true of1)
  rw [rowR1] at h
  exact h
theorem y6:txn_Do.F (cat1,[],[],rd1,[],[],[W1],st1,an1,0,tt,[iv 1],())=some ((⟨#[40,49,44,32,53,41]⟩:ByteArray),rd1,[],[],[W1],st2,an2,()):=
  step_ok rd1 [W1] st1 an1 0 tt [iv 1] (⟨#[40,49,44,32,53,41]⟩:ByteArray) rd1 [] [W1] (by decide) (by decide) (by decide) (by decide) W1len ns1 (by decide) (wrong0 (iv 1))
    (do_get tt (iv 1) [iv 1,iv 5] (⟨#[40,49,44,32,53,41]⟩:ByteArray) [W1] rd1 rd1 [] st1 an1 (see1 st1 an1) text15)
theorem y9:txn_Do.F (cat1,[],[],rd1,[],[],[W1],st2,an2,2,tt,[iv 1,iv 6],())=some ((⟨#[101,114,114,111,114,32,50,49,48]⟩:ByteArray),rd1,[],[],[W1],st2++ [(2,(tt,[iv 1,iv 6]))],an2++ [(⟨#[101,114,114,111,114,32,50,49,48]⟩:ByteArray)],()):=
  step_ok rd1 [W1] st2 an2 2 tt [iv 1,iv 6] (⟨#[101,114,114,111,114,32,50,49,48]⟩:ByteArray) rd1 [] [W1] (by decide) (by decide) (by decide) (by decide) W1len ns2 (by decide) (wrong2 1 6)
    (do_twice tt (iv 1) (iv 6) [iv 1,iv 5] [W1] rd1 rd1 [] st2 an2 (⟨#[101,114,114,111,114,32,50,49,48]⟩:ByteArray) (see1 st2 an2) f210)
theorem y11:txn_Do.F (cat1,[],[],rd1,[],[],[W1],st2,an2,5,tt,[],())=some ((⟨#[101,114,114,111,114,32,50,49,50]⟩:ByteArray),rd1,[],[],[W1],st2++ [(5,(tt,[]))],an2++ [(⟨#[101,114,114,111,114,32,50,49,50]⟩:ByteArray)],()):=
  step_wrong rd1 [W1] st2 an2 5 tt [] 212 (⟨#[101,114,114,111,114,32,50,49,50]⟩:ByteArray) (by decide) (by decide) (by decide) (by decide) W1len ns2 (by decide) wrong5 (by decide) f212
theorem y14:txn_Do.F (cat1,[],[],rd1,[],[],[W1],st2,an2,4,tt,[iv 2],())=some ((⟨#[101,114,114,111,114,32,50,49,49]⟩:ByteArray),rd1++ [(tt,(iv 2,0))],[],[],[W1],st2++ [(4,(tt,[iv 2]))],an2++ [(⟨#[101,114,114,111,114,32,50,49,49]⟩:ByteArray)],()):=
  step_ok rd1 [W1] st2 an2 4 tt [iv 2] (⟨#[101,114,114,111,114,32,50,49,49]⟩:ByteArray) _ [] [W1] (by decide) (by decide) (by decide) (by decide) W1len ns2 (by decide) (wrong4 (iv 2))
    (do_cutno tt (iv 2) [W1] rd1 _ [] st2 an2 (⟨#[101,114,114,111,114,32,50,49,49]⟩:ByteArray) (see_no [W1] tt (iv 2) rd1 [] st2 an2 (by decide) (by decide) W1len (own1o (iv 2) false of2) rowR2) f211)
theorem y18:txn_Do.F (cat1,[],[],rd1,[],[],[W1],st2,an2,1,tt,[iv 0,iv 9],())=some ((⟨#[40,49,44,32,53,41]⟩:ByteArray),rd1,rg1,[],[W1],st2++ [(1,(tt,[iv 0,iv 9]))],an2++ [(⟨#[40,49,44,32,53,41]⟩:ByteArray)],()):=
  step_ok rd1 [W1] st2 an2 1 tt [iv 0,iv 9] (⟨#[40,49,44,32,53,41]⟩:ByteArray) rd1 rg1 [W1] (by decide) (by decide) (by decide) (by decide) W1len ns2 (by decide) (wrong1 (iv 0) (iv 9)) (do_scan rd1 st2 an2)
theorem y20:txn_Row.F ([],[W1],tt,2,1,e0,())=some (true,[iv 1,iv 5],()):=by
  have h:=row_t [W1] tt (iv 1) (by decide) W1len
  rw [rowR1] at h
  exact h
theorem y22:txn_Own.F ([W1],tt,2,1,e0,())=some (true,()):=by
  have h:=own1 W1 tt (iv 1)
  rw [of1] at h
  exact h
theorem fixed_t:L21_fixed.F ()=some (true,()):=by
  rw [L21_fixed.eq];unfold L21_fixed.B
  refine bind_to _ one_cat ?_
  refine bind_to _ (put_st 1 5) ?_
  refine bind_to _ y3 ?_
  refine bind_to _ one_cat ?_
  refine bind_to _ (get_st 1) ?_
  refine bind_to _ y6 ?_
  refine bind_to _ one_cat ?_
  refine bind_to _ (put_st 1 6) ?_
  refine bind_to _ y9 ?_
  refine bind_to _ one_cat ?_
  refine bind_to _ y11 ?_
  refine bind_to _ one_cat ?_
  refine bind_to _ (int_t 2) ?_
  refine bind_to _ y14 ?_
  refine bind_to _ one_cat ?_
  refine bind_to _ (int_t 0) ?_
  refine bind_to _ (int_t 9) ?_
  refine bind_to _ y18 ?_
  refine bind_to _ (int_t 1) ?_
  refine bind_to _ y20 ?_
  simp only [beq_self_eq_true,cond_true]
  show (bif _ then _ else _)=_
  refine bind_to _ (int_t 1) ?_
  refine bind_to _ y22 ?_
  refine bind_to _ (int_t 0) ?_
  refine bind_to _ (int_t 9) ?_
  exact bind_to _ rows_1 rfl
end Go.Proofs.Ytniojllnooblcaa
end
section
set_option maxRecDepth 100000
namespace Go.Proofs.Ytniojllnooblcaa
open Go Lv Go.Proofs Go.RowKit Go.Shelf
theorem all_loop {R:Type} {body:Int×Unit→Option ((Int×Unit)⊕R)} (n:Nat) (r:R) (hn:n<9223372036854775808) (hs:∀i:Nat,i<n→body ((i:Int),())=some (.inl (IntKind.i64.wrap ((i:Int)+1),()))) (he:body ((n:Int),())=some (.inr r)):
    loopM body ((0:Int),())=some r:=by
  refine loop_f (fun x=>n-x.1.toNat) (fun x=>∃i:Nat,x=((i:Int),())∧i≤n) (fun _=>r) ?_ _ ⟨0,rfl,by omega⟩
  rintro _ ⟨i,rfl,hi⟩
  by_cases hlt:i<n
  · refine .inl ⟨(((i+1:Nat):Int),()),?_,⟨i+1,rfl,by omega⟩,by show _-Int.toNat _<_-Int.toNat _;rw [Int.toNat_natCast,Int.toNat_natCast];omega,rfl⟩
    rw [hs i hlt,wrap_s hlt hn]
  · have:i=n:=by omega
    subst this
    exact .inr he
theorem eq_self (t:Ty) (h:t.plain=true) (x:t.T):Ty.eq t x x=true:=(Ty.eq_dec t h x x).2 rfl
theorem in_of {i n:Nat} (h:i<n):decide ((i:Int)<(n:Int))=true:=by simp;omega
theorem out_of (n:Nat):decide ((n:Int)<(n:Int))=false:=by simp
theorem nn_of (i:Nat):decide (0≤(i:Int))=true:=by simp
theorem ne_self (n:Int):(n !=n)=false:=by simp
theorem reads_self (l:Rd) (h:l.length≤1000):R20_SameReads.F (l,l,())=some (true,()):=by
  rw [R20_SameReads.eq];unfold R20_SameReads.B
  simp only [ne_self,cond_false]
  refine all_loop l.length _ (by omega) (fun i hi=>?_) ?_
  · simp only [in_of hi,nn_of,Bool.and_self,cond_true,eq_self tRead rfl,Bool.not_true,cond_false]
  · simp only [out_of,cond_false]
theorem less_self (l:List UInt8):Op.bytesLess l l=false:=by
  induction l with
  |nil=>rfl
  |cons a r ih=>simp [Op.bytesLess,ih]
theorem cmp_self (a b:Int) (c:ByteArray):R01_Compare.F (a,b,c,a,b,c,())=some (0,()):=by
  rw [R01_Compare.eq];unfold R01_Compare.B
  simp only [ne_self,cond_false,less_self,Bool.false_or,beq_self_eq_true,Bool.not_true]
theorem rcmp_self (l:List tValueT) (h:l.length≤1000):R02_Compare.F (l,l,())=some (0,()):=by
  rw [R02_Compare.eq];unfold R02_Compare.B
  refine bind_to (.inl ()) ?_ ?_
  · refine all_loop l.length _ (by omega) (fun i hi=>?_) ?_
    · simp only [in_of hi,nn_of,Bool.and_self,cond_true,cmp_self,Option.bind_some,ne_self,cond_false]
    · simp only [out_of,cond_false]
  · have d1:decide ((l.length:Int)<(l.length:Int))=false:=by simp
    have d2:decide ((l.length:Int)>(l.length:Int))=false:=by simp
    simp only [d1,d2,cond_false]
theorem rsame_self (l:List tValueT) (h:l.length≤1000):R02_Same.F (l,l,())=some (true,()):=by
  rw [R02_Same.eq];unfold R02_Same.B
  exact bind_to _ (rcmp_self l h) rfl
theorem stmt_self (a:Int) (b:ByteArray) (l:List tValueT) (h:l.length≤1000):R08_Same.F (a,b,l,a,b,l,())=some (true,()):=by
  rw [R08_Same.eq];unfold R08_Same.B
  simp only [beq_self_eq_true,cond_true]
  exact bind_to _ (rsame_self l h) rfl
theorem texts_self (l:List ByteArray) (h:l.length≤1000):R21_Texts.F (l,l,())=some (true,()):=by
  rw [R21_Texts.eq];unfold R21_Texts.B
  simp only [ne_self,cond_false]
  refine all_loop l.length _ (by omega) (fun i hi=>?_) ?_
  · simp only [in_of hi,nn_of,Bool.and_self,cond_true,beq_self_eq_true,Bool.not_true,cond_false]
  · simp only [out_of,cond_false]
theorem seen_self (l:Rd) (h:l.length≤1000):R20_SameSeen.F (l,[],[],l,[],[],())=some (true,()):=by
  rw [R20_SameSeen.eq];unfold R20_SameSeen.B
  refine bind_to (.inl ()) ?_ ?_
  · exact bind_to _ (reads_self l h) rfl
  · refine bind_to (.inl ()) (loop_out _ rfl) ?_
    exact loop_out _ rfl
theorem same_self (rd:Rd) (st:List tStmtT) (an:List ByteArray) (h1:rd.length≤1000) (h2:st.length≤1000) (h3:an.length≤1000) (hs:∀s∈st,s.2.2.length≤1000):R21_Same.F (rd,[],[],[],st,an,rd,[],[],[],st,an,())=some (true,()):=by
  rw [R21_Same.eq];unfold R21_Same.B
  refine bind_to (.inl (false,())) ?_ ?_
  · refine bind_to _ (seen_self rd h1) ?_
    refine bind_to _ (show R21_SameWrites.F ([],[],())=some (true,()) from ?_) ?_
    · rw [R21_SameWrites.eq];exact loop_out _ rfl
    · show (bif ((st.length:Int) !=(st.length:Int)) then _ else _)=_
      rw [ne_self,cond_false]
      exact bind_to _ (texts_self an h3) rfl
  · refine all_loop st.length _ (by omega) (fun i hi=>?_) ?_
    · simp only [in_of hi,nn_of,Bool.and_self,cond_true,Int.toNat_natCast,getD_at hi]
      exact bind_to _ (stmt_self _ _ _ (hs _ (List.getElem_mem hi))) rfl
    · simp only [out_of,cond_false]
/-! ## Fifty statements -/
def rds (n:Nat):Rd:=(List.range n).map fun (j:Nat)=>(tt,(iv (j:Int),0))
def sts (n:Nat):List tStmtT:=(List.range n).map fun (j:Nat)=>(0,(tt,[iv (j:Int)]))
def ans (n:Nat):List ByteArray:=(List.range n).map fun _=>(⟨#[110,111,110,101]⟩:ByteArray)
theorem rds_len (n:Nat):(rds n).length=n:=by simp [rds]
theorem sts_len (n:Nat):(sts n).length=n:=by simp [sts]
theorem ans_len (n:Nat):(ans n).length=n:=by simp [ans]
theorem rds_s (n:Nat):rds (n+1)=rds n++ [(tt,(iv (n:Int),0))]:=by simp [rds,List.range_succ]
theorem sts_s (n:Nat):sts (n+1)=sts n++ [(0,(tt,[iv (n:Int)]))]:=by simp [sts,List.range_succ]
theorem ans_s (n:Nat):ans (n+1)=ans n++ [(⟨#[110,111,110,101]⟩:ByteArray)]:=by simp [ans,List.range_succ]
theorem sts_row (n:Nat):∀s∈sts n,s.2.2.length≤1000:=by
  intro s hs
  obtain ⟨j,_,rfl⟩:=List.mem_map.1 hs
  show 1≤1000
  omega
theorem step_get (n:Nat) (h:n<50):txn_Do.F (cat1,[],[],rds n,[],[],[],sts n,ans n,0,tt,[iv (n:Int)],())=some ((⟨#[110,111,110,101]⟩:ByteArray),rds (n+1),[],[],[],sts (n+1),ans (n+1),()):=by
  rw [rds_s,sts_s,ans_s]
  exact step_ok (rds n) [] (sts n) (ans n) 0 tt [iv (n:Int)] (⟨#[110,111,110,101]⟩:ByteArray) _ [] [] (by rw [rds_len];omega) (by decide) (by rw [sts_len];omega) (by rw [ans_len];omega) no0 (sts_row n) (show 1≤1000 by omega) (wrong0 _)
    (do_none tt (iv (n:Int)) [] (rds n) _ [] (sts n) (ans n) (see_no [] tt (iv (n:Int)) (rds n) [] (sts n) (ans n) (by rw [rds_len];omega) (by decide) no0 (own0_o tt (iv (n:Int))) (rowR0 _)))
theorem step_no (k:Int):txn_Do.F (cat1,[],[],rds 50,[],[],[],sts 50,ans 50,0,tt,[iv k],())=some ((⟨#[101,114,114,111,114,32,50,49,51]⟩:ByteArray),rds 50,[],[],[],sts 50,ans 50,()):=
  step_full (rds 50) [] (sts 50) (ans 50) 0 tt [iv k] (⟨#[101,114,114,111,114,32,50,49,51]⟩:ByteArray) (by rw [rds_len];omega) (by decide) (by rw [sts_len]) (by rw [ans_len];omega) no0 (sts_row 50) f213
theorem full_law (n : Int) : L21_TxnFull.F (n,()) = some (true,()) := by
  rw [L21_TxnFull.eq];unfold L21_TxnFull.B
  by_cases hn:1≤n∧n≤60
  · refine bind_to (.inl ()) ?_ ?_
    · refine bind_to _ fixed_t ?_
      have d1:decide (n<(1:Int))=false:=by simp;omega
      have d2:decide (n>(60:Int))=false:=by simp;omega
      show (bif decide (n<(1:Int)) then _ else (bif decide (n>(60:Int)) then _ else _))=_
      rw [d1,d2];rfl
    · obtain ⟨m,rfl⟩:∃m:Nat,n=(m:Int):=⟨n.toNat,by omega⟩
      have hm1:1≤m:=by omega
      have hm2:m≤60:=by omega
      refine bind_to (.inl (rds (min m 50),[],[],[],sts (min m 50),ans (min m 50),())) ?_ ?_
      · refine loop_f (S:=Int×Rd×List tRangeT×List tLookT×List tWriteT×List tStmtT×List ByteArray×Unit) (fun x=>m-x.1.toNat) (fun x=>∃i:Nat,x=((i:Int),rds (min i 50),[],[],[],sts (min i 50),ans (min i 50),())∧i≤m) (fun _=>Sum.inl (rds (min m 50),[],[],[],sts (min m 50),ans (min m 50),())) ?_ _ ⟨0,rfl,by omega⟩
        rintro _ ⟨i,rfl,hi⟩
        by_cases hlt:i<m
        · refine .inl ⟨(((i+1:Nat):Int),rds (min (i+1) 50),[],[],[],sts (min (i+1) 50),ans (min (i+1) 50),()),?_,⟨i+1,rfl,by omega⟩,by show _-Int.toNat _<_-Int.toNat _;rw [Int.toNat_natCast,Int.toNat_natCast];omega,rfl⟩
          have d0:decide ((i:Int)<(m:Int))=true:=in_of hlt
          show (bif decide ((i:Int)<(m:Int)) then _ else _)=_
          rw [d0,cond_true]
          refine bind_to _ one_cat ?_
          refine bind_to _ (get_st i) ?_
          have hw:IntKind.i64.wrap ((i:Int)+1)=((i+1:Nat):Int):=wrap_s hlt (by omega)
          by_cases h50:i<50
          · rw [Nat.min_eq_left (by omega:i≤50),Nat.min_eq_left (by omega:i+1≤50)]
            refine bind_to _ (step_get i h50) ?_
            refine bind_to (.inl (false,rds (i+1),[],[],[],sts (i+1),ans (i+1),())) ?_ ?_
            · have d1:decide ((i:Int)≥(50:Int))=false:=by simp;omega
              have d2:decide ((i:Int)<(50:Int))=true:=by simp;omega
              simp only [d1,d2,cond_true,cond_false,beq_self_eq_true,Bool.not_true,hw,sts_len,ne_self]
            · simp only [cond_false,hw]
          · rw [Nat.min_eq_right (by omega:50≤i),Nat.min_eq_right (by omega:50≤i+1)]
            refine bind_to _ (step_no i) ?_
            refine bind_to (.inl (false,rds 50,[],[],[],sts 50,ans 50,())) ?_ ?_
            · have d1:decide ((i:Int)≥(50:Int))=true:=by simp;omega
              have d2:decide ((i:Int)<(50:Int))=false:=by simp;omega
              simp only [d1,d2,cond_true,cond_false,beq_self_eq_true,Bool.not_true]
              refine bind_to _ (same_self (rds 50) (sts 50) (ans 50) (by rw [rds_len];omega) (by rw [sts_len];omega) (by rw [ans_len];omega) (sts_row 50)) ?_
              rfl
            · simp only [cond_false,hw]
        · refine .inr ?_
          have:i=m:=by omega
          subst this
          simp only [out_of,cond_false]
      · have hc:((((rds (min m 50)).length:Nat):Int)==(bif decide ((50:Int)<(m:Int)) then (50:Int) else (m:Int)))=true:=by
          rw [rds_len]
          by_cases h50:50<m
          · have d:decide ((50:Int)<(m:Int))=true:=by simp;omega
            rw [d,Nat.min_eq_right (by omega)];rfl
          · have d:decide ((50:Int)<(m:Int))=false:=by simp;omega
            rw [d,Nat.min_eq_left (by omega)];simp
        simp only [hc,cond_true]
        rfl
  · refine bind_to (.inr (true,())) ?_ rfl
    refine bind_to _ fixed_t ?_
    show (bif decide (n<(1:Int)) then _ else (bif decide (n>(60:Int)) then _ else _))=_
    by_cases h1:n<1
    · have d1:decide (n<(1:Int))=true:=by simp;omega
      rw [d1,cond_true]
      exact bind_to _ fixed_t rfl
    · have d1:decide (n<(1:Int))=false:=by simp;omega
      have d2:decide (n>(60:Int))=true:=by simp;omega
      rw [d1,d2]
      exact bind_to _ fixed_t rfl
end Go.Proofs.Ytniojllnooblcaa
end
section
namespace Go.Proofs.Ytniojllnooblcaa
open Go Lv Go.Proofs Go.RowKit Go.Shelf
/-! ## The order of values -/
abbrev cb:=Lib.compareBytes
theorem cb_self:∀l,cb l l=0
  | []=>rfl
  |a::r=>by simp [cb,Lib.compareBytes];exact cb_self r
theorem cb_anti:∀a b,cb a b=-cb b a
  | [],[]=>rfl
  | [],_::_=>rfl
  |_::_,[]=>rfl
  | a :: x,b :: y => by
    have ih:=cb_anti x y
    simp only [cb,Lib.compareBytes] at ih ⊢
    by_cases h1:a<b
    · have h2:¬b<a:=fun h=>absurd (UInt8.lt_trans h1 h) (UInt8.lt_irrefl a)
      simp [h1,h2]
    · by_cases h2:b<a
      · simp [h1,h2]
      · simp [h1,h2,ih]
theorem cb_val:∀a b,cb a b=-1∨cb a b=0∨cb a b=1
  | [],[]=> .inr (.inl rfl)
  | [],_::_=> .inl rfl
  |_::_,[]=> .inr (.inr rfl)
  | a :: x,b :: y => by
    have ih:=cb_val x y
    simp only [cb,Lib.compareBytes] at ih ⊢
    split
    · exact .inl rfl
    · split
      · exact .inr (.inr rfl)
      · exact ih
theorem u8v_eq {a b:UInt8} (h1:¬a<b) (h2:¬b<a):a=b:=by
  rcases UInt8.lt_or_lt_of_ne (a:=a) (b:=b)|>fun f=>Classical.em (a=b) with h|h
  · exact h
  · rcases UInt8.lt_or_lt_of_ne h with h|h
    · exact absurd h h1
    · exact absurd h h2
theorem cb_zero : ∀ a b,cb a b = 0 → a = b
  | [],[],_=>rfl
  | [],_::_,h=>by simp [cb,Lib.compareBytes] at h
  |_::_,[],h=>by simp [cb,Lib.compareBytes] at h
  | a :: x,b :: y,h => by
    simp only [cb,Lib.compareBytes] at h
    split at h
    · cases h
    · split at h
      · cases h
      · rename_i h1 h2
        rw [u8v_eq h1 h2,cb_zero x y h]
theorem cb_trans : ∀ a b c,cb a b < 0 → cb b c < 0 → cb a c < 0
  | [],[],c,h,_=>by simp [cb,Lib.compareBytes] at h
  | [],_::_,[],_,h=>by simp [cb,Lib.compareBytes] at h
  | [],_::_,_::_,_,_=>by simp [cb,Lib.compareBytes]
  |_::_,[],_,h,_=>by simp [cb,Lib.compareBytes] at h
  |_::_,_::_,[],_,h=>by simp [cb,Lib.compareBytes] at h
  | a :: x,b :: y,c :: z,h,k => by
    simp only [cb,Lib.compareBytes] at h k ⊢
    by_cases h1:a<b
    · by_cases h2:b<c
      · rw [if_pos (UInt8.lt_trans h1 h2)];decide
      · by_cases h3:c<b
        · rw [if_neg h2,if_pos h3] at k;omega
        · rw [←u8v_eq h2 h3,if_pos h1];decide
    · by_cases h4:b<a
      · rw [if_neg h1,if_pos h4] at h;omega
      · have e:=u8v_eq h1 h4
        subst e
        rw [if_neg h1,if_neg h1] at h
        by_cases h2:a<c
        · rw [if_pos h2];decide
        · by_cases h3:c<a
          · rw [if_neg h2,if_pos h3] at k;omega
          · rw [if_neg h2,if_neg h3] at k ⊢
            exact cb_trans x y z h k
theorem less_cb : ∀ a b,Op.bytesLess a b = decide (cb a b < 0)
  | [],[]=>rfl
  | [],_::_=>rfl
  |_::_,[]=>rfl
  | a :: x,b :: y => by
    have ih:=less_cb x y
    simp only [Op.bytesLess,cb,Lib.compareBytes] at ih ⊢
    by_cases h1:a<b
    · simp [h1]
    · by_cases h2:b<a
      · have:(a==b)=false:=by
          rw [beq_eq_false_iff_ne];rintro rfl;exact h1 h2
        simp [h1,h2,this]
      · have e:=u8v_eq h1 h2
        subst e
        simp [h1,ih]
def cI (a b:Int):Int:=if a<b then -1 else if a>b then 1 else 0
noncomputable def cV (x y:tValueT):Int:=if cI x.1 y.1≠0 then cI x.1 y.1 else if cI x.2.1 y.2.1≠0 then cI x.2.1 y.2.1 else cmpB x.2.2 y.2.2
theorem cI_cases (a b:Int):(a<b∧cI a b=-1)∨(a=b∧cI a b=0)∨(b<a∧cI a b=1):=by
  unfold cI
  by_cases h1:a<b
  · exact .inl ⟨h1,if_pos h1⟩
  · by_cases h2:a>b
    · exact .inr (.inr ⟨h2,by rw [if_neg h1,if_pos h2]⟩)
    · exact .inr (.inl ⟨by omega,by rw [if_neg h1,if_neg h2]⟩)
theorem cV_self (x:tValueT):cV x x=0:=by
  unfold cV
  have h1:cI x.1 x.1=0:=by simp [cI]
  have h2:cI x.2.1 x.2.1=0:=by simp [cI]
  rw [h1,h2];simp;exact cb_self _
theorem cV_anti (x y:tValueT):cV x y=-cV y x:=by
  unfold cV
  have hb:=cb_anti x.2.2.data.toList y.2.2.data.toList
  rcases cI_cases x.1 y.1 with ⟨h,e⟩|⟨h,e⟩|⟨h,e⟩<;>rcases cI_cases y.1 x.1 with ⟨g,f⟩|⟨g,f⟩|⟨g,f⟩<;>first|omega|(rw [e,f];simp;done)|skip
  rcases cI_cases x.2.1 y.2.1 with ⟨h',e'⟩|⟨h',e'⟩|⟨h',e'⟩<;>rcases cI_cases y.2.1 x.2.1 with ⟨g',f'⟩|⟨g',f'⟩|⟨g',f'⟩<;>first|omega|(rw [e,f,e',f'];simp;done)|skip
  rw [e,f,e',f'];simp;exact hb
theorem cV_zero {x y:tValueT} (h:cV x y=0):x=y:=by
  unfold cV at h
  rcases cI_cases x.1 y.1 with ⟨h1,e⟩|⟨h1,e⟩|⟨h1,e⟩<;>rw [e] at h<;>simp at h
  rcases cI_cases x.2.1 y.2.1 with ⟨h2,e'⟩|⟨h2,e'⟩|⟨h2,e'⟩<;>rw [e'] at h<;>simp at h
  have h3:=cb_zero _ _ (show cb x.2.2.data.toList y.2.2.data.toList=0 from h)
  obtain ⟨a,b,⟨⟨s⟩⟩⟩:=x
  obtain ⟨a',b',⟨⟨s'⟩⟩⟩:=y
  simp only at h1 h2 h3
  subst h1 h2 h3
  rfl
theorem cV_trans {x y z:tValueT} (h:cV x y<0) (k:cV y z<0):cV x z<0:=by
  unfold cV at h k ⊢
  have hb:=cb_trans x.2.2.data.toList y.2.2.data.toList z.2.2.data.toList
  rcases cI_cases x.1 y.1 with ⟨h1,e1⟩|⟨h1,e1⟩|⟨h1,e1⟩<;>rw [e1] at h<;>simp at h<;>rcases cI_cases y.1 z.1 with ⟨g1,f1⟩|⟨g1,f1⟩|⟨g1,f1⟩<;>rw [f1] at k<;>simp at k<;>rcases cI_cases x.1 z.1 with ⟨q1,p1⟩|⟨q1,p1⟩|⟨q1,p1⟩<;>rw [p1]<;>first|omega|skip
  all_goals simp
  rcases cI_cases x.2.1 y.2.1 with ⟨h2,e2⟩|⟨h2,e2⟩|⟨h2,e2⟩<;>rw [e2] at h<;>simp at h<;>rcases cI_cases y.2.1 z.2.1 with ⟨g2,f2⟩|⟨g2,f2⟩|⟨g2,f2⟩<;>rw [f2] at k<;>simp at k<;>rcases cI_cases x.2.1 z.2.1 with ⟨q2,p2⟩|⟨q2,p2⟩|⟨q2,p2⟩<;>rw [p2]<;>first|omega|skip
  all_goals simp
  exact hb h k
theorem cV_nle {x y:tValueT} (h:¬cV x y<0) (h':x≠y):cV y x<0:=by
  have:=cV_anti x y
  have h0:cV x y≠0:=fun e=>h' (cV_zero e)
  omega
theorem cV_le_trans {x y z:tValueT} (h:¬cV y x<0) (k:¬cV z y<0):¬cV z x<0:=fun hz=>by
  by_cases e:x=y
  · subst e;exact k hz
  · exact k (cV_trans hz (cV_nle h (fun e'=>e e'.symm)))
theorem cV_le_lt {x y z:tValueT} (h:¬cV y x<0) (k:cV y z<0):cV x z<0:=by
  by_cases e:x=y
  · subst e;exact k
  · exact cV_trans (cV_nle h (fun e'=>e e'.symm)) k
end Go.Proofs.Ytniojllnooblcaa
end
section
set_option maxRecDepth 100000
namespace Go.Proofs.Ytniojllnooblcaa
open Go Lv Go.Proofs Go.RowKit Go.Shelf
theorem bto {α β:Type} {x:Option α} {K:α→Option β} {r:Option β} (v:α) (h:x=some v) (g:K v=r):x.bind K=r:=by rw [h];exact g
theorem inn {i n:Nat} (h:i<n):decide ((i:Int)<(n:Int))=true:=by simp;omega
theorem outn (n:Nat):decide ((n:Int)<(n:Int))=false:=by simp
theorem nonneg (i:Nat):decide (0≤(i:Int))=true:=by simp
theorem cI_t (a b:Int):cmp_Compare_int.F (a,b,())=some (cI a b,()):=by
  rw [cmp_Compare_int.eq];unfold cmp_Compare_int.B
  have hn:∀n:Int,cmp_isNaN_int.F (n,())=some (false,()):=fun n=>by rw [cmp_isNaN_int.eq];unfold cmp_isNaN_int.B;simp
  simp only [hn,Option.bind_some,cond_false,cI]
  by_cases h1:a<b
  · simp [h1]
  · by_cases h2:a>b
    · simp [h1,h2]
    · simp [h1,h2]
theorem or3_i (a b c:Int):cmp_Or_int.F ([a,b,c],())=some (if a≠0 then a else if b≠0 then b else c,()):=by
  rw [cmp_Or_int.eq];unfold cmp_Or_int.B
  simp only []
  rw [loop_l0 (fun i (_:Unit)=>(i,())) [a,b,c] (by simp) (fun (e:Int) (_:Unit)=>some (if e≠0 then .inr (e,()) else .inl ())) (fun _=>some (0,())) (by
    intro i hi st
    have d1:decide ((i:Int)<(([a,b,c]:List Int).length:Int))=true:=by rw [decide_eq_true_eq];omega
    have d0:decide (0≤(i:Int))=true:=by simp
    simp only [d1,d0,Bool.and_self,cond_true,Int.toNat_natCast,getD_at hi,wrap_s hi (show ([a,b,c]:List Int).length<9223372036854775808 by simp)]
    by_cases h:([a,b,c]:List Int)[i]=0
    · simp [h]
    · have:(([a,b,c]:List Int)[i] !=0)=true:=by simpa using h
      rw [this];simp [h]) (by
    intro st
    rfl) ()]
  simp only [foldS]
  by_cases h1:a=0
  · by_cases h2:b=0
    · by_cases h3:c=0
      · simp [h1,h2,h3]
      · simp [h1,h2,h3]
    · simp [h1,h2]
  · simp [h1]
theorem cV_t (x y:tValueT):value_Compare.F (x.1,x.2.1,x.2.2,y.1,y.2.1,y.2.2,())=some (cV x y,()):=by
  rw [value_Compare.eq];unfold value_Compare.B
  have hs:strings_Compare.F (x.2.2,y.2.2,())=some (cmpB x.2.2 y.2.2,()):=by rw [strings_Compare.eq];rfl
  refine bto _ (cI_t _ _) ?_
  refine bto _ (cI_t _ _) ?_
  refine bto _ hs ?_
  refine bto _ (or3_i _ _ _) ?_
  rfl
/-! ## What may be -/
theorem vmay_t (x:tValueT):∃b,value_May.F (x.1,x.2.1,x.2.2,())=some (b,()):=by
  rw [value_May.eq];unfold value_May.B
  simp only []
  cases (x.1==(0:Int))<;>cases (x.1==(1:Int))<;>cases (x.1==(2:Int))<;>cases (x.1==(3:Int))<;>cases (x.2.1==(0:Int))<;>cases (x.2.1==(1:Int))<;>exact ⟨_,rfl⟩
theorem ex_of {x:Option (Bool×Unit)} {Q:Bool×Unit→Prop} (h:∃r,x=some r∧Q r):∃b,x=some (b,()):=by
  obtain ⟨r,h1,_⟩:=h
  exact ⟨r.1,h1⟩
theorem rowmay_t (l : List tValueT) : ∃ b,row_May.F (l,()) = some (b,()) := by
  rw [row_May.eq];unfold row_May.B
  simp only []
  by_cases hl:l.length≤40
  · have hd:decide ((l.length:Int)≤(40:Int))=true:=by simp;omega
    rw [hd,cond_true]
    refine ex_of (loop_m (fun x=>l.length-x.1.toNat) (fun x=>∃i:Nat,x=((i:Int),())∧i≤l.length) (fun _ (r:Bool×Unit)=>True) ?_ ((0:Int),()) ⟨0,rfl,by omega⟩)
    rintro _ ⟨i,rfl,hi⟩
    by_cases hlt:i<l.length
    · obtain ⟨b,hb⟩:=vmay_t l[i]
      have hr:row_May_1.F (l[i].1,l[i].2.1,l[i].2.2,())=some (!b,()):=by
        rw [row_May_1.eq];unfold row_May_1.B;exact bto _ hb rfl
      simp only [inn hlt,nonneg,Bool.and_self,cond_true,Int.toNat_natCast,getD_at hlt,hr,Option.bind_some]
      cases b with
      |false=>exact .inr ⟨_,rfl,trivial⟩
      |true=>exact .inl ⟨_,rfl,⟨i+1,by rw [wrap_s hlt (by omega)],by omega⟩,by show l.length-Int.toNat (IntKind.i64.wrap _)<l.length-i;rw [wrap_s hlt (by omega),Int.toNat_natCast];omega,fun _ h=>h⟩
    · have:i=l.length:=by omega
      subst this
      refine .inr ⟨(!(decide ((-1:Int)≥(0:Int))),()),?_,trivial⟩
      simp only [outn,cond_false]
  · have hd:decide ((l.length:Int)≤(40:Int))=false:=by simp;omega
    rw [hd]
    exact ⟨_,rfl⟩
theorem right_t (l:List tValueT) (n:Int):∃b,rel_right.F (l,n,())=some (b,())∧(b=true→l≠ []):=by
  rw [rel_right.eq];unfold rel_right.B
  obtain ⟨b,hb⟩:=rowmay_t l
  simp only [hb,Option.bind_some]
  cases b with
  |false=>exact ⟨false,rfl,fun h=>by cases h⟩
  |true=>
    cases l with
    |nil=>exact ⟨false,rfl,fun h=>by cases h⟩
    |cons a r=>
      have d1:decide ((((a::r:List tValueT).length:Nat):Int)>0)=true:=by simp
      have d2:decide ((0:Int)<(((a::r:List tValueT).length:Nat):Int))=true:=by simp
      have d0:decide ((0:Int)≤0)=true:=rfl
      simp only [cond_true,d1,d2,d0,Bool.and_self]
      cases ((List.getD (a::r) 0 tValue.z).1 !=(0:Int)) with
      |false=>exact ⟨_,rfl,fun _ h=>by cases h⟩
      |true=>exact ⟨_,rfl,fun _ h=>by cases h⟩
end Go.Proofs.Ytniojllnooblcaa
end
section
set_option maxRecDepth 100000
namespace Go.Proofs.Ytniojllnooblcaa
open Go Lv Go.Proofs Go.RowKit Go.Shelf
/--a row's key -/
abbrev kd (r:List tValueT):tValueT:=List.getD r 0 tValue.z
structure Rising (l:List tRecT):Prop where
  some:∀c∈l,c.1≠ []
  up:∀(i:Nat) (h:i+1<l.length),cV (kd l[i].1) (kd l[i+1].1)<0
theorem Rising.lt {l:List tRecT} (h:Rising l):∀(j i:Nat) (hi:i<j) (hj:j<l.length),cV (kd l[i].1) (kd l[j].1)<0
  |0,i,hi,_=>by omega
  |j+1,i,hi,hj=>by
    by_cases e:i=j
    · subst e;exact h.up i hj
    · exact cV_trans (h.lt j i (by omega) (by omega)) (h.up j hj)
theorem pos_of {l:List tValueT} (h:l≠ []):decide ((0:Int)<(l.length:Int))=true:=by
  cases l with
  |nil=>exact absurd rfl h
  |cons a r=>simp
theorem d00:decide ((0:Int)≤0)=true:=rfl
theorem mayR_t (n : ByteArray) (l : List tRecT) (hl : l.length ≤ 1000000) : ∃ b,rel_May.F (n,l,()) = some (b,()) ∧ (b = true → Rising l) := by
  rw [rel_May.eq];unfold rel_May.B
  simp only []
  have key:∀{x:Option (Bool×Unit)},(∃r:Bool×Unit,x=some r∧(r.1=true→Rising l))→∃b,x=some (b,())∧(b=true→Rising l):=fun ⟨r,h1,h2⟩=>⟨r.1,h1,h2⟩
  refine key (loop_m (fun x=>l.length-x.1.toNat) (fun x=>∃i:Nat,x=((i:Int),())∧i≤l.length∧(∀(j:Nat) (hj:j<l.length),j<i→l[j].1≠ [])∧∀(j:Nat) (hj:j+1<l.length),j+1<i→cV (kd l[j].1) (kd l[j+1].1)<0) (fun _ (r:Bool×Unit)=>r.1=true→Rising l) ?_ ((0:Int),()) ⟨0,rfl,by omega,fun j _ h=>by omega,fun j _ h=>by omega⟩)
  rintro _ ⟨i,rfl,hi,hne,hup⟩
  by_cases hlt:i<l.length
  · obtain ⟨b,hb,hb'⟩:=right_t l[i].1 l[i].2
    have hw:IntKind.i64.wrap ((i:Int)+1)=((i+1:Nat):Int):=wrap_s hlt (by omega)
    have gi:List.getD l i tRec.z=l[i]:=getD_at hlt _
    simp only [inn hlt,nonneg,Bool.and_self,cond_true,Int.toNat_natCast,gi,hb,Option.bind_some]
    cases b with
    |false=>exact .inr ⟨_,rfl,fun h=>by cases h⟩
    |true=>
      have hni:=hb' rfl
      have hne':∀(j:Nat) (hj:j<l.length),j<i+1→l[j].1≠ []:=fun j hj h=>by
        by_cases e:j=i
        · subst e;exact hni
        · exact hne j hj (by omega)
      simp only [Bool.not_true,cond_false]
      cases i with
      |zero=>
        have d:decide (((0:Nat):Int)>0)=false:=rfl
        simp only [d,cond_false,hw]
        exact .inl ⟨_,rfl,⟨1,rfl,by omega,hne',fun j _ h=>by omega⟩,by show l.length-Int.toNat ((1:Nat):Int)<l.length-0;rw [Int.toNat_natCast];omega,fun _ h=>h⟩
      |succ i=>
        have d:decide (((i+1:Nat):Int)>0)=true:=decide_eq_true (by omega)
        have hp:IntKind.i64.wrap (((i+1:Nat):Int)-1)=((i:Nat):Int):=by rw [i64_wrap]<;>omega
        have gp:List.getD l i tRec.z=l[i]:=getD_at (by omega) _
        have hnp:=hne i (by omega) (by omega)
        have hc:=cV_t (kd l[i].1) (kd l[i+1].1)
        simp only [d,cond_true,hp,inn (show i<l.length by omega),nonneg,Bool.and_self,Int.toNat_natCast,gp,pos_of hnp,pos_of hni,d00,hc,Option.bind_some]
        cases hd:decide (cV (kd l[i].1) (kd l[i+1].1)≥0) with
        |true=>exact .inr ⟨_,rfl,fun h=>by cases h⟩
        |false=>
          have hd:cV (kd l[i].1) (kd l[i+1].1)<0:=by simp at hd;exact hd
          simp only [cond_false,hw]
          exact .inl ⟨_,rfl,⟨i+1+1,rfl,by omega,hne',fun j hj h=>by
            by_cases e:j=i
            · subst e;exact hd
            · exact hup j hj (by omega)⟩,by show l.length-Int.toNat ((i+1+1:Nat):Int)<l.length-(i+1);rw [Int.toNat_natCast];omega,fun _ h=>h⟩
  · have:i=l.length:=by omega
    subst this
    refine .inr ⟨(true,()),?_,fun _=>⟨fun c hc=>?_,fun j hj=>hup j hj hj⟩⟩
    · simp only [outn,cond_false]
    · obtain ⟨j,hj,rfl⟩:=List.getElem_of_mem hc
      exact hne j hj hj
theorem find1_t (c:tRecT) (k:tValueT) (h:c.1≠ []):rel_find_1.F (c.1,c.2,k.1,k.2.1,k.2.2,())=some (cV (kd c.1) k,()):=by
  rw [rel_find_1.eq];unfold rel_find_1.B
  simp only [pos_of h,d00,Bool.and_self,cond_true]
  exact bto _ (cV_t (kd c.1) k) rfl
/--a place in a rising list -/
structure Place (l:List tRecT) (k:tValueT) (i:Nat):Prop where
  le:i≤l.length
  lo:∀(j:Nat) (hj:j<l.length),j<i→cV (kd l[j].1) k<0
  hi:∀(j:Nat) (hj:j<l.length),i≤j→¬cV (kd l[j].1) k<0
theorem half (i j n:Nat) (hij:i<j) (hj:j≤n) (hn:n≤1000000):IntKind.i64.wrap (Int.fdiv (IntKind.u64.wrap (IntKind.i64.wrap ((i:Int)+(j:Int)))) (2^min (Int.toNat (1:Int)) IntKind.u64.bits))=(((i+j)/2:Nat):Int):=by
  have h1:IntKind.i64.wrap ((i:Int)+(j:Int))=((i+j:Nat):Int):=by rw [i64_wrap]<;>omega
  have h2:IntKind.u64.wrap ((i+j:Nat):Int)=((i+j:Nat):Int):=by
    have:IntKind.u64.wrap ((i+j:Nat):Int)=((i+j:Nat):Int)%18446744073709551616:=rfl
    rw [this];omega
  have h3:(2:Int)^min (Int.toNat (1:Int)) IntKind.u64.bits=2:=rfl
  rw [h1,h2,h3,Int.fdiv_eq_ediv_of_nonneg _ (by decide),i64_wrap]<;>omega
set_option maxHeartbeats 2000000 in
theorem findR_t (n : ByteArray) (l : List tRecT) (k : tValueT) (R : Rising l) (hl : l.length ≤ 1000000) : ∃ (i : Nat) (b : Bool),rel_find.F (n,l,k.1,k.2.1,k.2.2,()) = some ((i : Int),b,()) ∧ Place l k i ∧ (b = true → ∃ h : i < l.length,kd l[i].1 = k) := by
  rw [rel_find.eq];unfold rel_find.B
  simp only []
  have key:∃r:(Int×Unit)⊕(Int×Bool×Unit),(loopM (S:=Int×Int×Unit) (fun (x9,x10,_)=>
  (bif (decide (x9<x10)) then
  let e1:Int:=(IntKind.i64.wrap (x9+x10))
  bif (!decide ((1:Int)<0)) then
  Option.bind (
  bif (decide (0≤(IntKind.i64.wrap ((Int.fdiv (IntKind.u64.wrap (e1)) (2^min (Int.toNat (1:Int)) IntKind.u64.bits)))))&&decide ((IntKind.i64.wrap ((Int.fdiv (IntKind.u64.wrap (e1)) (2^min (Int.toNat (1:Int)) IntKind.u64.bits))))<(l.length:Int))) then
  let e2:tRecT:=(List.getD l (Int.toNat (IntKind.i64.wrap ((Int.fdiv (IntKind.u64.wrap (e1)) (2^min (Int.toNat (1:Int)) IntKind.u64.bits))))) tRec.z)
  Option.bind (rel_find_1.F (e2.1,e2.2,k.1,k.2.1,k.2.2,())) fun y3=>
  some (.inl ((decide (y3.1<(0:Int))),()))
  else none:Option ((Bool×Unit)⊕_)) fun r4=>match r4 with
  | .inl (x31_4,_)=>
  ((bif x31_4 then
  let e5:Int:=(IntKind.i64.wrap ((IntKind.i64.wrap ((Int.fdiv (IntKind.u64.wrap (e1)) (2^min (Int.toNat (1:Int)) IntKind.u64.bits))))+(1:Int)))
  some (.inl (e5,x10,()))
  else
  some (.inl (x9,(IntKind.i64.wrap ((Int.fdiv (IntKind.u64.wrap (e1)) (2^min (Int.toNat (1:Int)) IntKind.u64.bits)))),()))))
  | .inr r=>some r
  else none
  else
  some (.inr (.inl (x9,()))))) ((0 : Int),(l.length : Int),()) : Option ((Int × Unit) ⊕ (Int × Bool × Unit))) = some r ∧ ∃ i : Nat,r = .inl ((i : Int),()) ∧ Place l k i := by
    refine loop_m (fun x=>(x.2.1-x.1).toNat) (fun x=>∃i j:Nat,x=((i:Int),(j:Int),())∧i≤j∧j≤l.length∧(∀(t:Nat) (ht:t<l.length),t<i→cV (kd l[t].1) k<0)∧∀(t:Nat) (ht:t<l.length),j≤t→¬cV (kd l[t].1) k<0) (fun _ (r:(Int×Unit)⊕(Int×Bool×Unit))=>∃i:Nat,r=.inl ((i:Int),())∧Place l k i) ?_ ((0:Int),(l.length:Int),()) ⟨0,l.length,rfl,by omega,by omega,fun t _ h=>by omega,fun t _ h=>by omega⟩
    rintro _ ⟨i,j,rfl,hij,hj,hlo,hhi⟩
    by_cases hlt:i<j
    · have d:decide ((i:Int)<(j:Int))=true:=by simp;omega
      have d1:(!decide ((1:Int)<0))=true:=rfl
      have hh:=half i j l.length hlt hj hl
      generalize hm:(i+j)/2=m at hh
      have hml:m<l.length:=by omega
      have gm:List.getD l m tRec.z=l[m]:=getD_at hml _
      have hc:=find1_t l[m] k (R.some _ (List.getElem_mem hml))
      have hw:IntKind.i64.wrap ((m:Int)+1)=((m+1:Nat):Int):=wrap_s hml (by omega)
      simp only [d,d1,cond_true,hh,nonneg,inn hml,Bool.and_self,Int.toNat_natCast,gm,hc,Option.bind_some]
      by_cases hcm:cV (kd l[m].1) k<0
      · simp only [hcm,decide_true,cond_true,hw]
        refine .inl ⟨_,rfl,⟨m+1,j,rfl,by omega,hj,fun t ht h=>?_,hhi⟩,by show ((j:Int)-((m+1:Nat):Int)).toNat<((j:Int)-(i:Int)).toNat;omega,fun _ h=>h⟩
        by_cases e:t=m
        · subst e;exact hcm
        · exact cV_trans (R.lt m t (by omega) hml) hcm
      · simp only [hcm,decide_false,cond_false]
        refine .inl ⟨_,rfl,⟨i,m,rfl,by omega,by omega,hlo,fun t ht h hc2=>?_⟩,by show ((m:Int)-(i:Int)).toNat<((j:Int)-(i:Int)).toNat;omega,fun _ h=>h⟩
        by_cases e:t=m
        · subst e;exact hcm hc2
        · exact hcm (cV_trans (R.lt t m (by omega) ht) hc2)
    · have e:i=j:=by omega
      subst e
      refine .inr ⟨.inl ((i:Int),()),?_,i,rfl,hj,hlo,hhi⟩
      simp only [outn,cond_false]
  obtain ⟨_,h1,i,rfl,P⟩:=key
  refine ⟨i,decide (∃h:i<l.length,kd l[i].1=k),?_,P,fun h=>of_decide_eq_true h⟩
  refine bto _ h1 ?_
  by_cases hlt:i<l.length
  · have gi:List.getD l i tRec.z=l[i]:=getD_at hlt _
    have hc:=find1_t l[i] k (R.some _ (List.getElem_mem hlt))
    simp only [inn hlt,nonneg,Bool.and_self,cond_true,Int.toNat_natCast,gi,hc,Option.bind_some]
    have:(cV (kd l[i].1) k==0)=decide (∃h:i<l.length,kd l[i].1=k):=by
      by_cases e:kd l[i].1=k
      · have:decide (∃h:i<l.length,kd l[i].1=k)=true:=decide_eq_true ⟨hlt,e⟩
        rw [this,e,cV_self];rfl
      · have:decide (∃h:i<l.length,kd l[i].1=k)=false:=decide_eq_false fun ⟨_,h⟩=>e h
        rw [this,beq_eq_false_iff_ne]
        exact fun h=>e (cV_zero h)
    rw [this]
  · have hil:i=l.length:=by have:=P.le;omega
    have:decide (∃h:i<l.length,kd l[i].1=k)=false:=decide_eq_false fun ⟨h,_⟩=>hlt h
    rw [this]
    subst hil
    simp only [outn,cond_false]
end Go.Proofs.Ytniojllnooblcaa
end
section
set_option maxRecDepth 100000
namespace Go.Proofs.Ytniojllnooblcaa
open Go Lv Go.Proofs Go.RowKit Go.Shelf
theorem clone_t (xs:List tValueT) (h:xs.length≤1000000):slices_Clone_api_Row_api_Value.F (xs,())=some (xs,()):=by
  rw [slices_Clone_api_Row_api_Value.eq];unfold slices_Clone_api_Row_api_Value.B
  have hb:Nat.ble (([]:List tValueT).length+xs.length) 4398046511104=true:=Nat.ble_eq_true_of_le (by simp;omega)
  simp only [hb]
  cases xs with
  |nil=>unfold both;simp
  |cons a r=>rfl
theorem copied_r (c:tRecT) (h:c.1.length≤1000000):rel_copied.F (c.1,c.2,())=some (c.2,c.1,()):=by
  rw [rel_copied.eq];unfold rel_copied.B
  exact bto _ (clone_t c.1 h) rfl
theorem some_t (l:List tRecT) (hl:l.length≤1000000) (hr:∀c∈l,c.1.length≤1000000):rel_some.F (l,())=some (l,()):=by
  rw [rel_some.eq];unfold rel_some.B
  simp only []
  refine loop_f (S:=Int×(List tRecT)×Unit) (fun x=>l.length-x.1.toNat) (fun x=>∃i:Nat,x=((i:Int),l.take i,())∧i≤l.length) (fun _=>(l,())) ?_ _ ⟨0,rfl,by omega⟩
  rintro _ ⟨i,rfl,hi⟩
  by_cases hlt:i<l.length
  · have hc:=copied_r l[i] (hr _ (List.getElem_mem hlt))
    have hb:Nat.ble ((l.take i).length+ [(l[i].1,l[i].2)].length) 4398046511104=true:=Nat.ble_eq_true_of_le (by simp;omega)
    refine .inl ⟨(((i+1:Nat):Int),l.take (i+1),()),?_,⟨i+1,rfl,by omega⟩,by show l.length-Int.toNat ((i+1:Nat):Int)<l.length-Int.toNat (i:Int);rw [Int.toNat_natCast,Int.toNat_natCast];omega,rfl⟩
    simp only [inn hlt,nonneg,Bool.and_self,cond_true,Int.toNat_natCast,getD_at hlt,hc,Option.bind_some,hb,wrap_s hlt (show l.length<9223372036854775808 by omega)]
    rw [←List.take_append_getElem hlt]
  · have:i=l.length:=by omega
    subst this
    refine .inr ?_
    simp only [outn,cond_false,List.take_length]
theorem look_r (L:List tRelT) (tb:ByteArray) (hL:L.length≤1000000):∃r:tRelT,reads_Look.F (L,tb,())=some (r.1,r.2,())∧(r∈L∨r=((⟨#[]⟩:ByteArray),[])):=by
  rw [reads_Look.eq];unfold reads_Look.B
  simp only []
  have key:∀{x:Option (ByteArray×List tRecT×Unit)},(∃r,x=some r∧∃q:tRelT,r=(q.1,q.2,())∧(q∈L∨q=((⟨#[]⟩:ByteArray),[])))→∃r:tRelT,x=some (r.1,r.2,())∧(r∈L∨r=((⟨#[]⟩:ByteArray),[])):=by
    rintro _ ⟨_,rfl,q,rfl,h⟩
    exact ⟨q,rfl,h⟩
  refine key (loop_m (fun x=>L.length-x.1.toNat) (fun x=>∃i:Nat,x=((i:Int),())∧i≤L.length) (fun _ r=>∃q:tRelT,r=(q.1,q.2,())∧(q∈L∨q=((⟨#[]⟩:ByteArray),[]))) ?_ ((0:Int),()) ⟨0,rfl,by omega⟩)
  rintro _ ⟨i,rfl,hi⟩
  by_cases hlt:i<L.length
  · have hn:decide ((i:Int)<(0:Int))=false:=by simp
    simp only [inn hlt,nonneg,Bool.and_self,cond_true,Int.toNat_natCast,getD_at hlt,Option.bind_some,hn,cond_false]
    cases (L[i].1.toList==tb.toList) with
    |true=>exact .inr ⟨_,rfl,L[i],rfl,.inl (List.getElem_mem hlt)⟩
    |false=>exact .inl ⟨_,rfl,⟨i+1,by rw [wrap_s hlt (by omega)],by omega⟩,by show L.length-Int.toNat (IntKind.i64.wrap _)<L.length-i;rw [wrap_s hlt (by omega),Int.toNat_natCast];omega,fun _ h=>h⟩
  · have:i=L.length:=by omega
    subst this
    refine .inr ⟨((⟨#[]⟩:ByteArray),[],()),?_,((⟨#[]⟩:ByteArray),[]),rfl,.inr rfl⟩
    simp only [outn,cond_false]
    rfl
theorem get_r (n : ByteArray) (l : List tRecT) (k : tValueT) (hl : l.length ≤ 1000000) (hr : ∀ c ∈ l,c.1.length ≤ 1000) : ∃ (t : Int) (b : Bool) (row : List tValueT),rel_Get.F (n,l,k.1,k.2.1,k.2.2,()) = some (t,b,row,()) ∧ (b = true → ∃ r,row = k :: r ∧ row.length ≤ 1000) := by
  rw [rel_Get.eq];unfold rel_Get.B
  obtain ⟨b,hb,hR⟩:=mayR_t n l hl
  cases b with
  |false=>exact ⟨0,false,[],bto _ hb rfl,fun h=>by cases h⟩
  |true=>
    have R:=hR rfl
    obtain ⟨i,c,hf,P,hc⟩:=findR_t n l k R hl
    cases c with
    |false=>exact ⟨0,false,[],bto _ hb (bto _ hf rfl),fun h=>by cases h⟩
    |true=>
      obtain ⟨hi,hk⟩:=hc rfl
      refine ⟨l[i].2,true,l[i].1,?_,fun _=>?_⟩
      · refine bto _ hb (bto _ hf ?_)
        have hcp:=copied_r l[i] (Nat.le_trans (hr _ (List.getElem_mem hi)) (by decide))
        simp only [Bool.not_true,cond_false,nonneg,inn hi,Bool.and_self,cond_true,Int.toNat_natCast,getD_at hi,hcp,Option.bind_some]
      · have hne:=R.some _ (List.getElem_mem hi)
        have hlen:=hr _ (List.getElem_mem hi)
        generalize l[i].1=row at hk hne hlen
        cases row with
        |nil=>exact absurd rfl hne
        |cons a r=>exact ⟨r,by rw [←hk];rfl,hlen⟩
theorem scan_r (n : ByteArray) (l : List tRecT) (lo hi : tValueT) (hl : l.length ≤ 1000) (hr : ∀ c ∈ l,c.1.length ≤ 1000) : ∃ out : List tRecT,rel_Scan.F (n,l,lo.1,lo.2.1,lo.2.2,hi.1,hi.2.1,hi.2.2,()) = some (out,()) ∧ out.length ≤ 1000 ∧ ∀ c ∈ out,c.1 ≠ [] ∧ ¬ cV (kd c.1) lo < 0 ∧ cV (kd c.1) hi < 0 := by
  rw [rel_Scan.eq];unfold rel_Scan.B
  obtain ⟨b,hb,hR⟩:=mayR_t n l (by omega)
  cases b with
  |false=>exact ⟨[],bto (.inr ([],())) (bto _ hb rfl) rfl,by simp,fun c h=>by cases h⟩
  |true=>
    have R:=hR rfl
    by_cases hc:cV lo hi<0
    · obtain ⟨i,_,hf,P,_⟩:=findR_t n l lo R (by omega)
      obtain ⟨j,_,hg,Q,_⟩:=findR_t n l hi R (by omega)
      have hij:i≤j:=by
        refine Nat.le_of_not_lt fun h=>?_
        have hj:j<l.length:=Nat.lt_of_lt_of_le h P.le
        exact Q.hi j hj (Nat.le_refl _) (cV_trans (P.lo j hj h) hc)
      have hm:∀c∈List.drop i (List.take j l),c∈l:=fun c h=>List.mem_of_mem_take (List.mem_of_mem_drop h)
      refine ⟨List.drop i (List.take j l),?_,?_,fun c h=>?_⟩
      · refine bto (.inl ()) (bto _ hb (bto _ (cV_t lo hi) ?_)) ?_
        · have d:decide (cV lo hi≥0)=false:=by simp;omega
          show (bif decide (cV lo hi≥0) then _ else _)=_
          rw [d];rfl
        · refine bto _ hf (bto _ hg ?_)
          have e1:decide ((i:Int)≤(j:Int))=true:=by simp;omega
          have e2:decide ((j:Int)≤(l.length:Int))=true:=by have:=Q.le;simp;omega
          have hs:=some_t (List.drop i (List.take j l)) (by simp;omega) (fun c h=>Nat.le_trans (hr c (hm c h)) (by decide))
          simp only [nonneg,e1,e2,Bool.and_self,cond_true,Int.toNat_natCast,hs,Option.bind_some]
      · simp;omega
      · refine ⟨R.some c (hm c h),?_⟩
        obtain ⟨t,ht,rfl⟩:=List.getElem_of_mem h
        have ht':t<j-i:=by simp at ht;omega
        have hlen:i+t<l.length:=by simp at ht;omega
        have e:(List.drop i (List.take j l))[t]=l[i+t]:=by rw [List.getElem_drop,List.getElem_take]
        rw [e]
        exact ⟨P.hi _ hlen (by omega),Q.lo _ hlen (by omega)⟩
    · refine ⟨[],bto (.inr ([],())) (bto _ hb (bto _ (cV_t lo hi) ?_)) rfl,by simp,fun c h=>by cases h⟩
      have d:decide (cV lo hi≥0)=true:=by simp;omega
      show (bif decide (cV lo hi≥0) then _ else _)=_
      rw [d];rfl
end Go.Proofs.Ytniojllnooblcaa
end
section
set_option maxRecDepth 100000
namespace Go.Proofs.Ytniojllnooblcaa
open Go Lv Go.Proofs Go.RowKit Go.Shelf
abbrev Up (l:List tValueT):Prop:=l.Pairwise fun x y=>cV x y<0
abbrev Srt (l:List tValueT):Prop:=l.Pairwise fun x y=>¬cV y x<0
theorem v_eq {x y:tValueT} (h:Ty.eq tValue x y=true):x=y:=(Ty.eq_dec tValue rfl x y).1 h
theorem v_ne {x y:tValueT} (h:Ty.eq tValue x y=false):x≠y:=fun e=>by
  rw [(Ty.eq_dec tValue rfl x y).2 e] at h;cases h
theorem srt_at {l:List tValueT} (h:Srt l) {i j:Nat} (hij:i≤j) (hj:j<l.length):¬cV l[j] (l[i]'(by omega))<0:=by
  by_cases e:i=j
  · subst e;rw [cV_self];omega
  · exact List.pairwise_iff_getElem.1 h i j (by omega) hj (by omega)
theorem up_snoc {l:List tValueT} {v:tValueT} (h:Up l) (hv:∀z∈l,cV z v<0):Up (l++ [v]):=
  List.pairwise_append.2 ⟨h,by simp,fun a ha b hb=>by rw [List.mem_singleton.1 hb];exact hv a ha⟩
theorem mem_take {l:List tValueT} {k:Nat} {z:tValueT} (h:z∈l.take k):∃(t:Nat) (ht:t<l.length),t<k∧l[t]=z:=by
  obtain ⟨t,ht,rfl⟩:=List.getElem_of_mem h
  have:t<k∧t<l.length:=by simp at ht;omega
  exact ⟨t,this.2,this.1,by rw [List.getElem_take]⟩
structure Inner (ys:List tValueT) (k i j:Nat) (o:List tValueT):Prop where
  ki:k≤i
  ij:i+1≤k+j
  j1:1≤j
  jn:k+j≤ys.length
  len:o.length=ys.length
  same:∀(t:Nat) (ht:t<ys.length),i≤t→o[t]'(by omega)=ys[t]
  up:Up (o.take i)
  mem:∀z∈o.take i,z∈ys
  le:∀z∈o.take i,¬cV (ys[k+j-1]'(by omega)) z<0
set_option maxHeartbeats 4000000 in
theorem compact_r (ys : List tValueT) (hs : Srt ys) (hl : ys.length ≤ 1000000) : ∃ zs,slices_Compact_sl_api_Value_api_Value.F (ys,()) = some (zs,()) ∧ Up zs ∧ (∀ z ∈ zs,z ∈ ys) ∧ zs.length ≤ ys.length := by
  rw [slices_Compact_sl_api_Value_api_Value.eq];unfold slices_Compact_sl_api_Value_api_Value.B
  simp only []
  by_cases h2:ys.length<2
  · have d:decide ((ys.length:Int)<(2:Int))=true:=by simp;omega
    rw [d]
    refine ⟨ys,rfl,?_,fun z h=>h,Nat.le_refl _⟩
    match ys,h2 with
    | [],_=>exact .nil
    | [a],_=>simp
    |_::_::_,h=>simp at h;omega
  · have d : decide ((ys.length : Int) < (2 : Int)) = false := by simp; omega
    rw [d,cond_false]
    have key:∀{x:Option (List tValueT×Unit)},(∃r,x=some r∧∃zs,r=(zs,())∧Up zs∧(∀z∈zs,z∈ys)∧zs.length≤ys.length)→∃zs,x=some (zs,())∧Up zs∧(∀z∈zs,z∈ys)∧zs.length≤ys.length:=by
      rintro _ ⟨_,rfl,zs,rfl,h⟩
      exact ⟨zs,rfl,h⟩
    refine key (loop_m (fun x=>ys.length-x.1.toNat) (fun x=>∃k:Nat,x=((k:Int),())∧1≤k∧k≤ys.length∧Up (ys.take k)) (fun _ r=>∃zs,r=(zs,())∧Up zs∧(∀z∈zs,z∈ys)∧zs.length≤ys.length) ?_ ((1:Int),()) ⟨1,rfl,by omega,by omega,?_⟩)
    · rintro _ ⟨k,rfl,hk1,hk,hup⟩
      by_cases hlt:k<ys.length
      · have hp : IntKind.i64.wrap ((k : Int) - 1) = ((k - 1 : Nat) : Int) := by rw [i64_wrap] <;> omega
        have hw:IntKind.i64.wrap ((k:Int)+1)=((k+1:Nat):Int):=wrap_s hlt (by omega)
        have g1:List.getD ys k tValue.z=ys[k]:=getD_at hlt _
        have g2:List.getD ys (k-1) tValue.z=ys[k-1]:=getD_at (by omega) _
        have c1:decide ((k:Int)≤(ys.length:Int))=true:=by simp;omega
        have c2:decide ((ys.length:Int)≤(ys.length:Int))=true:=by simp
        simp only [inn hlt,nonneg,Bool.and_self,cond_true,Int.toNat_natCast,g1,hp,inn (show k-1<ys.length by omega),g2,c1,c2]
        cases he:Ty.eq tValue ys[k] ys[k-1] with
        |false=>
          have hne:=v_ne he
          have hlt':cV ys[k-1] ys[k]<0:=cV_nle (srt_at hs (show k-1≤k by omega) hlt) hne
          simp only [cond_false,Option.bind_some,hw]
          refine .inl ⟨_,rfl,⟨k+1,rfl,by omega,by omega,?_⟩,by show ys.length-Int.toNat ((k+1:Nat):Int)<ys.length-k;rw [Int.toNat_natCast];omega,fun _ h=>h⟩
          rw [←List.take_append_getElem hlt]
          refine up_snoc hup fun z hz=>?_
          obtain ⟨t,ht,htk,rfl⟩:=mem_take hz
          exact cV_le_lt (srt_at hs (show t≤k-1 by omega) (by omega)) hlt'
        |true=>
          have hin:∃r:(Int×(List tValueT)×Unit)⊕((Int×Unit)⊕((Int×Unit)⊕(List tValueT×Unit))),(loopM (S:=Int×Int×(List tValueT)×Unit) (fun (x3',x5',o0_0',_)=>
            (bif (decide (x5'<((ys.length-k:Nat):Int))) then
            bif (decide (0≤x5')&&decide (x5'<((ys.length-k:Nat):Int))) then
            let e4:tValueT:=(List.getD o0_0' (k+(Int.toNat x5'):Nat) tValue.z)
            let e5:Int:=(IntKind.i64.wrap (x5'-(1:Int)))
            bif (decide (0≤e5)&&decide (e5<((ys.length-k:Nat):Int))) then
            let e6:tValueT:=(List.getD o0_0' (k+(Int.toNat e5):Nat) tValue.z)
            (bif (!(Ty.eq tValue e4 e6)) then
            bif (decide (0≤x5')&&decide (x5'<((ys.length-k:Nat):Int))) then
            let e7:tValueT:=(List.getD o0_0' (k+(Int.toNat x5'):Nat) tValue.z)
            bif (decide (0≤x3')&&decide (x3'<(o0_0'.length:Int))) then
            let e8:Int:=(IntKind.i64.wrap (x3'+(1:Int)))
            let e9:Int:=(IntKind.i64.wrap (x5'+(1:Int)))
            some (.inl (e8,e9,(List.set o0_0' (Int.toNat x3') e7),()))
            else none
            else none
            else
            let e10:Int:=(IntKind.i64.wrap (x5'+(1:Int)))
            some (.inl (x3',e10,o0_0',())))
            else none
            else none
            else
            some (.inr (.inl (x3',o0_0',()))))) ((k:Int),(1:Int),ys,()):Option ((Int×(List tValueT)×Unit)⊕((Int×Unit)⊕((Int×Unit)⊕(List tValueT×Unit)))))=some r∧∃(i:Nat) (o:List tValueT),r=Sum.inl ((i:Int),o,())∧i≤o.length∧o.length=ys.length∧Up (o.take i)∧∀z∈o.take i,z∈ys:=by
            refine loop_m (fun x=>(ys.length-k)-x.2.1.toNat) (fun x=>∃(i j:Nat) (o:List tValueT),x=((i:Int),(j:Int),o,())∧Inner ys k i j o) (fun _ r=>∃(i:Nat) (o:List tValueT),r=Sum.inl ((i:Int),o,())∧i≤o.length∧o.length=ys.length∧Up (o.take i)∧∀z∈o.take i,z∈ys) ?_ ((k:Int),(1:Int),ys,()) ⟨k,1,ys,rfl,Nat.le_refl _,Nat.le_refl _,Nat.le_refl _,hlt,rfl,fun _ _ _=>rfl,hup,fun z h=>List.mem_of_mem_take h,fun z h=>?_⟩
            · rintro _ ⟨i,j,o,rfl,I⟩
              have hki:=I.ki
              have hij:=I.ij
              have hj1:=I.j1
              have hjn:=I.jn
              have hol:=I.len
              by_cases hj:j<ys.length-k
              · have hw1:IntKind.i64.wrap ((j:Int)-1)=((j-1:Nat):Int):=by rw [i64_wrap]<;>omega
                have hw2:IntKind.i64.wrap ((j:Int)+1)=((j+1:Nat):Int):=by rw [i64_wrap]<;>omega
                have hw3:IntKind.i64.wrap ((i:Int)+1)=((i+1:Nat):Int):=by rw [i64_wrap]<;>omega
                have q1:List.getD o (k+j) tValue.z=ys[k+j]:=(getD_at (by omega) _).trans (I.same _ (by omega) (by omega))
                have q2:List.getD o (k+(j-1)) tValue.z=ys[k+j-1]:=by
                  rw [show k+(j-1)=k+j-1 by omega]
                  exact (getD_at (by omega) _).trans (I.same _ (by omega) (by omega))
                have hio:decide ((i:Int)<(o.length:Int))=true:=by simp;omega
                simp only [inn hj,nonneg,Bool.and_self,cond_true,Int.toNat_natCast,hw1,inn (show j-1<ys.length-k by omega),q1,q2]
                cases hf:Ty.eq tValue ys[k+j] ys[k+j-1] with
                |true=>
                  have ef:=v_eq hf
                  simp only [Bool.not_true,cond_false,hw2]
                  refine .inl ⟨_,rfl,⟨i,j+1,o,rfl,hki,by omega,by omega,by omega,hol,I.same,I.up,I.mem,fun z hz=>?_⟩,by show ys.length-k-Int.toNat ((j+1:Nat):Int)<ys.length-k-j;rw [Int.toNat_natCast];omega,fun _ h=>h⟩
                  have:=I.le z hz
                  rw [←ef] at this
                  exact this
                |false=>
                  have nf:=v_ne hf
                  have hlt2:cV ys[k+j-1] ys[k+j]<0:=cV_nle (srt_at hs (show k+j-1≤k+j by omega) (by omega)) nf
                  simp only [Bool.not_false,cond_true,inn hj,nonneg,Bool.and_self,hio,hw2,hw3]
                  have ht:(List.set o i ys[k+j]).take (i+1)=o.take i++ [ys[k+j]]:=by
                    rw [List.take_add_one,List.take_set_of_le (Nat.le_refl i)]
                    congr 1
                    rw [List.getElem?_set_self (by omega)]
                    rfl
                  refine .inl ⟨_,rfl,⟨i+1,j+1,_,rfl,by omega,by omega,by omega,by omega,by simp [hol],fun t ht' hit=>?_,?_,fun z hz=>?_,fun z hz=>?_⟩,by show ys.length-k-Int.toNat ((j+1:Nat):Int)<ys.length-k-j;rw [Int.toNat_natCast];omega,fun _ h=>h⟩
                  · rw [List.getElem_set_ne (by omega)]
                    exact I.same t ht' (by omega)
                  · rw [ht]
                    exact up_snoc I.up fun z hz=>cV_le_lt (I.le z hz) hlt2
                  · rw [ht] at hz
                    rcases List.mem_append.1 hz with h|h
                    · exact I.mem z h
                    · rw [List.mem_singleton.1 h];exact List.getElem_mem _
                  · rw [ht] at hz
                    show ¬cV ys[k+j] z<0
                    rcases List.mem_append.1 hz with h|h
                    · intro hc
                      have:=cV_le_lt (I.le z h) hlt2
                      have:=cV_anti z ys[k+j]
                      omega
                    · rw [List.mem_singleton.1 h,cV_self];omega
              · have e:j=ys.length-k:=by omega
                subst e
                refine .inr ⟨.inl ((i:Int),o,()),?_,i,o,rfl,by omega,hol,I.up,I.mem⟩
                simp only [outn,cond_false]
            · obtain ⟨t,ht,htk,rfl⟩:=mem_take h
              exact srt_at hs (show t≤k+1-1 by omega) (by omega)
          obtain ⟨_,h1,i,o,rfl,hi,hol,hu,hm⟩:=hin
          have c3:decide ((i:Int)≤(o.length:Int))=true:=by simp;omega
          have c4:decide ((o.length:Int)≤(o.length:Int))=true:=by simp
          have hlen:((List.take i o++List.replicate (o.length-i) ((0:Int),((0:Int),(⟨#[]⟩:ByteArray)))++List.drop (i+(o.length-i)) o).length:Int)=(o.length:Int):=by
            simp only [List.length_append,List.length_take,List.length_replicate,List.length_drop];omega
          have c5:decide ((i:Int)≤((List.take i o++List.replicate (o.length-i) ((0:Int),((0:Int),(⟨#[]⟩:ByteArray)))++List.drop (i+(o.length-i)) o).length:Int))=true:=by rw [hlen];exact c3
          have c0:decide ((0:Int)≤(i:Int))=true:=nonneg i
          refine .inr ⟨(o.take i,()),?_,o.take i,rfl,hu,hm,by simp;omega⟩
          simp only [cond_true,h1,Option.bind_some,c3,c4,c5,c0,d00,nonneg,Bool.and_self,Int.toNat_natCast,Int.toNat_zero,Nat.sub_zero,List.drop_zero]
          have e:List.take i (List.take i o++List.replicate (o.length-i) ((0:Int),((0:Int),(⟨#[]⟩:ByteArray)))++List.drop (i+(o.length-i)) o)=List.take i o:=by
            rw [List.append_assoc,List.take_append_of_le_length (by simp;omega),List.take_take,Nat.min_self]
          rw [e]
      · have e:k=ys.length:=by omega
        subst e
        refine .inr ⟨(ys,()),?_,ys,rfl,by rw [List.take_length] at hup;exact hup,fun z h=>h,Nat.le_refl _⟩
        simp only [outn,cond_false]
    · match ys,h2 with
      |a::r,_=>simp
      | [],h=>simp at h
end Go.Proofs.Ytniojllnooblcaa
end
section
set_option maxRecDepth 100000
namespace Go.Proofs.Ytniojllnooblcaa
open Go Lv Go.Proofs Go.RowKit Go.Shelf
structure Sml (L:List tRelT) (ws:List tWriteT):Prop where
  l:L.length≤1000
  r:∀r∈L,r.2.length≤1000
  c:∀r∈L,∀c∈r.2,c.1.length≤1000
  w:ws.length≤1000
  x:∀w∈ws,w.2.2.length≤1000
theorem look_s {L:List tRelT} {ws:List tWriteT} (S:Sml L ws) (tb:ByteArray):∃r:tRelT,reads_Look.F (L,tb,())=some (r.1,r.2,())∧r.2.length≤1000∧∀c∈r.2,c.1.length≤1000:=by
  obtain ⟨r,h,hr⟩:=look_r L tb (Nat.le_trans S.l (by decide))
  refine ⟨r,h,?_⟩
  rcases hr with hr|rfl
  · exact ⟨S.r r hr,S.c r hr⟩
  · exact ⟨by simp,fun c h=>by cases h⟩
theorem row_r {L : List tRelT} {ws : List tWriteT} (S : Sml L ws) (tb : ByteArray) (k : tValueT) : ∃ p : Bool × List tValueT,rowP L ws tb k = some p ∧ (p.1 = true → ∃ r,p.2 = k :: r ∧ p.2.length ≤ 1000) := by
  unfold rowP
  have ha:ws.all (fun w=>Nat.ble w.2.2.length 4398046511104)=true:=List.all_eq_true.2 fun w hw=>Nat.ble_eq_true_of_le (Nat.le_trans (S.x w hw) (by decide))
  rw [ha,cond_true]
  cases h:lastW ws tb k with
  |some w=>
    refine ⟨_,rfl,fun hb=>?_⟩
    have hm:w∈ws:=List.mem_reverse.1 (List.mem_of_find?_eq_some h)
    have h':ws.reverse.find? (fun w=>ofP w tb k)=some w:=h
    have ho:ofP w tb k=true:=List.find?_some (p:=fun w=>ofP w tb k) h'
    unfold hitP at hb ⊢
    cases hd:w.2.1 with
    |true=>rw [hd] at hb;cases hb
    |false=>
      have hx:=S.x w hm
      simp only [hd,Bool.false_eq_true,if_false]
      unfold ofP at ho
      cases hr:w.2.2 with
      |nil=>rw [hr] at ho;simp at ho
      |cons x r=>
        rw [hr] at ho hx
        simp only [Bool.and_eq_true] at ho
        exact ⟨r,by rw [v_eq ho.2],hx⟩
  |none=>
    obtain ⟨q,hq,h1,h2⟩:=look_s S tb
    obtain ⟨t,b,row,hg,hb⟩:=get_r q.1 q.2 k (Nat.le_trans h1 (by decide)) h2
    exact ⟨(b,row),bto _ hq (bto _ hg rfl),hb⟩
noncomputable def RW (L:List tRelT) (ws:List tWriteT) (tb:ByteArray) (k:tValueT):Bool×List tValueT:=(rowP L ws tb k).getD (false,[])
theorem rw_t {L:List tRelT} {ws:List tWriteT} (S:Sml L ws) (tb:ByteArray) (k:tValueT):txn_Row.F (L,ws,tb,k.1,k.2.1,k.2.2,())=some ((RW L ws tb k).1,(RW L ws tb k).2,()):=by
  obtain ⟨p,hp,_⟩:=row_r S tb k
  rw [txn_Row.eq]
  show txnRowF (L,ws,tb,k.1,k.2.1,k.2.2,())=_
  unfold txnRowF
  have hw:=S.w
  simp only []
  rw [show Nat.ble ws.length 140737488351=true from Nat.ble_eq_true_of_le (by omega),cond_true,show (k.1,(k.2.1,k.2.2))=k from rfl]
  unfold RW
  rw [hp]
  rfl
theorem rw_k {L:List tRelT} {ws:List tWriteT} (S:Sml L ws) (tb:ByteArray) (k:tValueT) (h:(RW L ws tb k).1=true):∃r,(RW L ws tb k).2=k::r∧(RW L ws tb k).2.length≤1000:=by
  obtain ⟨p,hp,hk⟩:=row_r S tb k
  unfold RW at h ⊢
  rw [hp] at h ⊢
  exact hk h
theorem sort_r (xs:List tValueT) (hl:xs.length≤1000000):∃ys,slices_SortFunc_sl_api_Value_api_Value.F (xs,())=some (ys,())∧Srt ys∧ys.Perm xs:=by
  have ht:∀a b c:tValueT,decide (¬cV b a<0)=true→decide (¬cV c b<0)=true→decide (¬cV c a<0)=true:=fun a b c h k=>decide_eq_true (cV_le_trans (of_decide_eq_true h) (of_decide_eq_true k))
  have hq:∀a b:tValueT,(decide (¬cV b a<0)||decide (¬cV a b<0))=true:=fun a b=>by
    have:=cV_anti a b
    by_cases h:cV b a<0
    · have:¬cV a b<0:=by omega
      simp [this]
    · simp [h]
  have hs:Srt (xs.mergeSort fun x y=>decide (¬cV y x<0)):=(List.pairwise_mergeSort (le:=fun x y=>decide (¬cV y x<0)) ht hq xs).imp fun h=>of_decide_eq_true h
  have hp:=List.mergeSort_perm xs (fun x y=>decide (¬cV y x<0))
  refine ⟨_,?_,hs,hp⟩
  rw [slices_SortFunc_sl_api_Value_api_Value.eq]
  show sortL (cmpOf tValue value_Compare.F) (xs,())=_
  refine sortL_some ⟨by omega,cV,fun x _ y _=>?_,fun x _=>by rw [cV_self];omega,fun x _ y _ z _ h k=>cV_trans h k,fun x _ y _ z _ h k=>cV_le_trans k h,fun x _ y _ h k=>?_,hp,hs⟩
  · show ((value_Compare.F (x.1,x.2.1,x.2.2,y.1,y.2.1,y.2.2,())).map fun p=>p.1)=_
    rw [cV_t];rfl
  · have:=cV_anti x y
    exact cV_zero (by omega)
end Go.Proofs.Ytniojllnooblcaa
end
section
set_option maxRecDepth 100000
namespace Go.Proofs.Ytniojllnooblcaa
open Go Lv Go.Proofs Go.RowKit Go.Shelf
theorem bex {α β:Type} {x:Option α} {K:α→Option (β×Unit)} {P:β→Prop} (Q:α→Prop) (h:∃v,x=some v∧Q v) (g:∀v,Q v→∃o,K v=some (o,())∧P o):∃o,x.bind K=some (o,())∧P o:=by
  obtain ⟨v,rfl,hq⟩:=h
  exact g v hq
def Btw (lo hi k:tValueT):Prop:=¬cV k lo<0∧cV k hi<0
/--what a scan of rows is -/
structure Scn (L:List tRelT) (ws:List tWriteT) (tb:ByteArray) (lo hi:tValueT) (out:List (List tValueT)):Prop where
  len:out.length≤1000000
  row:∀x∈out,∃k r,x=k::r∧RW L ws tb k=(true,x)∧x.length≤1000∧Btw lo hi k
  up:out.Pairwise fun x y=>cV (kd x) (kd y)<0
noncomputable def gF (L:List tRelT) (ws:List tWriteT) (tb:ByteArray) (k:tValueT):Option (List tValueT):=if (RW L ws tb k).1=true then some (RW L ws tb k).2 else none
theorem gF_some {L:List tRelT} {ws:List tWriteT} (S:Sml L ws) {tb:ByteArray} {k:tValueT} {x:List tValueT} (h:gF L ws tb k=some x):∃r,x=k::r∧RW L ws tb k=(true,x)∧x.length≤1000:=by
  unfold gF at h
  split at h
  · rename_i hb
    cases h
    obtain ⟨r,e,hl⟩:=rw_k S tb k hb
    exact ⟨r,e,by rw [←hb],hl⟩
  · cases h
theorem scn_of {L:List tRelT} {ws:List tWriteT} (S:Sml L ws) {tb:ByteArray} {lo hi:tValueT} {zs:List tValueT} (hu:Up zs) (hb:∀z∈zs,Btw lo hi z) (hl:zs.length≤1000000):Scn L ws tb lo hi (zs.filterMap (gF L ws tb)):=by
  refine ⟨Nat.le_trans (List.length_filterMap_le _ _) hl,fun x hx=>?_,?_⟩
  · obtain ⟨k,hk,hg⟩:=List.mem_filterMap.1 hx
    obtain ⟨r,e,h1,h2⟩:=gF_some S hg
    exact ⟨k,r,e,h1,h2,hb k hk⟩
  · refine List.pairwise_filterMap.2 (hu.imp fun {a b} h x hx y hy=>?_)
    obtain ⟨r,rfl,_⟩:=gF_some S hx
    obtain ⟨r',rfl,_⟩:=gF_some S hy
    exact h
set_option maxHeartbeats 4000000 in
theorem rows_r {L : List tRelT} {ws : List tWriteT} (S : Sml L ws) (tb : ByteArray) (lo hi : tValueT) : ∃ out,txn_Rows.F (L,ws,tb,lo.1,lo.2.1,lo.2.2,hi.1,hi.2.1,hi.2.2,()) = some (out,()) ∧ Scn L ws tb lo hi out := by
  rw [txn_Rows.eq];unfold txn_Rows.B
  have hw:=S.w
  obtain ⟨q,hq,hq1,hq2⟩:=look_s S tb
  obtain ⟨cs,hcs,hcl,hc⟩:=scan_r q.1 q.2 lo hi hq1 hq2
  refine bex (fun r=>∃ks:List tValueT,r=Sum.inl (ks,())∧ks.length≤1000∧∀k∈ks,Btw lo hi k) ?_ ?_
  · refine ⟨.inl (cs.map fun c=>kd c.1,()),bto _ hq (bto _ hcs ?_),_,rfl,by simp;omega,fun k hk=>?_⟩
    · refine loop_f (S:=Int×(List tValueT)×Unit) (fun x=>cs.length-x.1.toNat) (fun x=>∃i:Nat,x=((i:Int),(cs.take i).map (fun c=>kd c.1),())∧i≤cs.length) (fun _=>Sum.inl (cs.map (fun c=>kd c.1),())) ?_ _ ⟨0,rfl,by omega⟩
      rintro _ ⟨i,rfl,hil⟩
      by_cases hlt:i<cs.length
      · have hp:=pos_of (hc _ (List.getElem_mem hlt)).1
        have hb:Nat.ble (((cs.take i).map fun c=>kd c.1).length+ [kd cs[i].1].length) 4398046511104=true:=Nat.ble_eq_true_of_le (by simp;omega)
        refine .inl ⟨(((i+1:Nat):Int),(cs.take (i+1)).map (fun c=>kd c.1),()),?_,⟨i+1,rfl,by omega⟩,by show cs.length-Int.toNat ((i+1:Nat):Int)<cs.length-Int.toNat (i:Int);rw [Int.toNat_natCast,Int.toNat_natCast];omega,rfl⟩
        simp only [inn hlt,nonneg,Bool.and_self,cond_true,Int.toNat_natCast,getD_at hlt,hp,d00,hb,wrap_s hlt (show cs.length<9223372036854775808 by omega)]
        rw [←List.take_append_getElem hlt,List.map_append];rfl
      · have:i=cs.length:=by omega
        subst this
        refine .inr ?_
        simp only [outn,cond_false,List.take_length]
    · obtain ⟨c,hm,rfl⟩:=List.mem_map.1 hk
      exact (hc c hm).2
  rintro _ ⟨ks,rfl,hkl,hkb⟩
  refine bex (fun r=>∃ks:List tValueT,r=Sum.inl (ks,())∧ks.length≤2000∧∀k∈ks,Btw lo hi k) ?_ ?_
  · refine loop_m (S:=Int×(List tValueT)×Unit) (fun x=>ws.length-x.1.toNat) (fun x=>∃(i:Nat) (l:List tValueT),x=((i:Int),l,())∧i≤ws.length∧l.length≤1000+i∧∀k∈l,Btw lo hi k) (fun _ r=>∃ks:List tValueT,r=Sum.inl (ks,())∧ks.length≤2000∧∀k∈ks,Btw lo hi k) ?_ ((0:Int),ks,()) ⟨0,ks,rfl,by omega,by omega,hkb⟩
    rintro _ ⟨i,l,rfl,hil,hll,hlb⟩
    by_cases hlt:i<ws.length
    · have hwr:IntKind.i64.wrap ((i:Int)+1)=((i+1:Nat):Int):=wrap_s hlt (by omega)
      have next:∀l':List tValueT,l'.length≤1000+(i+1)→(∀k∈l',Btw lo hi k)→∃(j:Nat) (m:List tValueT),(((i+1:Nat):Int),l',())=((j:Int),m,())∧j≤ws.length∧m.length≤1000+j∧∀k∈m,Btw lo hi k:=fun l' h1 h2=>⟨i+1,l',rfl,by omega,h1,h2⟩
      have dec:ws.length-Int.toNat ((i+1:Nat):Int)<ws.length-i:=by rw [Int.toNat_natCast];omega
      simp only [inn hlt,nonneg,Bool.and_self,cond_true,Int.toNat_natCast,getD_at hlt]
      cases hr:ws[i].2.2 with
      |nil=>
        have d:decide (((([]:List tValueT).length:Nat):Int)>0)=false:=rfl
        simp only [d,cond_false,Option.bind_some,hwr]
        exact .inl ⟨_,rfl,next l (by omega) hlb,dec,fun _ h=>h⟩
      |cons v r=>
        have d:decide ((((v::r:List tValueT).length:Nat):Int)>0)=true:=decide_eq_true (by simp)
        have d2:=pos_of (l:=v::r) (by simp)
        have gv:List.getD (v::r) 0 tValue.z=v:=rfl
        simp only [d,cond_true]
        cases (ws[i].1.toList==tb.toList) with
        |false=>
          simp only [cond_false,Option.bind_some,hwr]
          exact .inl ⟨_,rfl,next l (by omega) hlb,dec,fun _ h=>h⟩
        |true=>
          simp only [cond_true,d00,d2,Bool.and_self,gv,cV_t,Option.bind_some]
          by_cases h1:cV v lo<0
          · have e1:decide (cV v lo≥0)=false:=by simp;omega
            simp only [e1,cond_false,Option.bind_some,hwr]
            exact .inl ⟨_,rfl,next l (by omega) hlb,dec,fun _ h=>h⟩
          · have e1:decide (cV v lo≥0)=true:=by simp;omega
            simp only [e1,cond_true,Option.bind_some]
            by_cases h2:cV v hi<0
            · have hb:Nat.ble (l.length+ [v].length) 4398046511104=true:=Nat.ble_eq_true_of_le (by simp;omega)
              simp only [h2,decide_true,cond_true,hb,hwr]
              refine .inl ⟨_,rfl,next (l++ [v]) (by simp;omega) (fun k hk=>?_),dec,fun _ h=>h⟩
              rcases List.mem_append.1 hk with h|h
              · exact hlb k h
              · rw [List.mem_singleton.1 h];exact ⟨h1,h2⟩
            · simp only [h2,decide_false,cond_false,hwr]
              exact .inl ⟨_,rfl,next l (by omega) hlb,dec,fun _ h=>h⟩
    · have:i=ws.length:=by omega
      subst this
      refine .inr ⟨.inl (l,()),?_,l,rfl,by omega,hlb⟩
      simp only [outn,cond_false]
  rintro _ ⟨ks,rfl,hkl,hkb⟩
  obtain ⟨ys,hys,hsrt,hperm⟩:=sort_r ks (by omega)
  have hyl:ys.length≤2000:=by rw [hperm.length_eq];exact hkl
  obtain ⟨zs,hzs,hup,hzm,hzl⟩:=compact_r ys hsrt (by omega)
  have hzb:∀z∈zs,Btw lo hi z:=fun z hz=>hkb z (hperm.subset (hzm z hz))
  refine ⟨zs.filterMap (gF L ws tb),bto _ hys (bto _ hzs ?_),scn_of S hup hzb (by omega)⟩
  refine loop_f (S:=Int×(List (List tValueT))×Unit) (fun x=>zs.length-x.1.toNat) (fun x=>∃i:Nat,x=((i:Int),(zs.take i).filterMap (gF L ws tb),())∧i≤zs.length) (fun _=>(zs.filterMap (gF L ws tb),())) ?_ _ ⟨0,rfl,by omega⟩
  rintro _ ⟨i,rfl,hil⟩
  by_cases hlt:i<zs.length
  · have hr:=rw_t S tb zs[i]
    have hlf:=List.length_filterMap_le (gF L ws tb) (zs.take i)
    have htl:(zs.take i).length≤i:=by simp;omega
    refine .inl ⟨(((i+1:Nat):Int),(zs.take (i+1)).filterMap (gF L ws tb),()),?_,⟨i+1,rfl,by omega⟩,by show zs.length-Int.toNat ((i+1:Nat):Int)<zs.length-Int.toNat (i:Int);rw [Int.toNat_natCast,Int.toNat_natCast];omega,rfl⟩
    have hb:Nat.ble (((zs.take i).filterMap (gF L ws tb)).length+ [(RW L ws tb zs[i]).2].length) 5864062014805=true:=Nat.ble_eq_true_of_le (by simp;omega)
    simp only [inn hlt,nonneg,Bool.and_self,cond_true,Int.toNat_natCast,getD_at hlt,hr,Option.bind_some,hb,wrap_s hlt (show zs.length<9223372036854775808 by omega)]
    rw [←List.take_append_getElem hlt,List.filterMap_append]
    cases hg:(RW L ws tb zs[i]).1 with
    |true=>
      have e:List.filterMap (gF L ws tb) [zs[i]]=[(RW L ws tb zs[i]).2]:=by simp [gF,hg]
      rw [e]
      refine bto _ rfl ?_
      show (bif Nat.ble (((zs.take i).filterMap (gF L ws tb)).length+ [(RW L ws tb zs[i]).2].length) 5864062014805 then _ else _)=_
      rw [hb,cond_true]
    |false=>
      have e:List.filterMap (gF L ws tb) [zs[i]]=[]:=by simp [gF,hg]
      rw [e,List.append_nil]
      exact bto _ rfl rfl
  · have:i=zs.length:=by omega
    subst this
    refine .inr ?_
    simp only [outn,cond_false,List.take_length]
end Go.Proofs.Ytniojllnooblcaa
end
section
set_option maxRecDepth 100000
namespace Go.Proofs.Ytniojllnooblcaa
open Go Lv Go.Proofs Go.RowKit Go.Shelf
/-! ## The guards are told -/
theorem all_r {α R:Type} {body:Int×Unit→Option ((Int×Unit)⊕R)} (l:List α) (P:α→Prop) (bad fin:R) (hl:l.length<1000000000000000)
    (step:∀(i:Nat) (h:i<l.length),body ((i:Int),())=some (.inr bad)∨(body ((i:Int),())=some (.inl (IntKind.i64.wrap ((i:Int)+1),()))∧P l[i])) (hend:body ((l.length:Int),())=some (.inr fin)):
    ∃r,loopM body ((0:Int),())=some r∧(r=bad∨(r=fin∧∀x∈l,P x)):=by
  refine loop_m (fun x=>l.length-x.1.toNat) (fun x=>∃i:Nat,x=((i:Int),())∧i≤l.length∧∀(j:Nat) (hj:j<l.length),j<i→P l[j]) (fun _ r=>r=bad∨(r=fin∧∀x∈l,P x)) ?_ ((0:Int),()) ⟨0,rfl,by omega,fun j _ h=>by omega⟩
  rintro _ ⟨i,rfl,hi,hp⟩
  by_cases hlt:i<l.length
  · rcases step i hlt with h|⟨h,hpi⟩
    · exact .inr ⟨_,h,.inl rfl⟩
    · refine .inl ⟨_,h,⟨i+1,by rw [wrap_s hlt (by omega)],by omega,fun j hj hji=>?_⟩,by show l.length-Int.toNat (IntKind.i64.wrap _)<l.length-i;rw [wrap_s hlt (by omega),Int.toNat_natCast];omega,fun _ h=>h⟩
      by_cases e:j=i
      · subst e;exact hpi
      · exact hp j hj (by omega)
  · have:i=l.length:=by omega
    subst this
    refine .inr ⟨_,hend,.inr ⟨rfl,fun x hx=>?_⟩⟩
    obtain ⟨j,hj,rfl⟩:=List.getElem_of_mem hx
    exact hp j hj hj
abbrev UB:=Unit⊕(Bool×Unit)
theorem bindB {x:Option UB} {K:UB→Option (Bool×Unit)} {P Q:Prop} (h:∃r,x=some r∧(r=Sum.inr (false,())∨(r=Sum.inl ()∧P))) (hk:∀b:Bool×Unit,K (.inr b)=some b) (g:P→∃b,K (.inl ())=some (b,())∧(b=true→Q)):
    ∃b,x.bind K=some (b,())∧(b=true→Q):=by
  obtain ⟨r,rfl,rfl|⟨rfl,hp⟩⟩:=h
  · exact ⟨false,hk _,fun h=>by cases h⟩
  · exact g hp
theorem short_t (l:List tValueT) (hl:l.length<1000000000000000):∃b,R02_Short.F (l,())=some (b,())∧(b=true→l.length≤40):=by
  rw [R02_Short.eq];unfold R02_Short.B
  refine bindB (P:=∀x∈l,True) ?_ (fun _=>rfl) (fun _=>⟨_,rfl,fun h=>by have:=of_decide_eq_true h;omega⟩)
  refine all_r l (fun _=>True) (Sum.inr (false,()):UB) (.inl ()) hl (fun i hi=>?_) ?_
  · simp only [inn hi,nonneg,Bool.and_self,cond_true,Int.toNat_natCast,getD_at hi]
    cases decide ((l[i].2.2.size:Int)>(1000:Int)) with
    |true=>exact .inl rfl
    |false=>exact .inr ⟨rfl,trivial⟩
  · simp only [outn,cond_false]
theorem small16_t (n:ByteArray) (l:List tRecT) (hl:l.length<1000000000000000) (hr:∀c∈l,c.1.length<1000000000000000):∃b,R16_Small.F (n,l,())=some (b,())∧(b=true→l.length≤60∧∀c∈l,c.1.length≤40):=by
  rw [R16_Small.eq];unfold R16_Small.B
  refine bindB (P:=∀c∈l,c.1.length≤40) ?_ (fun _=>rfl) (fun hp=>?_)
  · refine all_r l (fun c=>c.1.length≤40) (Sum.inr (false,()):UB) (.inl ()) hl (fun i hi=>?_) ?_
    · obtain ⟨b,hb,hq⟩:=short_t l[i].1 (hr _ (List.getElem_mem hi))
      simp only [inn hi,nonneg,Bool.and_self,cond_true,Int.toNat_natCast,getD_at hi,hb,Option.bind_some]
      cases b with
      |false=>exact .inl rfl
      |true=>exact .inr ⟨rfl,hq rfl⟩
    · simp only [outn,cond_false]
  · simp only []
    cases hd:decide ((l.length:Int)≤(60:Int)) with
    |false=>exact ⟨false,rfl,fun h=>by cases h⟩
    |true=>exact ⟨_,rfl,fun _=>⟨by have:=of_decide_eq_true hd;omega,hp⟩⟩
/--the lists that come in are not beyond reach -/
structure LnL (L:List tRelT):Prop where
  l:L.length<1000000000000000
  r:∀r∈L,r.2.length<1000000000000000
  c:∀r∈L,∀c∈r.2,c.1.length<1000000000000000
theorem small20_t (L:List tRelT) (H:LnL L):∃b,R20_Small.F (L,())=some (b,())∧(b=true→L.length≤8∧∀r∈L,r.2.length≤60∧∀c∈r.2,c.1.length≤40):=by
  rw [R20_Small.eq];unfold R20_Small.B
  refine bindB (P:=∀r∈L,r.2.length≤60∧∀c∈r.2,c.1.length≤40) ?_ (fun _=>rfl) (fun hp=>⟨_,rfl,fun h=>⟨by have:=of_decide_eq_true h;omega,hp⟩⟩)
  refine all_r L (fun r=>r.2.length≤60∧∀c∈r.2,c.1.length≤40) (Sum.inr (false,()):UB) (.inl ()) H.l (fun i hi=>?_) ?_
  · have hm:=List.getElem_mem hi
    obtain ⟨b,hb,hq⟩:=small16_t L[i].1 L[i].2 (H.r _ hm) (H.c _ hm)
    simp only [inn hi,nonneg,Bool.and_self,cond_true,Int.toNat_natCast,getD_at hi,hb,Option.bind_some]
    cases b with
    |false=>exact .inl rfl
    |true=>
      simp only [Bool.not_true,cond_false]
      cases decide ((L[i].2.length:Int)>(20:Int)) with
      |true=>exact .inl rfl
      |false=>exact .inr ⟨rfl,hq rfl⟩
  · simp only [outn,cond_false]
theorem small5_t (l:List tRecT) (hl:l.length<1000000000000000) (hr:∀c∈l,c.1.length<1000000000000000):∃b,R05_Small.F (l,())=some (b,())∧(b=true→True):=by
  rw [R05_Small.eq];unfold R05_Small.B
  refine bindB (P:=∀x∈l,True) ?_ (fun _=>rfl) (fun _=>⟨_,rfl,fun _=>trivial⟩)
  refine all_r l (fun _=>True) (Sum.inr (false,()):UB) (.inl ()) hl (fun i hi=>?_) ?_
  · obtain ⟨b,hb,hq⟩:=short_t l[i].1 (hr _ (List.getElem_mem hi))
    simp only [inn hi,nonneg,Bool.and_self,cond_true,Int.toNat_natCast,getD_at hi,hb,Option.bind_some]
    cases b with
    |false=>exact .inl rfl
    |true=>exact .inr ⟨rfl,trivial⟩
  · simp only [outn,cond_false]
theorem low_t (l : List tRecT) (hl : l.length < 1000000000000000) (hr : ∀ c ∈ l,c.1.length < 1000000000000000) : ∃ b,R10_Low.F (l,()) = some (b,()) ∧ (b = true → True) := by
  rw [R10_Low.eq];unfold R10_Low.B
  refine bindB (P:=∀x∈l,True) ?_ (fun _=>rfl) (fun _=>?_)
  · refine all_r l (fun _=>True) (Sum.inr (false,()):UB) (.inl ()) hl (fun i hi=>?_) ?_
    · simp only [inn hi,nonneg,Bool.and_self,cond_true,Int.toNat_natCast,getD_at hi]
      cases decide (l[i].2>(1000:Int)) with
      |true=>exact .inl rfl
      |false=>
        cases decide (l[i].2<(-1000:Int)) with
        |true=>exact .inl rfl
        |false=>exact .inr ⟨rfl,trivial⟩
    · simp only [outn,cond_false]
  · obtain ⟨b,hb,_⟩:=small5_t l hl hr
    exact ⟨b,bto _ hb rfl,fun _=>trivial⟩
structure LnV (L:List tLookT):Prop where
  l:L.length<1000000000000000
  r:∀r∈L,r.2.length<1000000000000000
  c:∀r∈L,∀c∈r.2,c.1.length<1000000000000000
theorem small12_t (L:List tLookT) (H:LnV L):∃b,R12_Small.F (L,())=some (b,())∧(b=true→True):=by
  rw [R12_Small.eq];unfold R12_Small.B
  refine bindB (P:=∀x∈L,True) ?_ (fun _=>rfl) (fun _=>⟨_,rfl,fun _=>trivial⟩)
  refine all_r L (fun _=>True) (Sum.inr (false,()):UB) (.inl ()) H.l (fun i hi=>?_) ?_
  · have hm:=List.getElem_mem hi
    obtain ⟨b,hb,_⟩:=low_t L[i].2 (H.r _ hm) (H.c _ hm)
    simp only [inn hi,nonneg,Bool.and_self,cond_true,Int.toNat_natCast,getD_at hi,hb,Option.bind_some]
    cases decide ((L[i].2.length:Int)>(12:Int)) with
    |true=>exact .inl rfl
    |false=>
      cases b with
      |false=>exact .inl rfl
      |true=>exact .inr ⟨rfl,trivial⟩
  · simp only [outn,cond_false]
theorem short21_t (a:Int) (n:ByteArray) (l:List tValueT) (hl:l.length<1000000000000000):∃b,R21_Short.F (a,n,l,())=some (b,()):=by
  rw [R21_Short.eq];unfold R21_Short.B
  obtain ⟨b,hb,_⟩:=short_t l hl
  cases b with
  |false=>exact ⟨_,bto _ hb rfl⟩
  |true=>exact ⟨_,bto _ hb rfl⟩
theorem few_t (a : List tReadT) (b : List tRangeT) (c : List tLookT) (hb : b.length < 1000000000000000) (H : LnV c) : ∃ q,R20_Few.F (a,b,c,()) = some (q,()) ∧ (q = true → True) := by
  rw [R20_Few.eq];unfold R20_Few.B
  refine bindB (P:=∀x∈c,True) ?_ (fun _=>rfl) (fun _=>?_)
  · refine all_r c (fun _=>True) (Sum.inr (false,()):UB) (.inl ()) H.l (fun i hi=>?_) ?_
    · have hm:=List.getElem_mem hi
      obtain ⟨b,hb,_⟩:=small5_t c[i].2 (H.r _ hm) (H.c _ hm)
      simp only [inn hi,nonneg,Bool.and_self,cond_true,Int.toNat_natCast,getD_at hi,hb,Option.bind_some]
      cases b with
      |false=>exact .inl rfl
      |true=>exact .inr ⟨rfl,trivial⟩
    · simp only [outn,cond_false]
  · refine bindB (P:=∀x∈b,True) ?_ (fun _=>rfl) (fun _=>?_)
    · refine all_r b (fun _=>True) (Sum.inr (false,()):UB) (.inl ()) hb (fun i hi=>?_) ?_
      · simp only [inn hi,nonneg,Bool.and_self,cond_true,Int.toNat_natCast,getD_at hi]
        cases decide ((b[i].2.2.2.length:Int)>(60:Int)) with
        |true=>exact .inl rfl
        |false=>exact .inr ⟨rfl,trivial⟩
      · simp only [outn,cond_false]
    · simp only []
      cases decide ((a.length:Int)≤(60:Int)) with
      |false=>exact ⟨_,rfl,fun _=>trivial⟩
      |true=>
        cases decide ((b.length:Int)≤(60:Int)) with
        |false=>exact ⟨_,rfl,fun _=>trivial⟩
        |true=>exact ⟨_,rfl,fun _=>trivial⟩
theorem small21_t (a : List tReadT) (b : List tRangeT) (c : List tLookT) (ws : List tWriteT) (st : List tStmtT) (an : List ByteArray) (hb : b.length < 1000000000000000) (H : LnV c) (hw : ws.length < 1000000000000000) (hwr : ∀ w ∈ ws,w.2.2.length < 1000000000000000) (hs : st.length < 1000000000000000) (hsr : ∀ s ∈ st,s.2.2.length < 1000000000000000) :
    ∃q,R21_Small.F (a,b,c,ws,st,an,())=some (q,())∧(q=true→ws.length≤60∧∀w∈ws,w.2.2.length≤40):=by
  rw [R21_Small.eq];unfold R21_Small.B
  refine bindB (P:=∀w∈ws,w.2.2.length≤40) ?_ (fun _=>rfl) (fun hp=>?_)
  · refine all_r ws (fun w=>w.2.2.length≤40) (Sum.inr (false,()):UB) (.inl ()) hw (fun i hi=>?_) ?_
    · obtain ⟨b,hb,hq⟩:=short_t ws[i].2.2 (hwr _ (List.getElem_mem hi))
      simp only [inn hi,nonneg,Bool.and_self,cond_true,Int.toNat_natCast,getD_at hi,hb,Option.bind_some]
      cases b with
      |false=>exact .inl rfl
      |true=>
        simp only [Bool.not_true,cond_false]
        cases decide ((ws[i].1.size:Int)>(100:Int)) with
        |true=>exact .inl rfl
        |false=>exact .inr ⟨rfl,hq rfl⟩
    · simp only [outn,cond_false]
  · refine bindB (P:=∀x∈st,True) ?_ (fun _=>rfl) (fun _=>?_)
    · refine all_r st (fun _=>True) (Sum.inr (false,()):UB) (.inl ()) hs (fun i hi=>?_) ?_
      · obtain ⟨b,hb⟩:=short21_t st[i].1 st[i].2.1 st[i].2.2 (hsr _ (List.getElem_mem hi))
        simp only [inn hi,nonneg,Bool.and_self,cond_true,Int.toNat_natCast,getD_at hi,hb,Option.bind_some]
        cases b with
        |false=>exact .inl rfl
        |true=>exact .inr ⟨rfl,trivial⟩
      · simp only [outn,cond_false]
    · obtain ⟨q,hq,_⟩:=few_t a b c hb H
      simp only [hq,Option.bind_some]
      cases q with
      |false=>exact ⟨_,rfl,fun h=>by cases h⟩
      |true=>
        simp only [cond_true]
        cases hd:decide ((ws.length:Int)≤(60:Int)) with
        |false=>exact ⟨_,rfl,fun h=>by cases h⟩
        |true=>
          have hw60:ws.length≤60:=by have:=of_decide_eq_true hd;omega
          cases decide ((st.length:Int)≤(60:Int)) with
          |false=>exact ⟨_,rfl,fun h=>by cases h⟩
          |true=>exact ⟨_,rfl,fun _=>⟨hw60,hp⟩⟩
end Go.Proofs.Ytniojllnooblcaa
end
section
set_option maxRecDepth 100000
namespace Go.Proofs.Ytniojllnooblcaa
open Go Lv Go.Proofs Go.RowKit Go.Shelf Dl
theorem rcmp_t (x y : tValueT) : R01_Compare.F (x.1,x.2.1,x.2.2,y.1,y.2.1,y.2.2,()) = some (cV x y,()) := by
  rw [R01_Compare.eq];unfold R01_Compare.B
  simp only []
  unfold cV
  rcases cI_cases x.1 y.1 with ⟨h,e⟩|⟨h,e⟩|⟨h,e⟩
  · have h1:(x.1 !=y.1)=true:=by simp;omega
    have h2:decide (x.1<y.1)=true:=decide_eq_true h
    rw [h1,h2,e];rfl
  · have h1:(x.1 !=y.1)=false:=by simp [h]
    rw [h1,e,cond_false]
    rcases cI_cases x.2.1 y.2.1 with ⟨g,f⟩|⟨g,f⟩|⟨g,f⟩
    · have h1:(x.2.1 !=y.2.1)=true:=by simp;omega
      have h2:decide (x.2.1<y.2.1)=true:=decide_eq_true g
      rw [h1,h2,f];rfl
    · have h1:(x.2.1 !=y.2.1)=false:=by simp [g]
      rw [h1,f,cond_false,ByteArray.toList_eq,ByteArray.toList_eq,less_cb]
      show _=some (if (0:Int)≠0 then (0:Int) else if (0:Int)≠0 then (0:Int) else cmpB x.2.2 y.2.2,())
      rw [if_neg (by simp),if_neg (by simp)]
      show _=some (cb x.2.2.data.toList y.2.2.data.toList,())
      rcases cb_val x.2.2.data.toList y.2.2.data.toList with q|q|q
      · rw [q];rfl
      · have eq:=cb_zero _ _ q
        rw [q,eq];simp
      · have hne:(x.2.2.data.toList==y.2.2.data.toList)=false:=by
          rw [beq_eq_false_iff_ne];intro e
          rw [e,cb_self] at q;cases q
        rw [q,hne];rfl
    · have h1:(x.2.1 !=y.2.1)=true:=by simp;omega
      have h2:decide (x.2.1<y.2.1)=false:=decide_eq_false (by omega)
      rw [h1,h2,f];rfl
  · have h1:(x.1 !=y.1)=true:=by simp;omega
    have h2:decide (x.1<y.1)=false:=decide_eq_false (by omega)
    rw [h1,h2,e];rfl
theorem guard_t (C:List Dl.Def) (hC:Ln C) (hD:∀d∈C,DLn d) (hF:∀d∈C,Sm d→Fit d) (L:List tRelT) (HL:LnL L) (V:List tLookT) (HV:LnV V) (lo hi:tValueT):
    ∃q,L21_small.F (C,L,V,lo.1,lo.2.1,lo.2.2,hi.1,hi.2.1,hi.2.2,())=some (q,())∧(q=true→L.length≤8∧∀r∈L,r.2.length≤60∧∀c∈r.2,c.1.length≤40):=by
  rw [L21_small.eq];unfold L21_small.B
  obtain ⟨b,hb,_⟩:=rbig_z C hC hD hF
  obtain ⟨c,hc,hq⟩:=small20_t L HL
  obtain ⟨d,hd,_⟩:=small12_t V HV
  cases b with
  |true=>exact ⟨false,bto _ hb rfl,fun h=>by cases h⟩
  |false=>
    cases c with
    |false=>exact ⟨false,bto _ hb (bto _ hc rfl),fun h=>by cases h⟩
    |true=>exact ⟨d,bto _ hb (bto _ hc (bto _ hd rfl)),fun _=>hq rfl⟩
theorem scans_law (C : List Dl.Def) (hC : Ln C) (hD : ∀ d ∈ C,DLn d) (hF : ∀ d ∈ C,Sm d → Fit d) (L : List tRelT) (HL : LnL L) (V : List tLookT) (HV : LnV V) (lo hi : tValueT)
    (a:List tReadT) (b:List tRangeT) (c:List tLookT) (ws:List tWriteT) (st:List tStmtT) (an:List ByteArray) (tb:ByteArray) (hb:b.length<1000000000000000) (H:LnV c) (hw:ws.length<1000000000000000) (hwr:∀w∈ws,w.2.2.length<1000000000000000) (hs:st.length<1000000000000000) (hsr:∀s∈st,s.2.2.length<1000000000000000):
    L21_TxnScans.F (C,L,V,lo.1,lo.2.1,lo.2.2,hi.1,hi.2.1,hi.2.2,a,b,c,ws,st,an,tb,())=some (true,()):=by
  rw [L21_TxnScans.eq];unfold L21_TxnScans.B
  obtain ⟨q,hq,hqs⟩:=guard_t C hC hD hF L HL V HV lo hi
  obtain ⟨p,hp,hps⟩:=small21_t a b c ws st an hb H hw hwr hs hsr
  by_cases hall:q=true∧p=true∧¬(tb.size:Int)>100
  · obtain ⟨rfl,rfl,htb⟩:=hall
    have hL:=hqs rfl
    have hW:=hps rfl
    have S:Sml L ws:=⟨by omega,fun r hr=>by have:=(hL.2 r hr).1;omega,fun r hr c hc=>by have:=(hL.2 r hr).2 c hc;omega,by omega,fun w hw=>by have:=hW.2 w hw;omega⟩
    refine bto (.inl (false,())) ?_ ?_
    · refine bto _ fixed_t (bto _ hq (bto _ hp ?_))
      have d:decide ((tb.size:Int)>(100:Int))=false:=decide_eq_false htb
      show some (Sum.inl (decide ((tb.size:Int)>(100:Int)),()))=_
      rw [d]
    · obtain ⟨out,ho,N⟩:=rows_r S tb lo hi
      refine bto _ ho ?_
      have hol:=N.len
      refine all_loop out.length _ (by omega) (fun i hi'=>?_) ?_
      · obtain ⟨k,r,hx,hrw,hxl,hbt⟩:=N.row _ (List.getElem_mem hi')
        have hr:=rw_t S tb k
        rw [hrw] at hr
        have hsame:=rsame_self out[i] hxl
        have g:List.getD out i []=out[i]:=getD_at hi' _
        have hne:out[i]≠ []:=by rw [hx];simp
        have d1:(((out[i]).length:Int)==(0:Int))=false:=by
          rw [beq_eq_false_iff_ne,hx];simp;omega
        have gk:List.getD out[i] 0 tValue.z=k:=by rw [hx];rfl
        simp only [inn hi',nonneg,Bool.and_self,cond_true,cond_false,Int.toNat_natCast,g,d1,pos_of hne,d00,gk]
        refine bto _ hr ?_
        refine bto (.inl (out[i],false,())) ?_ rfl
        show (Option.bind (R02_Same.F (out[i],out[i],())) _)=_
        refine bto _ hsame ?_
        refine bto _ (rcmp_t k lo) ?_
        have e1:decide (cV k lo<0)=false:=decide_eq_false hbt.1
        show (bif decide (cV k lo<0) then _ else _)=_
        rw [e1,cond_false]
        refine bto _ (rcmp_t k hi) ?_
        have e2:decide (cV k hi≥0)=false:=decide_eq_false (by have:=hbt.2;omega)
        show (bif decide (cV k hi≥0) then _ else _)=_
        rw [e2,cond_false]
        cases i with
        |zero=>rfl
        |succ i=>
          have d:decide (((i+1:Nat):Int)>0)=true:=decide_eq_true (by omega)
          have hpw:IntKind.i64.wrap (((i+1:Nat):Int)-1)=((i:Nat):Int):=by rw [i64_wrap]<;>omega
          have hi0:i<out.length:=by omega
          obtain ⟨k',r',hx',_,_,_⟩:=N.row _ (List.getElem_mem hi0)
          have g':List.getD out i []=out[i]:=getD_at hi0 _
          have hne':out[i]≠ []:=by rw [hx'];simp
          have gk':List.getD out[i] 0 tValue.z=k':=by rw [hx'];rfl
          have hup:=List.pairwise_iff_getElem.1 N.up i (i+1) hi0 hi' (by omega)
          rw [hx,hx'] at hup
          have hup:cV k' k<0:=hup
          have e3:decide (cV k' k≥0)=false:=decide_eq_false (by omega)
          simp only [d,cond_true,hpw,inn hi0,nonneg,Bool.and_self,Int.toNat_natCast,g',pos_of hne',d00,gk']
          refine bto _ (rcmp_t k' k) ?_
          show some (Sum.inl (out[i+1],decide (cV k' k≥0),()))=_
          rw [e3]
      · simp only [outn,cond_false]
  · refine bto (.inl (true,())) ?_ (bto _ fixed_t rfl)
    refine bto _ fixed_t (bto _ hq ?_)
    cases q with
    |false=>rfl
    |true=>
      refine bto _ hp ?_
      cases p with
      |false=>rfl
      |true=>
        have d:decide ((tb.size:Int)>(100:Int))=true:=decide_eq_true (Classical.byContradiction fun h=>hall ⟨rfl,rfl,h⟩)
        show some (Sum.inl (decide ((tb.size:Int)>(100:Int)),()))=_
        rw [d]
end Go.Proofs.Ytniojllnooblcaa
end
section
set_option maxRecDepth 100000
namespace Go.Proofs.Ytniojllnooblcaa
open Go Lv Go.Proofs Go.RowKit Go.Shelf Dl
theorem len_b {t n:Nat} (h0:Nat.blt 0 (PP.bytesOf t)=true) (h:n*PP.bytesOf t≤reachBytes):n<1000000000000000:=
  len_of rfl (Nat.le_of_ble_eq_true h0) h
theorem pure3 (x:ArgT [(tAsk,true),(tTxn,true),(.str,false)]) (h:argIn Tryz.prog [(tAsk,true),(tTxn,true),(.str,false)] x):L21_TxnScans.F (argX 0 [(tAsk,true),(tTxn,true),(.str,false)] x)=some (true,()):=by
  obtain ⟨⟨C,L,V,lo,hi⟩,⟨⟨a,b,c⟩,ws,st,an⟩,tb,u⟩:=x
  obtain ⟨⟨⟨hC,hC'⟩,⟨hL,hL'⟩,⟨hV,hV'⟩,_⟩,⟨⟨ha,⟨hb,_⟩,⟨hc,hc'⟩⟩,⟨hw,hw'⟩,⟨hs,hs'⟩,_⟩,_⟩:=h
  exact scans_law C (len_b (by kernel_rfl) hC) (fun d hd=>in_ln (hC' d hd)) (fun d hd=>in_fit (hC' d hd)) L
    ⟨len_b (by kernel_rfl) hL,fun r hr=>len_b (by kernel_rfl) (hL' r hr).2.1,fun r hr c hc=>len_b (by kernel_rfl) ((hL' r hr).2.2 c hc).1.1⟩ V
    ⟨len_b (by kernel_rfl) hV,fun r hr=>len_b (by kernel_rfl) (hV' r hr).2.1,fun r hr c hc=>len_b (by kernel_rfl) ((hV' r hr).2.2 c hc).1.1⟩ lo hi
    a b c ws st an tb (len_b (by kernel_rfl) hb)
    ⟨len_b (by kernel_rfl) hc,fun r hr=>len_b (by kernel_rfl) (hc' r hr).2.1,fun r hr c hc=>len_b (by kernel_rfl) ((hc' r hr).2.2 c hc).1.1⟩
    (len_b (by kernel_rfl) hw) (fun w hm=>len_b (by kernel_rfl) (hw' w hm).2.2.1) (len_b (by kernel_rfl) hs) (fun s hm=>len_b (by kernel_rfl) (hs' s hm).2.2.1)
end Go.Proofs.Ytniojllnooblcaa
end
section
set_option maxRecDepth 100000
namespace Go.Proofs.YtniojllnooblcaaGreatDoor
open Go Lv Go.Proofs Go.RowKit Go.ChangeShapes Go.WideShapes Go.ChangeAt Go.Proofs.Ytniojllnooblcaa
/--what the rows list -/
noncomputable abbrev laid7 : List (String × DataW Unit) := [("math/bits.deBruijn32tab", Rows.laid_math_bits_deBruijn32tab), ("math/bits.deBruijn64tab", Rows.laid_math_bits_deBruijn64tab), ("internal/strconv.uint64pow10", Rows.laid_internal_strconv_uint64pow10), ("unicode/utf8.acceptRanges", Rows.laid_unicode_utf8_acceptRanges), ("unicode/utf8.first", Rows.laid_unicode_utf8_first)]
theorem lay_pow:(Rows.laid_internal_strconv_uint64pow10:DataW Unit)=Lib.tabData .u64 Lib.pow10Tab:=by kernel_rfl
theorem gMax : Tryz.prog.globalNamed "internal/bytealg.MaxLen" = some 0 := by kernel_rfl
theorem gPow : Tryz.prog.globalNamed "internal/strconv.uint64pow10" = some 1 := by kernel_rfl
theorem tPow:(Tryz.prog.globals[1]?).map (·.type)=some 265:=by kernel_rfl
theorem var_lt {P:Program} {W:World} {n:String} {g:Nat} {cs:Array Value} (hg:P.globalNamed n=some g) (h:W.var? P n=some cs):g<W.heap.size:=by
  simp only [World.var?,hg,Option.bind_some] at h
  split at h
  · rename_i he;exact (Array.getElem?_eq_some_iff.1 he).1
  · cases h
theorem cell_var {P:Program} {W:World} {n:String} {g:Nat} {v:Value} (hg:P.globalNamed n=some g) (h:W.cell? ⟨g,0,none⟩=some v):∃cs,W.var? P n=some cs∧cs[0]?=some v:=by
  simp only [World.var?,hg,Option.bind_some]
  unfold World.cell? at h
  split at h
  · rename_i he
    rw [he]
    exact ⟨_,rfl,by simpa using h⟩
  · cases h
theorem glb_of {W:World} (hsh:W.ShapedOpen Tryz.prog) (h0:laidMetH Tryz.prog laid7 W):Glb (· <W.heap.size) W:=by
  have h:laidMet Tryz.prog laid7 W:=by rw [MakeChecks.laidMetH_plain _ _ _ (by kernel_rfl)] at h0;exact h0
  have h1:=h.tail.tail
  have hpow : Lib.TabIs Tryz.prog W "internal/strconv.uint64pow10" .u64 Lib.pow10Tab := by
    rw [lay_pow] at h1
    exact Lib.tabIs_of_head (n:=20) (e:=185) gPow tPow (by kernel_rfl) (by kernel_rfl) (by kernel_rfl) (by kernel_rfl) h1
  obtain ⟨m,hm⟩:=cell_of_shapedOpen_int (g:=0) (t:=3) (zero:=#[.int .i64 0]) (k:=.i64) hsh (of_decide_eq_true (by kernel_rfl)) (by kernel_rfl) rfl (by kernel_rfl) (by kernel_rfl) (by kernel_rfl)
  have hm:W.cell? ⟨0,0,none⟩=some (.int .i64 m):=hm
  obtain ⟨cs,hc,hc0⟩:=cell_var gMax hm
  have hpow' : W.var? Tryz.prog "internal/strconv.uint64pow10" = some (Lib.pow10Tab.map fun z => Value.int .u64 z).toArray := hpow
  have hall:∀v∈gvars,VarIs Tryz.prog W v:=by
    intro v hv
    simp only [gvars,List.mem_cons,List.not_mem_nil,or_false] at hv
    rcases hv with rfl|rfl
    · exact ⟨gMax,cs,hc,m,hc0⟩
    · exact ⟨gPow,_,hpow',rfl⟩
  refine ⟨fun b hb=>?_,hall⟩
  have hb:b∈ [0,1]:=hb
  simp only [List.mem_cons,List.not_mem_nil,or_false] at hb
  rcases hb with rfl|rfl
  · exact var_lt gMax hc
  · exact var_lt gPow hpow'
end Go.Proofs.YtniojllnooblcaaGreatDoor
end
