import Derived.Test.YtniojllnooblcaaGreatDoorM7
import Derived.Test.YtniojllnooblcaaGreatDoorM4
import Derived.KernelRfl
import Derived.Lay
import Derived.SevenTiedAt
import Derived.Stop.LaidErr
import Derived.Lib.LaidTab
import Derived.Test.YtniojllnooblcaaGreatDoorCards
import Derived.Test.YtniojllnooblcaaGreatDoorTie
import Derived.Test.YtniojllnooblcaaGreatDoorChecked
set_option linter.all false
set_option linter.unusedVariables false
set_option linter.unusedSimpArgs false
set_option linter.unusedSectionVars false
section
set_option maxRecDepth 100000
namespace Go.Proofs.Ytniojllnooblcaa
open Go Lv Go.Proofs Go.RowKit Go.Shelf
abbrev e0 : ByteArray := ⟨#[]⟩
/-! ## Small functions -/
theorem bind_is {α β : Type} {x : Option α} {K : α → Option β} (v : α) (h : x = some v) : x.bind K = K v := by rw [h]; rfl
theorem b_eq (n m : Int) : (n == m) = decide (n = m) := by by_cases h : n = m <;> simp [h]
theorem both_same {R : Type} (p : Bool → Option R) (r : Option R) (h1 : p true = r) (h0 : p false = r) : both p = r := by
  unfold both; rw [h1,h0,if_pos rfl]
theorem clone_all {α : Type} (l : List α) (n : Nat) (hn : 1000000000 ≤ n) (hs : l.length ≤ 1000000) :
    (bif l.isEmpty then both (fun b1 => (bif b1 then some ([],()) else bif (Nat.ble (([] : List α).length + l.length) n) then some ((([] : List α) ++ l),()) else none)) else bif (Nat.ble (([] : List α).length + l.length) n) then some ((([] : List α) ++ l),()) else none) = some (l,()) := by
  have hb : Nat.ble (([] : List α).length + l.length) n = true := Nat.ble_eq_true_of_le (by simp; omega)
  rw [hb]
  cases l with
  | nil =>
    rw [show ([] : List α).isEmpty = true from rfl,cond_true]
    apply both_same <;> rfl
  | cons a r => rfl
theorem cRow (l : List tValueT) (h : l.length ≤ 1000) : slices_Clone_api_Row_api_Value.F (l,()) = some (l,()) := by
  rw [slices_Clone_api_Row_api_Value.eq]; exact clone_all l _ (by decide) (by omega)
theorem cReads (l : List tReadT) (h : l.length ≤ 1000) : slices_Clone_sl_api_Read_api_Read.F (l,()) = some (l,()) := by
  rw [slices_Clone_sl_api_Read_api_Read.eq]; exact clone_all l _ (by decide) (by omega)
theorem cRanges (l : List tRangeT) (h : l.length ≤ 1000) : slices_Clone_sl_api_Range_api_Range.F (l,()) = some (l,()) := by
  rw [slices_Clone_sl_api_Range_api_Range.eq]; exact clone_all l _ (by decide) (by omega)
theorem cLooks (l : List tLookT) (h : l.length ≤ 1000) : slices_Clone_sl_api_Look_api_Look.F (l,()) = some (l,()) := by
  rw [slices_Clone_sl_api_Look_api_Look.eq]; exact clone_all l _ (by decide) (by omega)
theorem cWrites (l : List tWriteT) (h : l.length ≤ 1000) : slices_Clone_sl_api_Write_api_Write.F (l,()) = some (l,()) := by
  rw [slices_Clone_sl_api_Write_api_Write.eq]; exact clone_all l _ (by decide) (by omega)
theorem cStmts (l : List tStmtT) (h : l.length ≤ 1000) : slices_Clone_sl_api_Stmt_api_Stmt.F (l,()) = some (l,()) := by
  rw [slices_Clone_sl_api_Stmt_api_Stmt.eq]; exact clone_all l _ (by decide) (by omega)
theorem cTexts (l : List ByteArray) (h : l.length ≤ 1000) : slices_Clone_sl_string_string.F (l,()) = some (l,()) := by
  rw [slices_Clone_sl_string_string.eq]; exact clone_all l _ (by decide) (by omega)
/-- a transaction without ranges and looks is copied as it is -/
theorem copied_t (rd : List tReadT) (ws : List tWriteT) (st : List tStmtT) (an : List ByteArray) (h1 : rd.length ≤ 1000) (h2 : ws.length ≤ 1000) (h3 : st.length ≤ 1000) (h4 : an.length ≤ 1000)
    (hw : ∀ w ∈ ws,w.2.2.length ≤ 1000) (hs : ∀ s ∈ st,s.2.2.length ≤ 1000) : txn_copied.F (rd,[],[],ws,st,an,()) = some (rd,[],[],ws,st,an,()) := by
  rw [txn_copied.eq]
  unfold txn_copied.B
  simp only [cReads rd h1,cRanges [] (by decide),cLooks [] (by decide),Option.bind_some]
  refine (bind_is (.inl (rd,[],[],())) (by rw [loopM_q]; rfl)).trans ?_
  refine (bind_is (.inl (rd,[],[],())) (by rw [loopM_q]; rfl)).trans ?_
  simp only [cWrites ws h2,cStmts st h3,cTexts an h4,Option.bind_some]
  refine (bind_is (.inl (rd,[],[],ws,st,an,())) (loop_f (fun x => ws.length - x.1.toNat) (fun x => ∃ i : Nat,x = ((i : Int),rd,[],[],ws,st,an,()) ∧ i ≤ ws.length) (fun _ => Sum.inl (rd,[],[],ws,st,an,())) ?_ _ ⟨0,rfl,by omega⟩)).trans ?_
  · rintro _ ⟨i,rfl,hi⟩
    by_cases hlt : i < ws.length
    · refine .inl ⟨(((i + 1 : Nat) : Int),rd,[],[],ws,st,an,()),?_,⟨i + 1,rfl,by omega⟩,by show _ - Int.toNat _ < _ - Int.toNat _; rw [Int.toNat_natCast,Int.toNat_natCast]; omega,rfl⟩
      have d1 : decide ((i : Int) < (ws.length : Int)) = true := by simp; omega
      have d0 : decide (0 ≤ (i : Int)) = true := by simp
      have gi : ws.getD i tWrite.z = ws[i] := getD_at hlt _
      simp only [d1,d0,Bool.and_self,cond_true,Int.toNat_natCast,gi,cRow _ (hw _ (List.getElem_mem hlt)),Option.bind_some,wrap_s hlt (show ws.length < 9223372036854775808 by omega)]
      rw [List.set_getElem_self]
    · refine .inr ?_
      have d1 : decide ((i : Int) < (ws.length : Int)) = false := by simp; omega
      simp only [d1,cond_false]
  refine (bind_is (.inl (rd,[],[],ws,st,an,())) (loop_f (fun x => st.length - x.1.toNat) (fun x => ∃ i : Nat,x = ((i : Int),rd,[],[],ws,st,an,()) ∧ i ≤ st.length) (fun _ => Sum.inl (rd,[],[],ws,st,an,())) ?_ _ ⟨0,rfl,by omega⟩)).trans rfl
  · rintro _ ⟨i,rfl,hi⟩
    by_cases hlt : i < st.length
    · refine .inl ⟨(((i + 1 : Nat) : Int),rd,[],[],ws,st,an,()),?_,⟨i + 1,rfl,by omega⟩,by show _ - Int.toNat _ < _ - Int.toNat _; rw [Int.toNat_natCast,Int.toNat_natCast]; omega,rfl⟩
      have d1 : decide ((i : Int) < (st.length : Int)) = true := by simp; omega
      have d0 : decide (0 ≤ (i : Int)) = true := by simp
      have gi : st.getD i tStmt.z = st[i] := getD_at hlt _
      simp only [d1,d0,Bool.and_self,cond_true,Int.toNat_natCast,gi,cRow _ (hs _ (List.getElem_mem hlt)),Option.bind_some,wrap_s hlt (show st.length < 9223372036854775808 by omega)]
      rw [List.set_getElem_self]
    · refine .inr ?_
      have d1 : decide ((i : Int) < (st.length : Int)) = false := by simp; omega
      simp only [d1,cond_false]
theorem itoa_t (n : Int) (h0 : 0 ≤ n) (h : n ≤ 1000000) : strconv_Itoa.F (n,()) = some (itoaB n,()) := by
  rw [strconv_Itoa.eq]
  show (if -9223372036854775808 ≤ n ∧ n ≤ 9223372036854775807 then some (itoaB n,()) else none) = _
  rw [if_pos (by omega)]
/-! ### nothing there: no records -/
theorem look_t (tb : ByteArray) : reads_Look.F ([],tb,()) = some (e0,[],()) := by
  rw [reads_Look.eq]; unfold reads_Look.B; simp only []; rw [loopM_q]; rfl
theorem may_t (n : ByteArray) : rel_May.F (n,[],()) = some (true,()) := by
  rw [rel_May.eq]; unfold rel_May.B; simp only []; rw [loopM_q]; rfl
theorem find_t (n : ByteArray) (a b : Int) (c : ByteArray) : rel_find.F (n,[],a,b,c,()) = some (0,false,()) := by
  rw [rel_find.eq]; unfold rel_find.B
  simp only []
  refine (bind_is (.inl (0,())) (by rw [loopM_q]; rfl)).trans rfl
theorem get_t (n : ByteArray) (a b : Int) (c : ByteArray) : rel_Get.F (n,[],a,b,c,()) = some (0,false,[],()) := by
  rw [rel_Get.eq]; unfold rel_Get.B
  simp only [may_t,Option.bind_some,Bool.not_true,cond_false,find_t,Bool.not_false,cond_true]
theorem one_t (tb : ByteArray) (a b : Int) (c : ByteArray) : reads_One.F ([],tb,a,b,c,()) = some (tb,a,b,c,0,()) := by
  rw [reads_One.eq]; unfold reads_One.B
  simp only [look_t,get_t,Option.bind_some]
theorem scan_t (n : ByteArray) (a b : Int) (c : ByteArray) (a' b' : Int) (c' : ByteArray) : (∃ v,value_Compare.F (a,b,c,a',b',c',()) = some (v,())) → rel_Scan.F (n,[],a,b,c,a',b',c',()) = some ([],()) := by
  rintro ⟨v,hv⟩
  rw [rel_Scan.eq]; unfold rel_Scan.B
  simp only [may_t,hv,find_t,Option.bind_some,Bool.not_true,cond_false]
  have hsome : rel_some.F ([],()) = some ([],()) := by rw [rel_some.eq]; unfold rel_some.B; simp only []; rw [loopM_q]; rfl
  cases decide (v ≥ 0) with
  | true => rfl
  | false => exact (bind_is ([],()) hsome).trans rfl
/-! ### comparing numbers -/
theorem cmpI_t (a b : Int) : cmp_Compare_int.F (a,b,()) = some (if a < b then -1 else if a > b then 1 else 0,()) := by
  rw [cmp_Compare_int.eq]; unfold cmp_Compare_int.B
  have hn : ∀ n : Int,cmp_isNaN_int.F (n,()) = some (false,()) := fun n => by rw [cmp_isNaN_int.eq]; unfold cmp_isNaN_int.B; simp
  simp only [hn,Option.bind_some,cond_false]
  by_cases h1 : a < b
  · simp [h1]
  · by_cases h2 : a > b
    · simp [h1,h2]
    · simp [h1,h2]
theorem or3_t (a b c : Int) : cmp_Or_int.F ([a,b,c],()) = some (if a ≠ 0 then a else if b ≠ 0 then b else c,()) := by
  rw [cmp_Or_int.eq]; unfold cmp_Or_int.B
  simp only []
  rw [loop_l0 (fun i (_ : Unit) => (i,())) [a,b,c] (by simp) (fun (e : Int) (_ : Unit) => some (if e ≠ 0 then .inr (e,()) else .inl ())) (fun _ => some (0,())) (by
    intro i hi st
    have d1 : decide ((i : Int) < (([a,b,c] : List Int).length : Int)) = true := by rw [decide_eq_true_eq]; omega
    have d0 : decide (0 ≤ (i : Int)) = true := by simp
    simp only [d1,d0,Bool.and_self,cond_true,Int.toNat_natCast,getD_at hi,wrap_s hi (show ([a,b,c] : List Int).length < 9223372036854775808 by simp)]
    by_cases h : ([a,b,c] : List Int)[i] = 0
    · simp [h]
    · have : (([a,b,c] : List Int)[i] != 0) = true := by simpa using h
      rw [this]; simp [h]) (by
    intro st
    rfl) ()]
  simp only [foldS]
  by_cases h1 : a = 0
  · by_cases h2 : b = 0
    · by_cases h3 : c = 0
      · simp [h1,h2,h3]
      · simp [h1,h2,h3]
    · simp [h1,h2]
  · simp [h1]
theorem cmpV_t (a b : Int) (s : ByteArray) (a' b' : Int) (s' : ByteArray) : ∃ v,value_Compare.F (a,b,s,a',b',s',()) = some (v,()) := by
  rw [value_Compare.eq]; unfold value_Compare.B
  have hs : ∀ s s',strings_Compare.F (s,s',()) = some (cmpB s s',()) := fun s s' => by rw [strings_Compare.eq]; rfl
  simp only [cmpI_t,hs,or3_t,Option.bind_some]
  exact ⟨_,rfl⟩
theorem cmpN_t (a b : Int) : value_Compare.F (2,a,e0,2,b,e0,()) = some (if a < b then -1 else if a > b then 1 else 0,()) := by
  rw [value_Compare.eq]; unfold value_Compare.B
  have hs : ∀ s s',strings_Compare.F (s,s',()) = some (cmpB s s',()) := fun s s' => by rw [strings_Compare.eq]; rfl
  simp only [cmpI_t,hs,or3_t,Option.bind_some]
  have h0 : cmpB e0 e0 = 0 := by kernel_rfl
  rw [h0]
  by_cases h1 : a < b
  · simp [h1]; rfl
  · by_cases h2 : a > b
    · simp [h1,h2]; rfl
    · simp [h1,h2]; rfl
end Go.Proofs.Ytniojllnooblcaa
end
section
set_option maxRecDepth 100000
namespace Go.Proofs.Ytniojllnooblcaa
open Go Lv Go.Proofs Go.RowKit Go.Shelf
abbrev Col := tColumnT
abbrev Agg := tAggT
/-! ## A name's place -/
def nameP (d : tDefT) : ByteArray := if d.1 = 0 then d.2.1.1 else d.2.2.1
theorem sname_s (k : Int) (tn : ByteArray) (c : List Col) (ck : List (List tNodeT)) (vn vf vw : ByteArray) (o1 o2 : Int) (wh : List tNodeT) (pk : List Int) (gr : Bool) (ag : List Agg) : schema_Name.F (k,tn,c,ck,vn,vf,vw,o1,o2,wh,pk,gr,ag,()) = some (nameP (k,((tn,(c,ck)),(vn,(vf,(vw,((o1,o2),(wh,(pk,(gr,ag))))))))),()) := by
  rw [schema_Name.eq]; unfold schema_Name.B; by_cases h : k = 0 <;> simp [nameP,b_eq,h]
def fndN (nm : ByteArray) : List tDefT → Nat → Int
  | [],_ => -1
  | d :: r,i => if nameP d = nm then i else fndN nm r (i + 1)
def find (l : List tDefT) (nm : ByteArray) : Int := fndN nm l 0
theorem find_s (l : List tDefT) (nm : ByteArray) (hl : l.length < 1000000000000000) : schema_Find.F (l,nm,()) = some (find l nm,()) := by
  rw [schema_Find.eq]
  unfold schema_Find.B
  have hf : ∀ (l : List tDefT) (i : Nat),foldT (fun (d : tDefT) (i : Nat) => if nameP d = nm then (.inr ((i : Int),()) : Nat ⊕ (Int × Unit)) else .inl (i + 1)) (fun _ => ((-1 : Int),())) l i = (fndN nm l i,()) := by
    intro l
    induction l with
    | nil => intro i; rfl
    | cons d r ih =>
      intro i
      simp only [foldT,fndN]
      by_cases h : nameP d = nm
      · rw [if_pos h,if_pos h]
      · rw [if_neg h,if_neg h]; exact ih _
  refine (loop_T (fun i (_ : Nat) => (i,())) l (fun i st => st = i) (fun (d : tDefT) (i : Nat) => if nameP d = nm then (.inr ((i : Int),()) : Nat ⊕ (Int × Unit)) else .inl (i + 1)) (fun _ => ((-1 : Int),())) ?_ ?_ 0 rfl).trans (congrArg some (hf l 0))
  · intro i hi st hst
    rw [hst]
    have d1 : decide ((i : Int) < (l.length : Int)) = true := by simp; omega
    have d0 : decide (0 ≤ (i : Int)) = true := by simp
    simp only [d1,d0,Bool.and_self,cond_true,Int.toNat_natCast,getD_at hi,wrap_s hi (show l.length < 9223372036854775808 by omega),sname_s,Option.bind_some,beq_bytes]
    rw [show nameP (l[i].1,((l[i].2.1.1,(l[i].2.1.2.1,l[i].2.1.2.2)),(l[i].2.2.1,(l[i].2.2.2.1,(l[i].2.2.2.2.1,((l[i].2.2.2.2.2.1.1,l[i].2.2.2.2.2.1.2),(l[i].2.2.2.2.2.2.1,(l[i].2.2.2.2.2.2.2.1,(l[i].2.2.2.2.2.2.2.2.1,l[i].2.2.2.2.2.2.2.2.2))))))))) = nameP l[i] from rfl]
    by_cases h : nameP l[i] = nm
    · simp [h]
    · simp [h]
  · intro st hst
    have d1 : decide ((l.length : Int) < (l.length : Int)) = false := by simp
    simp only [d1,cond_false]
/-! ## The law's catalog,and statements -/
abbrev iv (n : Int) : tValueT := (2,(n,e0))
def cat1 : List tDefT := [(0,(((⟨#[116]⟩ : ByteArray),([((⟨#[107]⟩ : ByteArray),(2,(false,(false,(e0,0))))),((⟨#[97]⟩ : ByteArray),(2,(false,(false,(e0,0)))))],[])),(e0,(e0,(e0,((0,0),([],([],(false,[])))))))))]
theorem one_cat : L21_one.F () = some (cat1,()) := by rw [L21_one.eq]; rfl
theorem int_t (n : Int) : R01_Int.F (n,()) = some (2,n,e0,()) := by rw [R01_Int.eq]; rfl
theorem get_st (n : Int) : L21_get.F (n,()) = some (0,(⟨#[116]⟩ : ByteArray),[iv n],()) := by
  rw [L21_get.eq]; unfold L21_get.B; simp only [int_t,Option.bind_some]
theorem put_st (n m : Int) : L21_put.F (n,m,()) = some (2,(⟨#[116]⟩ : ByteArray),[iv n,iv m],()) := by
  rw [L21_put.eq]; unfold L21_put.B; simp only [int_t,Option.bind_some]
theorem find1 : schema_Find.F (cat1,(⟨#[116]⟩ : ByteArray),()) = some (0,()) := (find_s cat1 (⟨#[116]⟩ : ByteArray) (by decide)).trans (by kernel_rfl)
theorem vint (n : Int) : value_May.F (2,n,e0,()) = some (true,()) := by
  rw [value_May.eq]; unfold value_May.B; simp [beq_bytes]
theorem rmay (l : List tValueT) (hl : l.length ≤ 40) (h : ∀ x ∈ l,value_May.F (x.1,x.2.1,x.2.2,()) = some (true,())) : row_May.F (l,()) = some (true,()) := by
  rw [row_May.eq]; unfold row_May.B
  have d : decide ((l.length : Int) ≤ 40) = true := by simp; omega
  simp only [d,cond_true]
  refine loop_f (fun x => l.length - x.1.toNat) (fun x => ∃ i : Nat,x = ((i : Int),()) ∧ i ≤ l.length) (fun _ => (true,())) ?_ _ ⟨0,rfl,by omega⟩
  rintro _ ⟨i,rfl,hi⟩
  by_cases hlt : i < l.length
  · refine .inl ⟨(((i + 1 : Nat) : Int),()),?_,⟨i + 1,rfl,by omega⟩,by show _ - Int.toNat _ < _ - Int.toNat _; rw [Int.toNat_natCast,Int.toNat_natCast]; omega,rfl⟩
    have d1 : decide ((i : Int) < (l.length : Int)) = true := by simp; omega
    have d0 : decide (0 ≤ (i : Int)) = true := by simp
    have gi : l.getD i tValue.z = l[i] := getD_at hlt _
    have hx := h _ (List.getElem_mem hlt)
    have hr : row_May_1.F (l[i].1,l[i].2.1,l[i].2.2,()) = some (false,()) := by
      rw [row_May_1.eq]; unfold row_May_1.B; simp only [hx,Option.bind_some]; rfl
    simp only [d1,d0,Bool.and_self,cond_true,Int.toNat_natCast,gi,hr,Option.bind_some,cond_false,wrap_s hlt (show l.length < 9223372036854775808 by omega)]
  · refine .inr ?_
    have d1 : decide ((i : Int) < (l.length : Int)) = false := by simp; omega
    simp only [d1,cond_false]; rfl
theorem wrong0 (x : tValueT) : txn_wrong.F (cat1,0,(⟨#[116]⟩ : ByteArray),[x],()) = some (0,()) := by
  rw [txn_wrong.eq]; unfold txn_wrong.B; simp only [find1,Option.bind_some]; rfl
theorem wrong4 (x : tValueT) : txn_wrong.F (cat1,4,(⟨#[116]⟩ : ByteArray),[x],()) = some (0,()) := by
  rw [txn_wrong.eq]; unfold txn_wrong.B; simp only [find1,Option.bind_some]; rfl
theorem wrong1 (x y : tValueT) : txn_wrong.F (cat1,1,(⟨#[116]⟩ : ByteArray),[x,y],()) = some (0,()) := by
  rw [txn_wrong.eq]; unfold txn_wrong.B; simp only [find1,Option.bind_some]; rfl
theorem wrong5 : txn_wrong.F (cat1,5,(⟨#[116]⟩ : ByteArray),[],()) = some (212,()) := by
  rw [txn_wrong.eq]; unfold txn_wrong.B
  refine (bind_is _ find1).trans ?_
  rfl
theorem wrong2 (n m : Int) : txn_wrong.F (cat1,2,(⟨#[116]⟩ : ByteArray),[iv n,iv m],()) = some (0,()) := by
  have hm : row_May.F ([iv n,iv m],()) = some (true,()) := rmay _ (by simp) (fun x hx => by
    simp only [List.mem_cons,List.not_mem_nil,or_false] at hx
    rcases hx with rfl | rfl <;> exact vint _)
  rw [txn_wrong.eq]; unfold txn_wrong.B; simp only [find1,hm,Option.bind_some]; rfl
theorem failed_t (n : Int) (h0 : 0 ≤ n) (h : n ≤ 300) : (itoaB n).size ≤ 3 → txn_failed.F (n,()) = some ((⟨#[101,114,114,111,114,32]⟩ : ByteArray) ++ itoaB n,()) := fun hs => by
  rw [txn_failed.eq]; unfold txn_failed.B
  refine (bind_is (itoaB n,()) (itoa_t n h0 (by omega))).trans ?_
  have : (!decide ((((⟨#[101,114,114,111,114,32]⟩ : ByteArray).size + (itoaB n).size : Nat) : Int) > IntKind.i64.max)) = true := by
    have h1 : (⟨#[101,114,114,111,114,32]⟩ : ByteArray).size = 6 := rfl
    have h2 : IntKind.i64.max = 9223372036854775807 := by decide
    rw [h1,h2]; simp; omega
  show (bif (!decide ((((⟨#[101,114,114,111,114,32]⟩ : ByteArray).size + (itoaB n).size : Nat) : Int) > IntKind.i64.max)) then _ else _) = _
  rw [this]; rfl
/-! ## Writes of a key -/
theorem own0 (tb : ByteArray) (k : tValueT) : txn_Own.F ([],tb,k.1,k.2.1,k.2.2,()) = some (false,()) := by
  rw [txn_Own.eq]; unfold txn_Own.B; simp only []; rw [loopM_q]; rfl
theorem own0_o (tb : ByteArray) (k : tValueT) : txn_Own_o.F (tb,k.1,k.2.1,k.2.2,[],()) = some (false,[],()) := by
  rw [txn_Own_o.eq]; unfold txn_Own_o.B; simp only []; rw [loopM_q]; rfl
theorem own1 (w : tWriteT) (tb : ByteArray) (k : tValueT) : txn_Own.F ([w],tb,k.1,k.2.1,k.2.2,()) = some (ofP w tb k,()) := by
  rw [txn_Own.eq]; unfold txn_Own.B; simp only []; rw [loopM_q]
  have ho := of_t w tb k
  have g : List.getD [w] (Int.toNat 0) tWrite.z = w := rfl
  simp only [List.length_cons,List.length_nil,g,ho,Option.bind_some]
  cases ofP w tb k with
  | true => rfl
  | false =>
    show loopM _ _ = _
    rw [loopM_q]; rfl
theorem own1_o (w : tWriteT) (tb : ByteArray) (k : tValueT) : txn_Own_o.F (tb,k.1,k.2.1,k.2.2,[w],()) = some (ofP w tb k,[w],()) := by
  rw [txn_Own_o.eq]; unfold txn_Own_o.B; simp only []; rw [loopM_q]
  have ho := of_t w tb k
  have g : List.getD [w] (Int.toNat 0) tWrite.z = w := rfl
  simp only [List.length_cons,List.length_nil,g,ho,Option.bind_some]
  cases ofP w tb k with
  | true => rfl
  | false =>
    show loopM _ _ = _
    rw [loopM_q]; rfl
/-! ## A row of nothing but writes -/
def rowR (ws : List tWriteT) (tb : ByteArray) (k : tValueT) : Bool × List tValueT := match lastW ws tb k with
  | some w => hitP w
  | none => (false,[])
theorem rowP_t (ws : List tWriteT) (tb : ByteArray) (k : tValueT) (h : ∀ w ∈ ws,w.2.2.length ≤ 1000) : rowP [] ws tb k = some (rowR ws tb k) := by
  unfold rowP rowR
  have ha : ws.all (fun w => Nat.ble w.2.2.length 4398046511104) = true := List.all_eq_true.2 fun w hw => Nat.ble_eq_true_of_le (Nat.le_trans (h w hw) (by decide))
  rw [ha,cond_true]
  cases lastW ws tb k with
  | some w => rfl
  | none => simp only [look_t,get_t,Option.bind_some]
theorem row_t (ws : List tWriteT) (tb : ByteArray) (k : tValueT) (hl : ws.length ≤ 1000) (h : ∀ w ∈ ws,w.2.2.length ≤ 1000) : txn_Row.F ([],ws,tb,k.1,k.2.1,k.2.2,()) = some ((rowR ws tb k).1,(rowR ws tb k).2,()) := by
  rw [txn_Row.eq]
  show txnRowF ([],ws,tb,k.1,k.2.1,k.2.2,()) = _
  unfold txnRowF
  simp only []
  rw [show Nat.ble ws.length 140737488351 = true from Nat.ble_eq_true_of_le (by omega),cond_true,show (k.1,(k.2.1,k.2.2)) = k from rfl,rowP_t ws tb k h]
  rfl
theorem row_to (ws : List tWriteT) (tb : ByteArray) (k : tValueT) (hl : ws.length ≤ 1000) (h : ∀ w ∈ ws,w.2.2.length ≤ 1000) : txn_Row_o.F ([],tb,k.1,k.2.1,k.2.2,ws,()) = some ((rowR ws tb k).1,ws,(rowR ws tb k).2,()) := by
  rw [txn_Row_o.eq]
  show txnRowO ([],tb,k.1,k.2.1,k.2.2,ws,()) = _
  unfold txnRowO
  simp only []
  rw [show Nat.ble ws.length 140737488351 = true from Nat.ble_eq_true_of_le (by omega),cond_true,show (k.1,(k.2.1,k.2.2)) = k from rfl,rowP_t ws tb k h]
  rfl
end Go.Proofs.Ytniojllnooblcaa
end
section
set_option maxRecDepth 100000
namespace Go.Proofs.Ytniojllnooblcaa
open Go Lv Go.Proofs Go.RowKit Go.Shelf
abbrev Rd := List tReadT
theorem bind_to {α β : Type} {x : Option α} {K : α → Option β} {r : Option β} (v : α) (h : x = some v) (g : K v = r) : x.bind K = r := by rw [h]; exact g
theorem ble_of {a b : Nat} (h : a ≤ b) : Nat.ble a b = true := Nat.ble_eq_true_of_le h
theorem one_k (tb : ByteArray) (k : tValueT) : reads_One.F ([],tb,k.1,k.2.1,k.2.2,()) = some (tb,k.1,k.2.1,k.2.2,0,()) := one_t _ _ _ _
/-- a key of which there is no write of ours -/
theorem see_no (ws : List tWriteT) (tb : ByteArray) (k : tValueT) (rd : Rd) (rg : List tRangeT) (st : List tStmtT) (an : List ByteArray) (hr : rd.length ≤ 1000) (hl : ws.length ≤ 1000) (h : ∀ w ∈ ws,w.2.2.length ≤ 1000)
    (ho : txn_Own_o.F (tb,k.1,k.2.1,k.2.2,ws,()) = some (false,ws,())) (hn : rowR ws tb k = (false,[])) :
    txn_doer_see.F (tb,k.1,k.2.1,k.2.2,[],[],rd,rg,[],ws,st,an,()) = some (false,[],[],rd ++ [(tb,(k,0))],rg,[],ws,st,an,[],()) := by
  rw [txn_doer_see.eq]; unfold txn_doer_see.B
  refine bind_to _ ho ?_
  refine bind_to _ (one_k tb k) ?_
  have hb : Nat.ble (rd.length + 1) 2513169434916 = true := ble_of (by omega)
  show (bif Nat.ble (rd.length + 1) 2513169434916 then _ else _) = _
  rw [hb,cond_true]
  refine bind_to _ (row_to ws tb k hl h) ?_
  rw [hn]
/-- a key that is ours -/
theorem see_own (ws : List tWriteT) (tb : ByteArray) (k : tValueT) (rd : Rd) (rg : List tRangeT) (st : List tStmtT) (an : List ByteArray) (hl : ws.length ≤ 1000) (h : ∀ w ∈ ws,w.2.2.length ≤ 1000)
    (ho : txn_Own_o.F (tb,k.1,k.2.1,k.2.2,ws,()) = some (true,ws,())) :
    txn_doer_see.F (tb,k.1,k.2.1,k.2.2,[],[],rd,rg,[],ws,st,an,()) = some ((rowR ws tb k).1,[],[],rd,rg,[],ws,st,an,(rowR ws tb k).2,()) := by
  rw [txn_doer_see.eq]; unfold txn_doer_see.B
  refine bind_to _ ho ?_
  refine bind_to _ (row_to ws tb k hl h) ?_
  rfl
/-! ## A statement -/
theorem do_none (tb : ByteArray) (k : tValueT) (ws : List tWriteT) (rd rd' : Rd) (rg : List tRangeT) (st : List tStmtT) (an : List ByteArray)
    (hs : txn_doer_see.F (tb,k.1,k.2.1,k.2.2,[],[],rd,rg,[],ws,st,an,()) = some (false,[],[],rd',rg,[],ws,st,an,[],())) :
    txn_doer_do.F (0,tb,[k],[],[],rd,rg,[],ws,st,an,()) = some ((⟨#[110,111,110,101]⟩ : ByteArray),[],[],rd',rg,[],ws,st,an,()) := by
  rw [txn_doer_do.eq]; unfold txn_doer_do.B
  refine bind_to (.inl ()) rfl ?_
  refine bind_to _ hs ?_
  rfl
theorem do_get (tb : ByteArray) (k : tValueT) (row : List tValueT) (tx : ByteArray) (ws : List tWriteT) (rd rd' : Rd) (rg : List tRangeT) (st : List tStmtT) (an : List ByteArray)
    (hs : txn_doer_see.F (tb,k.1,k.2.1,k.2.2,[],[],rd,rg,[],ws,st,an,()) = some (true,[],[],rd',rg,[],ws,st,an,row,())) (ht : row_Text.F (row,()) = some (tx,())) :
    txn_doer_do.F (0,tb,[k],[],[],rd,rg,[],ws,st,an,()) = some (tx,[],[],rd',rg,[],ws,st,an,()) := by
  rw [txn_doer_do.eq]; unfold txn_doer_do.B
  refine bind_to (.inl ()) rfl ?_
  refine bind_to _ hs ?_
  refine bind_to (.inr (tx,[],[],rd',rg,[],ws,st,an,())) ?_ rfl
  refine bind_to (.inl (true,())) rfl ?_
  exact bind_to _ ht rfl
theorem do_put (tb : ByteArray) (k x : tValueT) (ws : List tWriteT) (rd rd' : Rd) (rg : List tRangeT) (st : List tStmtT) (an : List ByteArray) (hl : ws.length ≤ 1000)
    (hs : txn_doer_see.F (tb,k.1,k.2.1,k.2.2,[],[],rd,rg,[],ws,st,an,()) = some (false,[],[],rd',rg,[],ws,st,an,[],())) :
    txn_doer_do.F (2,tb,[k,x],[],[],rd,rg,[],ws,st,an,()) = some ((⟨#[111,107]⟩ : ByteArray),[],[],rd',rg,[],ws ++ [(tb,(false,[k,x]))],st,an,()) := by
  rw [txn_doer_do.eq]; unfold txn_doer_do.B
  refine bind_to (.inl ()) rfl ?_
  refine bind_to _ hs ?_
  refine bind_to (.inl ()) ?_ ?_
  · exact bind_to (.inl (false,())) rfl rfl
  refine bind_to _ (cRow [k,x] (by simp)) ?_
  have hb : Nat.ble (ws.length + 1) 2932031007402 = true := ble_of (by omega)
  show (bif Nat.ble (ws.length + 1) 2932031007402 then _ else _) = _
  rw [hb,cond_true]
  rfl
theorem do_twice (tb : ByteArray) (k x : tValueT) (row : List tValueT) (ws : List tWriteT) (rd rd' : Rd) (rg : List tRangeT) (st : List tStmtT) (an : List ByteArray) (tx : ByteArray)
    (hs : txn_doer_see.F (tb,k.1,k.2.1,k.2.2,[],[],rd,rg,[],ws,st,an,()) = some (true,[],[],rd',rg,[],ws,st,an,row,())) (hf : txn_failed.F (210,()) = some (tx,())) :
    txn_doer_do.F (2,tb,[k,x],[],[],rd,rg,[],ws,st,an,()) = some (tx,[],[],rd',rg,[],ws,st,an,()) := by
  rw [txn_doer_do.eq]; unfold txn_doer_do.B
  refine bind_to (.inl ()) rfl ?_
  refine bind_to _ hs ?_
  refine bind_to (.inr (tx,[],[],rd',rg,[],ws,st,an,())) ?_ rfl
  refine bind_to (.inl (false,())) rfl ?_
  exact bind_to _ hf rfl
theorem do_cutno (tb : ByteArray) (k : tValueT) (ws : List tWriteT) (rd rd' : Rd) (rg : List tRangeT) (st : List tStmtT) (an : List ByteArray) (tx : ByteArray)
    (hs : txn_doer_see.F (tb,k.1,k.2.1,k.2.2,[],[],rd,rg,[],ws,st,an,()) = some (false,[],[],rd',rg,[],ws,st,an,[],())) (hf : txn_failed.F (211,()) = some (tx,())) :
    txn_doer_do.F (4,tb,[k],[],[],rd,rg,[],ws,st,an,()) = some (tx,[],[],rd',rg,[],ws,st,an,()) := by
  rw [txn_doer_do.eq]; unfold txn_doer_do.B
  refine bind_to (.inl ()) rfl ?_
  refine bind_to _ hs ?_
  refine bind_to (.inr (tx,[],[],rd',rg,[],ws,st,an,())) ?_ rfl
  refine bind_to (.inl (false,())) rfl ?_
  exact bind_to _ hf rfl
/-! ## A transaction's step -/
theorem step_ok (rd : Rd) (ws : List tWriteT) (st : List tStmtT) (an : List ByteArray) (k : Int) (tb : ByteArray) (row : List tValueT) (ans : ByteArray) (rd' : Rd) (rg' : List tRangeT) (ws' : List tWriteT) (h1 : rd.length ≤ 1000) (h2 : ws.length ≤ 1000) (h3 : st.length < 50) (h4 : an.length ≤ 1000)
    (hw : ∀ w ∈ ws,w.2.2.length ≤ 1000) (hs : ∀ s ∈ st,s.2.2.length ≤ 1000) (hr : row.length ≤ 1000) (hwr : txn_wrong.F (cat1,k,tb,row,()) = some (0,()))
    (hd : txn_doer_do.F (k,tb,row,[],[],rd,[],[],ws,st,an,()) = some (ans,[],[],rd',rg',[],ws',st,an,())) :
    txn_Do.F (cat1,[],[],rd,[],[],ws,st,an,k,tb,row,()) = some (ans,rd',rg',[],ws',st ++ [(k,(tb,row))],an ++ [ans],()) := by
  rw [txn_Do.eq]; unfold txn_Do.B
  refine bind_to _ (copied_t rd ws st an h1 h2 (by omega) h4 hw hs) ?_
  have d1 : decide ((st.length : Int) ≥ 50) = false := by simp; omega
  show (bif decide ((st.length : Int) ≥ 50) then _ else _) = _
  rw [d1,cond_false]
  refine bind_to (.inl (ans,[],[],rd',rg',[],ws',st,an,())) ?_ ?_
  · refine bind_to _ hwr ?_
    exact bind_to _ hd rfl
  refine bind_to _ (cRow row hr) ?_
  have b1 : Nat.ble (st.length + 1) 2932031007402 = true := ble_of (by omega)
  have b2 : Nat.ble (an.length + 1) 8796093022208 = true := ble_of (by omega)
  show (bif Nat.ble (st.length + 1) 2932031007402 then (bif Nat.ble (an.length + 1) 8796093022208 then _ else _) else _) = _
  rw [b1,b2]; rfl
theorem step_wrong (rd : Rd) (ws : List tWriteT) (st : List tStmtT) (an : List ByteArray) (k : Int) (tb : ByteArray) (row : List tValueT) (e : Int) (ans : ByteArray) (h1 : rd.length ≤ 1000) (h2 : ws.length ≤ 1000) (h3 : st.length < 50) (h4 : an.length ≤ 1000)
    (hw : ∀ w ∈ ws,w.2.2.length ≤ 1000) (hs : ∀ s ∈ st,s.2.2.length ≤ 1000) (hr : row.length ≤ 1000) (hwr : txn_wrong.F (cat1,k,tb,row,()) = some (e,())) (he : (e != 0) = true) (hf : txn_failed.F (e,()) = some (ans,())) :
    txn_Do.F (cat1,[],[],rd,[],[],ws,st,an,k,tb,row,()) = some (ans,rd,[],[],ws,st ++ [(k,(tb,row))],an ++ [ans],()) := by
  rw [txn_Do.eq]; unfold txn_Do.B
  refine bind_to _ (copied_t rd ws st an h1 h2 (by omega) h4 hw hs) ?_
  have d1 : decide ((st.length : Int) ≥ 50) = false := by simp; omega
  show (bif decide ((st.length : Int) ≥ 50) then _ else _) = _
  rw [d1,cond_false]
  refine bind_to (.inl (ans,[],[],rd,[],[],ws,st,an,())) ?_ ?_
  · refine bind_to _ hwr ?_
    show (bif (e != 0) then _ else _) = _
    rw [he,cond_true]
    exact bind_to _ hf rfl
  refine bind_to _ (cRow row hr) ?_
  have b1 : Nat.ble (st.length + 1) 2932031007402 = true := ble_of (by omega)
  have b2 : Nat.ble (an.length + 1) 8796093022208 = true := ble_of (by omega)
  show (bif Nat.ble (st.length + 1) 2932031007402 then (bif Nat.ble (an.length + 1) 8796093022208 then _ else _) else _) = _
  rw [b1,b2]; rfl
theorem step_full (rd : Rd) (ws : List tWriteT) (st : List tStmtT) (an : List ByteArray) (k : Int) (tb : ByteArray) (row : List tValueT) (ans : ByteArray) (h1 : rd.length ≤ 1000) (h2 : ws.length ≤ 1000) (h3 : st.length = 50) (h4 : an.length ≤ 1000)
    (hw : ∀ w ∈ ws,w.2.2.length ≤ 1000) (hs : ∀ s ∈ st,s.2.2.length ≤ 1000) (hf : txn_failed.F (213,()) = some (ans,())) :
    txn_Do.F (cat1,[],[],rd,[],[],ws,st,an,k,tb,row,()) = some (ans,rd,[],[],ws,st,an,()) := by
  rw [txn_Do.eq]; unfold txn_Do.B
  refine bind_to _ (copied_t rd ws st an h1 h2 (by omega) h4 hw hs) ?_
  have d1 : decide ((st.length : Int) ≥ 50) = true := by simp; omega
  show (bif decide ((st.length : Int) ≥ 50) then _ else _) = _
  rw [d1,cond_true]
  exact bind_to _ hf rfl
end Go.Proofs.Ytniojllnooblcaa
end
section
set_option maxRecDepth 100000
namespace Go.Proofs.Ytniojllnooblcaa
open Go Lv Go.Proofs Go.RowKit Go.Shelf
theorem loop_go {S R : Type} {body : S → Option (S ⊕ R)} {s : S} {r : Option R} (s' : S) (h : body s = some (.inl s')) (g : loopM body s' = r) : loopM body s = r := by rw [loopM_q,h]; exact g
theorem loop_out {S R : Type} {body : S → Option (S ⊕ R)} {s : S} (r : R) (h : body s = some (.inr r)) : loopM body s = some r := by rw [loopM_q,h]
abbrev tt : ByteArray := (⟨#[116]⟩ : ByteArray)
abbrev W1 : tWriteT := (tt,(false,[iv 1,iv 5]))
theorem vtext (n : Int) (h0 : 0 ≤ n) (h : n ≤ 1000000) : value_Text.F (2,n,e0,()) = some (itoaB n,()) := by
  rw [value_Text.eq]; unfold value_Text.B
  exact bind_to _ (itoa_t n h0 h) rfl
theorem joinB15 : joinB [itoaB 1,itoaB 5] (⟨#[44,32]⟩ : ByteArray) = (⟨#[49,44,32,53]⟩ : ByteArray) := by kernel_rfl
theorem join15 : strings_Join.F ([itoaB 1,itoaB 5],(⟨#[44,32]⟩ : ByteArray),()) = some ((⟨#[49,44,32,53]⟩ : ByteArray),()) := by
  rw [strings_Join.eq]
  show (if ([itoaB 1,itoaB 5] : List ByteArray).length ≤ 140737488355328 ∧ (joinB [itoaB 1,itoaB 5] (⟨#[44,32]⟩ : ByteArray)).size ≤ 140737488355328 then some (joinB [itoaB 1,itoaB 5] (⟨#[44,32]⟩ : ByteArray),()) else none) = _
  rw [joinB15,if_pos (by refine ⟨?_,?_⟩ <;> decide)]
theorem text15 : row_Text.F ([iv 1,iv 5],()) = some ((⟨#[40,49,44,32,53,41]⟩ : ByteArray),()) := by
  rw [row_Text.eq]; unfold row_Text.B
  refine bind_to (.inl ([itoaB 1,itoaB 5],())) ?_ ?_
  · refine loop_go ((1 : Int),[itoaB 1],()) (bind_to _ (vtext 1 (by decide) (by decide)) rfl) ?_
    refine loop_go ((2 : Int),[itoaB 1,itoaB 5],()) (bind_to _ (vtext 5 (by decide) (by decide)) rfl) ?_
    exact loop_out _ rfl
  · exact bind_to _ join15 (by kernel_rfl)
theorem between_t (tb : ByteArray) (a b : Int) (c : ByteArray) (a' b' : Int) (c' : ByteArray) : reads_Between.F ([],tb,a,b,c,a',b',c',()) = some (tb,a,b,c,a',b',c',[],()) := by
  rw [reads_Between.eq]; unfold reads_Between.B
  refine bind_to (.inl (tb,a,b,c,a',b',c',[],())) ?_ rfl
  refine bind_to _ (look_t tb) ?_
  refine bind_to _ (scan_t e0 a b c a' b' c' (cmpV_t a b c a' b' c')) ?_
  exact loop_out _ rfl
theorem cmpX (x : tValueT) : cmpOf tValue value_Compare.F x x = some 0 := by
  obtain ⟨a,b,c⟩ := x
  have hs : strings_Compare.F (c,c,()) = some (0,()) := by
    rw [strings_Compare.eq]
    show some (cmpB c c,()) = _
    have : cmpB c c = 0 := by
      unfold cmpB
      induction c.data.toList with
      | nil => rfl
      | cons x r ih => simp [Lib.compareBytes,ih]
    rw [this]
  have h : value_Compare.F (a,b,c,a,b,c,()) = some (0,()) := by
    rw [value_Compare.eq]; unfold value_Compare.B
    refine bind_to _ (cmpI_t a a) ?_
    refine bind_to _ (cmpI_t b b) ?_
    refine bind_to _ hs ?_
    refine bind_to _ (or3_t _ _ _) ?_
    simp
  show ((value_Compare.F (a,b,c,a,b,c,())).map fun p => p.1) = _
  rw [h]; rfl
theorem sort1 (x : tValueT) : slices_SortFunc_sl_api_Value_api_Value.F ([x],()) = some ([x],()) := by
  rw [slices_SortFunc_sl_api_Value_api_Value.eq]
  show sortL (cmpOf tValue value_Compare.F) ([x],()) = _
  refine sortL_some ⟨by simp,fun _ _ => 0,?_,by simp,by simp,by simp,?_,List.Perm.refl _,by simp⟩
  · intro a ha b hb
    rw [List.mem_singleton.1 ha,List.mem_singleton.1 hb]
    exact cmpX x
  · intro a ha b hb _ _
    rw [List.mem_singleton.1 ha,List.mem_singleton.1 hb]
theorem compact1 (x : tValueT) : slices_Compact_sl_api_Value_api_Value.F ([x],()) = some ([x],()) := by
  rw [slices_Compact_sl_api_Value_api_Value.eq]; rfl
theorem rowR1 : rowR [W1] tt (iv 1) = (true,[iv 1,iv 5]) := by kernel_rfl
theorem rowR2 : rowR [W1] tt (iv 2) = (false,[]) := by kernel_rfl
theorem rowR0 (k : tValueT) : rowR [] tt k = (false,[]) := rfl
theorem of1 : ofP W1 tt (iv 1) = true := by kernel_rfl
theorem of2 : ofP W1 tt (iv 2) = false := by kernel_rfl
theorem W1len : ∀ w ∈ [W1],w.2.2.length ≤ 1000 := fun w hw => by rw [List.mem_singleton.1 hw]; decide
theorem rows_o1 : txn_Rows_o.F ([],tt,2,0,e0,2,9,e0,[W1],()) = some ([W1],[[iv 1,iv 5]],()) := by
  rw [txn_Rows_o.eq]; unfold txn_Rows_o.B
  refine bind_to (.inl ([],())) ?_ ?_
  · refine bind_to _ (look_t tt) ?_
    refine bind_to _ (scan_t e0 2 0 e0 2 9 e0 (cmpV_t 2 0 e0 2 9 e0)) ?_
    exact loop_out _ rfl
  refine bind_to (.inl ([iv 1],())) ?_ ?_
  · refine loop_go ((1 : Int),[iv 1],()) ?_ (loop_out _ rfl)
    refine bind_to (.inl (true,())) ?_ rfl
    show (bif (tt.toList == tt.toList) then _ else some (Sum.inl (false,()))) = _
    rw [beq_self_eq_true,cond_true]
    refine bind_to _ (cmpN_t 1 0) ?_
    exact bind_to _ (cmpN_t 1 9) rfl
  refine bind_to _ (sort1 (iv 1)) ?_
  refine bind_to _ (compact1 (iv 1)) ?_
  refine loop_go ((1 : Int),[[iv 1,iv 5]],[W1],()) ?_ (loop_out _ rfl)
  have hr := row_to [W1] tt (iv 1) (by decide) W1len
  rw [rowR1] at hr
  exact bind_to _ hr rfl
theorem rows_1 : txn_Rows.F ([],[W1],tt,2,0,e0,2,9,e0,()) = some ([[iv 1,iv 5]],()) := by
  rw [txn_Rows.eq]; unfold txn_Rows.B
  refine bind_to (.inl ([],())) ?_ ?_
  · refine bind_to _ (look_t tt) ?_
    refine bind_to _ (scan_t e0 2 0 e0 2 9 e0 (cmpV_t 2 0 e0 2 9 e0)) ?_
    exact loop_out _ rfl
  refine bind_to (.inl ([iv 1],())) ?_ ?_
  · refine loop_go ((1 : Int),[iv 1],()) ?_ (loop_out _ rfl)
    refine bind_to (.inl (true,())) ?_ rfl
    show (bif (tt.toList == tt.toList) then _ else some (Sum.inl (false,()))) = _
    rw [beq_self_eq_true,cond_true]
    refine bind_to _ (cmpN_t 1 0) ?_
    exact bind_to _ (cmpN_t 1 9) rfl
  refine bind_to _ (sort1 (iv 1)) ?_
  refine bind_to _ (compact1 (iv 1)) ?_
  refine loop_go ((1 : Int),[[iv 1,iv 5]],()) ?_ (loop_out _ rfl)
  have hr := row_t [W1] tt (iv 1) (by decide) W1len
  rw [rowR1] at hr
  exact bind_to _ hr rfl
theorem joinB1 : joinB [(⟨#[40,49,44,32,53,41]⟩ : ByteArray)] (⟨#[32]⟩ : ByteArray) = (⟨#[40,49,44,32,53,41]⟩ : ByteArray) := by kernel_rfl
theorem join1 : strings_Join.F ([(⟨#[40,49,44,32,53,41]⟩ : ByteArray)],(⟨#[32]⟩ : ByteArray),()) = some ((⟨#[40,49,44,32,53,41]⟩ : ByteArray),()) := by
  rw [strings_Join.eq]
  show (if ([(⟨#[40,49,44,32,53,41]⟩ : ByteArray)] : List ByteArray).length ≤ 140737488355328 ∧ (joinB [(⟨#[40,49,44,32,53,41]⟩ : ByteArray)] (⟨#[32]⟩ : ByteArray)).size ≤ 140737488355328 then some (joinB [(⟨#[40,49,44,32,53,41]⟩ : ByteArray)] (⟨#[32]⟩ : ByteArray),()) else none) = _
  rw [joinB1,if_pos (by refine ⟨?_,?_⟩ <;> decide)]
theorem or1 : txn_or.F ((⟨#[40,49,44,32,53,41]⟩ : ByteArray),()) = some ((⟨#[40,49,44,32,53,41]⟩ : ByteArray),()) := by
  rw [txn_or.eq]; kernel_rfl
abbrev rg1 : List tRangeT := [(tt,(iv 0,(iv 9,[])))]
theorem do_scan (rd : Rd) (st : List tStmtT) (an : List ByteArray) : txn_doer_do.F (1,tt,[iv 0,iv 9],[],[],rd,[],[],[W1],st,an,()) = some ((⟨#[40,49,44,32,53,41]⟩ : ByteArray),[],[],rd,rg1,[],[W1],st,an,()) := by
  rw [txn_doer_do.eq]; unfold txn_doer_do.B
  refine bind_to (.inr ((⟨#[40,49,44,32,53,41]⟩ : ByteArray),[],[],rd,rg1,[],[W1],st,an,())) ?_ rfl
  refine bind_to _ (between_t tt 2 0 e0 2 9 e0) ?_
  refine bind_to (.inl ([(⟨#[40,49,44,32,53,41]⟩ : ByteArray)],[],[],rd,rg1,[],[W1],st,an,())) ?_ ?_
  · refine bind_to _ rows_o1 ?_
    refine loop_go ((1 : Int),[(⟨#[40,49,44,32,53,41]⟩ : ByteArray)],()) (bind_to _ text15 rfl) (loop_out _ rfl)
  · refine bind_to _ join1 ?_
    exact bind_to _ or1 rfl
end Go.Proofs.Ytniojllnooblcaa
end
section
set_option maxRecDepth 100000
namespace Go.Proofs.Ytniojllnooblcaa
open Go Lv Go.Proofs Go.RowKit Go.Shelf
theorem fail_is (n : Int) (tx : ByteArray) (h0 : 0 ≤ n) (h : n ≤ 300) (hs : (itoaB n).size ≤ 3) (he : (⟨#[101,114,114,111,114,32]⟩ : ByteArray) ++ itoaB n = tx) : txn_failed.F (n,()) = some (tx,()) := he ▸ failed_t n h0 h hs
theorem f210 : txn_failed.F (210,()) = some ((⟨#[101,114,114,111,114,32,50,49,48]⟩ : ByteArray),()) := fail_is 210 _ (by decide) (by decide) (by rw [show itoaB 210 = (⟨#[50,49,48]⟩ : ByteArray) by kernel_rfl]; decide) (by kernel_rfl)
theorem f211 : txn_failed.F (211,()) = some ((⟨#[101,114,114,111,114,32,50,49,49]⟩ : ByteArray),()) := fail_is 211 _ (by decide) (by decide) (by rw [show itoaB 211 = (⟨#[50,49,49]⟩ : ByteArray) by kernel_rfl]; decide) (by kernel_rfl)
theorem f212 : txn_failed.F (212,()) = some ((⟨#[101,114,114,111,114,32,50,49,50]⟩ : ByteArray),()) := fail_is 212 _ (by decide) (by decide) (by rw [show itoaB 212 = (⟨#[50,49,50]⟩ : ByteArray) by kernel_rfl]; decide) (by kernel_rfl)
theorem f213 : txn_failed.F (213,()) = some ((⟨#[101,114,114,111,114,32,50,49,51]⟩ : ByteArray),()) := fail_is 213 _ (by decide) (by decide) (by rw [show itoaB 213 = (⟨#[50,49,51]⟩ : ByteArray) by kernel_rfl]; decide) (by kernel_rfl)
abbrev rd1 : Rd := [(tt,(iv 1,0))]
abbrev st1 : List tStmtT := [(2,(tt,[iv 1,iv 5]))]
abbrev st2 : List tStmtT := [(2,(tt,[iv 1,iv 5])),(0,(tt,[iv 1]))]
abbrev an1 : List ByteArray := [(⟨#[111,107]⟩ : ByteArray)]
abbrev an2 : List ByteArray := [(⟨#[111,107]⟩ : ByteArray),(⟨#[40,49,44,32,53,41]⟩ : ByteArray)]
theorem no0 : ∀ w ∈ ([] : List tWriteT),w.2.2.length ≤ 1000 := fun _ h => by cases h
theorem ns0 : ∀ w ∈ ([] : List tStmtT),w.2.2.length ≤ 1000 := fun _ h => by cases h
theorem ns1 : ∀ w ∈ st1,w.2.2.length ≤ 1000 := by decide
theorem ns2 : ∀ w ∈ st2,w.2.2.length ≤ 1000 := by decide
theorem y3 : txn_Do.F (cat1,[],[],[],[],[],[],[],[],2,tt,[iv 1,iv 5],()) = some ((⟨#[111,107]⟩ : ByteArray),rd1,[],[],[W1],st1,an1,()) :=
  step_ok [] [] [] [] 2 tt [iv 1,iv 5] (⟨#[111,107]⟩ : ByteArray) rd1 [] [W1] (by decide) (by decide) (by decide) (by decide) no0 ns0 (by decide) (wrong2 1 5)
    (do_put tt (iv 1) (iv 5) [] [] rd1 [] [] [] (by decide) (see_no [] tt (iv 1) [] [] [] [] (by decide) (by decide) no0 (own0_o tt (iv 1)) (rowR0 _)))
theorem own1o (k : tValueT) (b : Bool) (h : ofP W1 tt k = b) : txn_Own_o.F (tt,k.1,k.2.1,k.2.2,[W1],()) = some (b,[W1],()) := h ▸ own1_o W1 tt k
theorem see1 (st : List tStmtT) (an : List ByteArray) : txn_doer_see.F (tt,2,1,e0,[],[],rd1,[],[],[W1],st,an,()) = some (true,[],[],rd1,[],[],[W1],st,an,[iv 1,iv 5],()) := by
  have h := see_own [W1] tt (iv 1) rd1 [] st an (by decide) W1len (own1o (iv 1) true of1)
  rw [rowR1] at h
  exact h
theorem y6 : txn_Do.F (cat1,[],[],rd1,[],[],[W1],st1,an1,0,tt,[iv 1],()) = some ((⟨#[40,49,44,32,53,41]⟩ : ByteArray),rd1,[],[],[W1],st2,an2,()) :=
  step_ok rd1 [W1] st1 an1 0 tt [iv 1] (⟨#[40,49,44,32,53,41]⟩ : ByteArray) rd1 [] [W1] (by decide) (by decide) (by decide) (by decide) W1len ns1 (by decide) (wrong0 (iv 1))
    (do_get tt (iv 1) [iv 1,iv 5] (⟨#[40,49,44,32,53,41]⟩ : ByteArray) [W1] rd1 rd1 [] st1 an1 (see1 st1 an1) text15)
theorem y9 : txn_Do.F (cat1,[],[],rd1,[],[],[W1],st2,an2,2,tt,[iv 1,iv 6],()) = some ((⟨#[101,114,114,111,114,32,50,49,48]⟩ : ByteArray),rd1,[],[],[W1],st2 ++ [(2,(tt,[iv 1,iv 6]))],an2 ++ [(⟨#[101,114,114,111,114,32,50,49,48]⟩ : ByteArray)],()) :=
  step_ok rd1 [W1] st2 an2 2 tt [iv 1,iv 6] (⟨#[101,114,114,111,114,32,50,49,48]⟩ : ByteArray) rd1 [] [W1] (by decide) (by decide) (by decide) (by decide) W1len ns2 (by decide) (wrong2 1 6)
    (do_twice tt (iv 1) (iv 6) [iv 1,iv 5] [W1] rd1 rd1 [] st2 an2 (⟨#[101,114,114,111,114,32,50,49,48]⟩ : ByteArray) (see1 st2 an2) f210)
theorem y11 : txn_Do.F (cat1,[],[],rd1,[],[],[W1],st2,an2,5,tt,[],()) = some ((⟨#[101,114,114,111,114,32,50,49,50]⟩ : ByteArray),rd1,[],[],[W1],st2 ++ [(5,(tt,[]))],an2 ++ [(⟨#[101,114,114,111,114,32,50,49,50]⟩ : ByteArray)],()) :=
  step_wrong rd1 [W1] st2 an2 5 tt [] 212 (⟨#[101,114,114,111,114,32,50,49,50]⟩ : ByteArray) (by decide) (by decide) (by decide) (by decide) W1len ns2 (by decide) wrong5 (by decide) f212
theorem y14 : txn_Do.F (cat1,[],[],rd1,[],[],[W1],st2,an2,4,tt,[iv 2],()) = some ((⟨#[101,114,114,111,114,32,50,49,49]⟩ : ByteArray),rd1 ++ [(tt,(iv 2,0))],[],[],[W1],st2 ++ [(4,(tt,[iv 2]))],an2 ++ [(⟨#[101,114,114,111,114,32,50,49,49]⟩ : ByteArray)],()) :=
  step_ok rd1 [W1] st2 an2 4 tt [iv 2] (⟨#[101,114,114,111,114,32,50,49,49]⟩ : ByteArray) _ [] [W1] (by decide) (by decide) (by decide) (by decide) W1len ns2 (by decide) (wrong4 (iv 2))
    (do_cutno tt (iv 2) [W1] rd1 _ [] st2 an2 (⟨#[101,114,114,111,114,32,50,49,49]⟩ : ByteArray) (see_no [W1] tt (iv 2) rd1 [] st2 an2 (by decide) (by decide) W1len (own1o (iv 2) false of2) rowR2) f211)
theorem y18 : txn_Do.F (cat1,[],[],rd1,[],[],[W1],st2,an2,1,tt,[iv 0,iv 9],()) = some ((⟨#[40,49,44,32,53,41]⟩ : ByteArray),rd1,rg1,[],[W1],st2 ++ [(1,(tt,[iv 0,iv 9]))],an2 ++ [(⟨#[40,49,44,32,53,41]⟩ : ByteArray)],()) :=
  step_ok rd1 [W1] st2 an2 1 tt [iv 0,iv 9] (⟨#[40,49,44,32,53,41]⟩ : ByteArray) rd1 rg1 [W1] (by decide) (by decide) (by decide) (by decide) W1len ns2 (by decide) (wrong1 (iv 0) (iv 9)) (do_scan rd1 st2 an2)
theorem y20 : txn_Row.F ([],[W1],tt,2,1,e0,()) = some (true,[iv 1,iv 5],()) := by
  have h := row_t [W1] tt (iv 1) (by decide) W1len
  rw [rowR1] at h
  exact h
theorem y22 : txn_Own.F ([W1],tt,2,1,e0,()) = some (true,()) := by
  have h := own1 W1 tt (iv 1)
  rw [of1] at h
  exact h
theorem fixed_t : L21_fixed.F () = some (true,()) := by
  rw [L21_fixed.eq]; unfold L21_fixed.B
  refine bind_to _ one_cat ?_
  refine bind_to _ (put_st 1 5) ?_
  refine bind_to _ y3 ?_
  refine bind_to _ one_cat ?_
  refine bind_to _ (get_st 1) ?_
  refine bind_to _ y6 ?_
  refine bind_to _ one_cat ?_
  refine bind_to _ (put_st 1 6) ?_
  refine bind_to _ y9 ?_
  refine bind_to _ one_cat ?_
  refine bind_to _ y11 ?_
  refine bind_to _ one_cat ?_
  refine bind_to _ (int_t 2) ?_
  refine bind_to _ y14 ?_
  refine bind_to _ one_cat ?_
  refine bind_to _ (int_t 0) ?_
  refine bind_to _ (int_t 9) ?_
  refine bind_to _ y18 ?_
  refine bind_to _ (int_t 1) ?_
  refine bind_to _ y20 ?_
  simp only [beq_self_eq_true,cond_true]
  show (bif _ then _ else _) = _
  refine bind_to _ (int_t 1) ?_
  refine bind_to _ y22 ?_
  refine bind_to _ (int_t 0) ?_
  refine bind_to _ (int_t 9) ?_
  exact bind_to _ rows_1 rfl
end Go.Proofs.Ytniojllnooblcaa
end
section
set_option maxRecDepth 100000
namespace Go.Proofs.Ytniojllnooblcaa
open Go Lv Go.Proofs Go.RowKit Go.Shelf
theorem all_loop {R : Type} {body : Int × Unit → Option ((Int × Unit) ⊕ R)} (n : Nat) (r : R) (hn : n < 9223372036854775808) (hs : ∀ i : Nat,i < n → body ((i : Int),()) = some (.inl (IntKind.i64.wrap ((i : Int) + 1),()))) (he : body ((n : Int),()) = some (.inr r)) :
    loopM body ((0 : Int),()) = some r := by
  refine loop_f (fun x => n - x.1.toNat) (fun x => ∃ i : Nat,x = ((i : Int),()) ∧ i ≤ n) (fun _ => r) ?_ _ ⟨0,rfl,by omega⟩
  rintro _ ⟨i,rfl,hi⟩
  by_cases hlt : i < n
  · refine .inl ⟨(((i + 1 : Nat) : Int),()),?_,⟨i + 1,rfl,by omega⟩,by show _ - Int.toNat _ < _ - Int.toNat _; rw [Int.toNat_natCast,Int.toNat_natCast]; omega,rfl⟩
    rw [hs i hlt,wrap_s hlt hn]
  · have : i = n := by omega
    subst this
    exact .inr he
theorem eq_self (t : Ty) (h : t.plain = true) (x : t.T) : Ty.eq t x x = true := (Ty.eq_dec t h x x).2 rfl
theorem in_of {i n : Nat} (h : i < n) : decide ((i : Int) < (n : Int)) = true := by simp; omega
theorem out_of (n : Nat) : decide ((n : Int) < (n : Int)) = false := by simp
theorem nn_of (i : Nat) : decide (0 ≤ (i : Int)) = true := by simp
theorem ne_self (n : Int) : (n != n) = false := by simp
theorem reads_self (l : Rd) (h : l.length ≤ 1000) : R20_SameReads.F (l,l,()) = some (true,()) := by
  rw [R20_SameReads.eq]; unfold R20_SameReads.B
  simp only [ne_self,cond_false]
  refine all_loop l.length _ (by omega) (fun i hi => ?_) ?_
  · simp only [in_of hi,nn_of,Bool.and_self,cond_true,eq_self tRead rfl,Bool.not_true,cond_false]
  · simp only [out_of,cond_false]
theorem less_self (l : List UInt8) : Op.bytesLess l l = false := by
  induction l with
  | nil => rfl
  | cons a r ih => simp [Op.bytesLess,ih]
theorem cmp_self (a b : Int) (c : ByteArray) : R01_Compare.F (a,b,c,a,b,c,()) = some (0,()) := by
  rw [R01_Compare.eq]; unfold R01_Compare.B
  simp only [ne_self,cond_false,less_self,Bool.false_or,beq_self_eq_true,Bool.not_true]
theorem rcmp_self (l : List tValueT) (h : l.length ≤ 1000) : R02_Compare.F (l,l,()) = some (0,()) := by
  rw [R02_Compare.eq]; unfold R02_Compare.B
  refine bind_to (.inl ()) ?_ ?_
  · refine all_loop l.length _ (by omega) (fun i hi => ?_) ?_
    · simp only [in_of hi,nn_of,Bool.and_self,cond_true,cmp_self,Option.bind_some,ne_self,cond_false]
    · simp only [out_of,cond_false]
  · have d1 : decide ((l.length : Int) < (l.length : Int)) = false := by simp
    have d2 : decide ((l.length : Int) > (l.length : Int)) = false := by simp
    simp only [d1,d2,cond_false]
theorem rsame_self (l : List tValueT) (h : l.length ≤ 1000) : R02_Same.F (l,l,()) = some (true,()) := by
  rw [R02_Same.eq]; unfold R02_Same.B
  exact bind_to _ (rcmp_self l h) rfl
theorem stmt_self (a : Int) (b : ByteArray) (l : List tValueT) (h : l.length ≤ 1000) : R08_Same.F (a,b,l,a,b,l,()) = some (true,()) := by
  rw [R08_Same.eq]; unfold R08_Same.B
  simp only [beq_self_eq_true,cond_true]
  exact bind_to _ (rsame_self l h) rfl
theorem texts_self (l : List ByteArray) (h : l.length ≤ 1000) : R21_Texts.F (l,l,()) = some (true,()) := by
  rw [R21_Texts.eq]; unfold R21_Texts.B
  simp only [ne_self,cond_false]
  refine all_loop l.length _ (by omega) (fun i hi => ?_) ?_
  · simp only [in_of hi,nn_of,Bool.and_self,cond_true,beq_self_eq_true,Bool.not_true,cond_false]
  · simp only [out_of,cond_false]
theorem seen_self (l : Rd) (h : l.length ≤ 1000) : R20_SameSeen.F (l,[],[],l,[],[],()) = some (true,()) := by
  rw [R20_SameSeen.eq]; unfold R20_SameSeen.B
  refine bind_to (.inl ()) ?_ ?_
  · exact bind_to _ (reads_self l h) rfl
  · refine bind_to (.inl ()) (loop_out _ rfl) ?_
    exact loop_out _ rfl
theorem same_self (rd : Rd) (st : List tStmtT) (an : List ByteArray) (h1 : rd.length ≤ 1000) (h2 : st.length ≤ 1000) (h3 : an.length ≤ 1000) (hs : ∀ s ∈ st,s.2.2.length ≤ 1000) : R21_Same.F (rd,[],[],[],st,an,rd,[],[],[],st,an,()) = some (true,()) := by
  rw [R21_Same.eq]; unfold R21_Same.B
  refine bind_to (.inl (false,())) ?_ ?_
  · refine bind_to _ (seen_self rd h1) ?_
    refine bind_to _ (show R21_SameWrites.F ([],[],()) = some (true,()) from ?_) ?_
    · rw [R21_SameWrites.eq]; exact loop_out _ rfl
    · show (bif ((st.length : Int) != (st.length : Int)) then _ else _) = _
      rw [ne_self,cond_false]
      exact bind_to _ (texts_self an h3) rfl
  · refine all_loop st.length _ (by omega) (fun i hi => ?_) ?_
    · simp only [in_of hi,nn_of,Bool.and_self,cond_true,Int.toNat_natCast,getD_at hi]
      exact bind_to _ (stmt_self _ _ _ (hs _ (List.getElem_mem hi))) rfl
    · simp only [out_of,cond_false]
/-! ## Fifty statements -/
def rds (n : Nat) : Rd := (List.range n).map fun (j : Nat) => (tt,(iv (j : Int),0))
def sts (n : Nat) : List tStmtT := (List.range n).map fun (j : Nat) => (0,(tt,[iv (j : Int)]))
def ans (n : Nat) : List ByteArray := (List.range n).map fun _ => (⟨#[110,111,110,101]⟩ : ByteArray)
theorem rds_len (n : Nat) : (rds n).length = n := by simp [rds]
theorem sts_len (n : Nat) : (sts n).length = n := by simp [sts]
theorem ans_len (n : Nat) : (ans n).length = n := by simp [ans]
theorem rds_s (n : Nat) : rds (n + 1) = rds n ++ [(tt,(iv (n : Int),0))] := by simp [rds,List.range_succ]
theorem sts_s (n : Nat) : sts (n + 1) = sts n ++ [(0,(tt,[iv (n : Int)]))] := by simp [sts,List.range_succ]
theorem ans_s (n : Nat) : ans (n + 1) = ans n ++ [(⟨#[110,111,110,101]⟩ : ByteArray)] := by simp [ans,List.range_succ]
theorem sts_row (n : Nat) : ∀ s ∈ sts n,s.2.2.length ≤ 1000 := by
  intro s hs
  obtain ⟨j,_,rfl⟩ := List.mem_map.1 hs
  show 1 ≤ 1000
  omega
theorem step_get (n : Nat) (h : n < 50) : txn_Do.F (cat1,[],[],rds n,[],[],[],sts n,ans n,0,tt,[iv (n : Int)],()) = some ((⟨#[110,111,110,101]⟩ : ByteArray),rds (n + 1),[],[],[],sts (n + 1),ans (n + 1),()) := by
  rw [rds_s,sts_s,ans_s]
  exact step_ok (rds n) [] (sts n) (ans n) 0 tt [iv (n : Int)] (⟨#[110,111,110,101]⟩ : ByteArray) _ [] [] (by rw [rds_len]; omega) (by decide) (by rw [sts_len]; omega) (by rw [ans_len]; omega) no0 (sts_row n) (show 1 ≤ 1000 by omega) (wrong0 _)
    (do_none tt (iv (n : Int)) [] (rds n) _ [] (sts n) (ans n) (see_no [] tt (iv (n : Int)) (rds n) [] (sts n) (ans n) (by rw [rds_len]; omega) (by decide) no0 (own0_o tt (iv (n : Int))) (rowR0 _)))
theorem step_no (k : Int) : txn_Do.F (cat1,[],[],rds 50,[],[],[],sts 50,ans 50,0,tt,[iv k],()) = some ((⟨#[101,114,114,111,114,32,50,49,51]⟩ : ByteArray),rds 50,[],[],[],sts 50,ans 50,()) :=
  step_full (rds 50) [] (sts 50) (ans 50) 0 tt [iv k] (⟨#[101,114,114,111,114,32,50,49,51]⟩ : ByteArray) (by rw [rds_len]; omega) (by decide) (by rw [sts_len]) (by rw [ans_len]; omega) no0 (sts_row 50) f213
theorem full_law (n : Int) : L21_TxnFull.F (n,()) = some (true,()) := by
  rw [L21_TxnFull.eq]; unfold L21_TxnFull.B
  by_cases hn : 1 ≤ n ∧ n ≤ 60
  · refine bind_to (.inl ()) ?_ ?_
    · refine bind_to _ fixed_t ?_
      have d1 : decide (n < (1 : Int)) = false := by simp; omega
      have d2 : decide (n > (60 : Int)) = false := by simp; omega
      show (bif decide (n < (1 : Int)) then _ else (bif decide (n > (60 : Int)) then _ else _)) = _
      rw [d1,d2]; rfl
    · obtain ⟨m,rfl⟩ : ∃ m : Nat,n = (m : Int) := ⟨n.toNat,by omega⟩
      have hm1 : 1 ≤ m := by omega
      have hm2 : m ≤ 60 := by omega
      refine bind_to (.inl (rds (min m 50),[],[],[],sts (min m 50),ans (min m 50),())) ?_ ?_
      · refine loop_f (S := Int × Rd × List tRangeT × List tLookT × List tWriteT × List tStmtT × List ByteArray × Unit) (fun x => m - x.1.toNat) (fun x => ∃ i : Nat,x = ((i : Int),rds (min i 50),[],[],[],sts (min i 50),ans (min i 50),()) ∧ i ≤ m) (fun _ => Sum.inl (rds (min m 50),[],[],[],sts (min m 50),ans (min m 50),())) ?_ _ ⟨0,rfl,by omega⟩
        rintro _ ⟨i,rfl,hi⟩
        by_cases hlt : i < m
        · refine .inl ⟨(((i + 1 : Nat) : Int),rds (min (i + 1) 50),[],[],[],sts (min (i + 1) 50),ans (min (i + 1) 50),()),?_,⟨i + 1,rfl,by omega⟩,by show _ - Int.toNat _ < _ - Int.toNat _; rw [Int.toNat_natCast,Int.toNat_natCast]; omega,rfl⟩
          have d0 : decide ((i : Int) < (m : Int)) = true := in_of hlt
          show (bif decide ((i : Int) < (m : Int)) then _ else _) = _
          rw [d0,cond_true]
          refine bind_to _ one_cat ?_
          refine bind_to _ (get_st i) ?_
          have hw : IntKind.i64.wrap ((i : Int) + 1) = ((i + 1 : Nat) : Int) := wrap_s hlt (by omega)
          by_cases h50 : i < 50
          · rw [Nat.min_eq_left (by omega : i ≤ 50),Nat.min_eq_left (by omega : i + 1 ≤ 50)]
            refine bind_to _ (step_get i h50) ?_
            refine bind_to (.inl (false,rds (i + 1),[],[],[],sts (i + 1),ans (i + 1),())) ?_ ?_
            · have d1 : decide ((i : Int) ≥ (50 : Int)) = false := by simp; omega
              have d2 : decide ((i : Int) < (50 : Int)) = true := by simp; omega
              simp only [d1,d2,cond_true,cond_false,beq_self_eq_true,Bool.not_true,hw,sts_len,ne_self]
            · simp only [cond_false,hw]
          · rw [Nat.min_eq_right (by omega : 50 ≤ i),Nat.min_eq_right (by omega : 50 ≤ i + 1)]
            refine bind_to _ (step_no i) ?_
            refine bind_to (.inl (false,rds 50,[],[],[],sts 50,ans 50,())) ?_ ?_
            · have d1 : decide ((i : Int) ≥ (50 : Int)) = true := by simp; omega
              have d2 : decide ((i : Int) < (50 : Int)) = false := by simp; omega
              simp only [d1,d2,cond_true,cond_false,beq_self_eq_true,Bool.not_true]
              refine bind_to _ (same_self (rds 50) (sts 50) (ans 50) (by rw [rds_len]; omega) (by rw [sts_len]; omega) (by rw [ans_len]; omega) (sts_row 50)) ?_
              rfl
            · simp only [cond_false,hw]
        · refine .inr ?_
          have : i = m := by omega
          subst this
          simp only [out_of,cond_false]
      · have hc : ((((rds (min m 50)).length : Nat) : Int) == (bif decide ((50 : Int) < (m : Int)) then (50 : Int) else (m : Int))) = true := by
          rw [rds_len]
          by_cases h50 : 50 < m
          · have d : decide ((50 : Int) < (m : Int)) = true := by simp; omega
            rw [d,Nat.min_eq_right (by omega)]; rfl
          · have d : decide ((50 : Int) < (m : Int)) = false := by simp; omega
            rw [d,Nat.min_eq_left (by omega)]; simp
        simp only [hc,cond_true]
        rfl
  · refine bind_to (.inr (true,())) ?_ rfl
    refine bind_to _ fixed_t ?_
    show (bif decide (n < (1 : Int)) then _ else (bif decide (n > (60 : Int)) then _ else _)) = _
    by_cases h1 : n < 1
    · have d1 : decide (n < (1 : Int)) = true := by simp; omega
      rw [d1,cond_true]
      exact bind_to _ fixed_t rfl
    · have d1 : decide (n < (1 : Int)) = false := by simp; omega
      have d2 : decide (n > (60 : Int)) = true := by simp; omega
      rw [d1,d2]
      exact bind_to _ fixed_t rfl
end Go.Proofs.Ytniojllnooblcaa
end
section
namespace Go.Proofs.Ytniojllnooblcaa
open Go Lv Go.Proofs Go.RowKit Go.Shelf
theorem pure4 (x : ArgT [(.int .i64,false)]) (_ : argIn Tryz.prog [(.int .i64,false)] x) : L21_TxnFull.F (argX 0 [(.int .i64,false)] x) = some (true,()) := full_law x.1
end Go.Proofs.Ytniojllnooblcaa
end
section
set_option maxRecDepth 100000
namespace Go.Proofs.YtniojllnooblcaaGreatDoor
open Go Lv Go.Proofs Go.RowKit Go.ChangeShapes Go.WideShapes Go.ChangeAt Go.Proofs.Ytniojllnooblcaa
/-- what the rows list -/
noncomputable abbrev laid7 : List (String × DataW Unit) := [("math/bits.deBruijn32tab", Rows.laid_math_bits_deBruijn32tab), ("math/bits.deBruijn64tab", Rows.laid_math_bits_deBruijn64tab), ("internal/strconv.uint64pow10", Rows.laid_internal_strconv_uint64pow10), ("unicode/utf8.acceptRanges", Rows.laid_unicode_utf8_acceptRanges), ("unicode/utf8.first", Rows.laid_unicode_utf8_first)]
theorem lay_pow : (Rows.laid_internal_strconv_uint64pow10 : DataW Unit) = Lib.tabData .u64 Lib.pow10Tab := by kernel_rfl
theorem gMax : Tryz.prog.globalNamed "internal/bytealg.MaxLen" = some 0 := by kernel_rfl
theorem gPow : Tryz.prog.globalNamed "internal/strconv.uint64pow10" = some 1 := by kernel_rfl
theorem tPow : (Tryz.prog.globals[1]?).map (·.type) = some 265 := by kernel_rfl
theorem var_lt {P : Program} {W : World} {n : String} {g : Nat} {cs : Array Value} (hg : P.globalNamed n = some g) (h : W.var? P n = some cs) : g < W.heap.size := by
  simp only [World.var?,hg,Option.bind_some] at h
  split at h
  · rename_i he; exact (Array.getElem?_eq_some_iff.1 he).1
  · cases h
theorem cell_var {P : Program} {W : World} {n : String} {g : Nat} {v : Value} (hg : P.globalNamed n = some g) (h : W.cell? ⟨g,0,none⟩ = some v) : ∃ cs,W.var? P n = some cs ∧ cs[0]? = some v := by
  simp only [World.var?,hg,Option.bind_some]
  unfold World.cell? at h
  split at h
  · rename_i he
    rw [he]
    exact ⟨_,rfl,by simpa using h⟩
  · cases h
theorem glb_of {W : World} (hsh : W.ShapedOpen Tryz.prog) (h0 : laidMetH Tryz.prog laid7 W) : Glb (· < W.heap.size) W := by
  have h : laidMet Tryz.prog laid7 W := by rw [MakeChecks.laidMetH_plain _ _ _ (by kernel_rfl)] at h0; exact h0
  have h1 := h.tail.tail
  have hpow : Lib.TabIs Tryz.prog W "internal/strconv.uint64pow10" .u64 Lib.pow10Tab := by
    rw [lay_pow] at h1
    exact Lib.tabIs_of_head (n := 20) (e := 185) gPow tPow (by kernel_rfl) (by kernel_rfl) (by kernel_rfl) (by kernel_rfl) h1
  obtain ⟨m,hm⟩ := cell_of_shapedOpen_int (g := 0) (t := 3) (zero := #[.int .i64 0]) (k := .i64) hsh (of_decide_eq_true (by kernel_rfl)) (by kernel_rfl) rfl (by kernel_rfl) (by kernel_rfl) (by kernel_rfl)
  have hm : W.cell? ⟨0,0,none⟩ = some (.int .i64 m) := hm
  obtain ⟨cs,hc,hc0⟩ := cell_var gMax hm
  have hpow' : W.var? Tryz.prog "internal/strconv.uint64pow10" = some (Lib.pow10Tab.map fun z => Value.int .u64 z).toArray := hpow
  have hall : ∀ v ∈ gvars,VarIs Tryz.prog W v := by
    intro v hv
    simp only [gvars,List.mem_cons,List.not_mem_nil,or_false] at hv
    rcases hv with rfl | rfl
    · exact ⟨gMax,cs,hc,m,hc0⟩
    · exact ⟨gPow,_,hpow',rfl⟩
  refine ⟨fun b hb => ?_,hall⟩
  have hb : b ∈ [0,1] := hb
  simp only [List.mem_cons,List.not_mem_nil,or_false] at hb
  rcases hb with rfl | rfl
  · exact var_lt gMax hc
  · exact var_lt gPow hpow'
end Go.Proofs.YtniojllnooblcaaGreatDoor
end
