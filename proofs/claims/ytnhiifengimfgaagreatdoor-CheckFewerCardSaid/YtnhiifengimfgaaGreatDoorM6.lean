import Derived.Test.YtnhiifengimfgaaGreatDoorM9
import Derived.Test.YtnhiifengimfgaaGreatDoorM3
import Derived.Lib.ItoaLen
import Derived.Lib.AtoiAll
set_option linter.all false
set_option linter.unusedVariables false
set_option linter.unusedSimpArgs false
set_option linter.unusedSectionVars false
section
set_option maxRecDepth 100000
namespace Go.Proofs.Ytnhiifengimfgaa
open Go Lv Go.Proofs Go.RowKit Go.Shelf
variable [Lk]
abbrev I64 (n:Int):Prop:=-9223372036854775808≤n∧n≤9223372036854775807
theorem may_t (a b:Int) (s:ByteArray):Tot (R01_May.F (a,b,s,())) fun _=>True:=by
  rw [R01_May.eq];unfold R01_May.B
  simp [tot_jn]
theorem pick_t (n:Int) (l:List ByteArray) (h:∀x∈l,x.size≤20):Tot (R07_pick.F (n,l,())) fun y=>y.1.size≤20:=by
  rw [R07_pick.eq];unfold R07_pick.B
  simp
  exact fun h1 h2=>⟨⟨h1,h2⟩,h _ (gt_mem h1 h2)⟩
theorem digits_t (n:Int) (h0:0≤n) (h:n<18446744073709551616):Tot (R01_Digits.F (n,())) fun y=>y.1.size≤20:=by
  rw [R01_Digits.eq];unfold R01_Digits.B
  refine tot_j (fun s=>0≤s.1∧s.1≤9∧s.2.1.size≤19) ?_ ?_
  · refine tot_l (fun s=>s.1.toNat) (fun s=>0≤s.1∧∃k:Nat,k+s.2.1.size=19∧s.1<10^(k+1)) ⟨h0,19,rfl,by simp;omega⟩ ?_
    rintro ⟨x,t,_⟩ ⟨h1,k,h2,h3⟩
    have:x.tdiv 10=x/10:=Int.tdiv_eq_ediv_of_nonneg h1
    have:x.tmod 10=x%10:=Int.tmod_eq_emod_of_nonneg h1
    simp_all [u64w]
    refine ⟨fun h=>?_,fun h=>by omega⟩
    cases k with
    |zero=>omega
    |succ k=>
      have:(10:Int)^(k+1+1)=10*10^(k+1):=by rw [Int.pow_succ];omega
      refine ⟨by omega,by omega,⟨by omega,k,by omega,by omega⟩,by omega⟩
  · rintro ⟨x,t,_⟩ ⟨h1,h2,h3⟩
    simp [u64w] at*
    omega
theorem signed_t (n:Int) (h:I64 n):Tot (R01_Signed.F (n,())) fun y=>y.1.size≤21:=by
  obtain ⟨h,h2⟩:=h
  rw [R01_Signed.eq];unfold R01_Signed.B
  simp [u64w,wr_is]
  refine ⟨fun h=>(digits_t _ ?_ ?_).mono fun y hy=>?_,fun h=>(digits_t _ ?_ ?_).mono fun y hy=>?_⟩<;>omega
theorem big3_t (l:List tNodeT) (h:l.length<1000000000000000):Tot (R03_Big.F (l,())) fun y=>y.1=false→l.length≤120∧∀n∈l,n.2.2.2.2.size≤1000:=by
  rw [R03_Big.eq];unfold R03_Big.B
  refine tot_j (fun _=>∀n∈l,n.2.2.2.2.size≤1000) ?_ (fun _ hq=>by simp;exact fun h=>⟨by omega,fun _ _ _ _ s hn=>hq _ hn⟩)
  refine tot_all (l:=l) (fun n:tNodeT=>n.2.2.2.2.size≤1000) (fun i hi=>?_) ?_
  · simp [gt_at hi,wr_is,hi];omega
  · simp
theorem text1_t (k n:Int) (s:ByteArray) (h:I64 n) (hs:s.size≤1000000):Tot (R01_Text.F (k,n,s,())) fun y=>y.1.size≤2*s.size+30:=by
  rw [R01_Text.eq];unfold R01_Text.B
  simp
  refine fun _ _=>⟨fun _=>(signed_t n h).mono fun y hy=>by omega,fun _ _=>?_⟩
  refine tot_j (fun x=>x.1.size≤2*s.size+1) ?_ (by simp;omega)
  refine tot_l (fun x=>s.size-x.2.1.toNat) (fun x=>0≤x.2.1∧x.2.1≤(s.size:Int)∧(x.1.size:Int)≤2*x.2.1+1) (by simp) ?_
  rintro ⟨t,i,_⟩ ⟨h1,h2,h3⟩
  simp [wr_is] at*
  omega
/--a step's numbers are numbers,its text is short -/
def Nd (n:tNodeT):Prop:=I64 n.2.1∧I64 n.2.2.2.1∧n.2.2.2.2.size≤1000
theorem text3_t (n:tNodeT) (h:Nd n):Tot (R03_Text.F ([n],())) fun y=>y.1.size≤2100:=by
  rw [R03_Text.eq];unfold R03_Text.B
  refine tot_l (fun x=>1-x.2.1.toNat) (fun x=>(x.2.1=0∧x.1.size=0)∨(x.2.1=1∧x.1.size≤2100)) (by simp) ?_
  rintro ⟨t,i,_⟩ h0
  rcases h0 with ⟨h1,h2⟩|⟨h1,h2⟩
  · have h1:i=0:=h1
    have h2:t.size=0:=h2
    subst h1
    obtain ⟨op,k,a,b,s⟩:=n
    obtain ⟨g1,g2,g3⟩:=h
    simp at g1 g2 g3
    simp [tot_jn,gt,wr_is]
    refine ⟨fun _=>(signed_t k g1).mono fun y hy=>by omega,fun _=>⟨fun _=>(text1_t a b s g2 (by omega)).mono fun y hy=>by omega,fun _=>⟨fun _=>by omega,fun h3=>⟨fun _=>by omega,fun h4=>?_⟩⟩⟩⟩
    have hm:∀z∈ [(⟨#[]⟩:ByteArray),⟨#[]⟩,⟨#[43]⟩,⟨#[45]⟩,⟨#[42]⟩,⟨#[61]⟩,⟨#[60]⟩,⟨#[97,110,100]⟩,⟨#[111,114]⟩,⟨#[110,111,116]⟩,⟨#[110,117,108,108,63]⟩],z.size≤5:=by simp
    have hg:=hm _ (gt_mem (xs:=[(⟨#[]⟩:ByteArray),⟨#[]⟩,⟨#[43]⟩,⟨#[45]⟩,⟨#[42]⟩,⟨#[61]⟩,⟨#[60]⟩,⟨#[97,110,100]⟩,⟨#[111,114]⟩,⟨#[110,111,116]⟩,⟨#[110,117,108,108,63]⟩]) (i:=op) (z:=⟨#[]⟩) h3 (by simp;omega))
    simp [gt] at hg
    omega
  · simp at h1 h2
    subst h1
    simp
    exact h2
theorem step_t (n:tNodeT) (h:Nd n):Tot (R07_stepText.F (n.1,n.2.1,n.2.2.1,n.2.2.2.1,n.2.2.2.2,())) fun y=>y.1.size≤2100:=by
  rw [R07_stepText.eq];unfold R07_stepText.B
  have h3:=text3_t n h
  simp
  refine fun _=>⟨fun _=>⟨fun _=>(may_t _ _ _).mono fun y _=>?_,fun _=>h3⟩,fun _=>h3⟩
  exact fun _=>h3
def Ex (e:List tNodeT):Prop:=e.length≤120∧∀n∈e,Nd n
theorem expr_t (e:List tNodeT) (h:Ex e):Tot (R07_exprText.F (e,())) fun y=>y.1.size≤300000:=by
  rw [R07_exprText.eq];unfold R07_exprText.B
  obtain ⟨h,hn⟩:=h
  refine tot_j (fun x=>x.1.size≤2+2200*120) ?_ (by simp;omega)
  refine tot_l (fun x=>e.length-x.2.1.toNat) (fun x=>0≤x.2.1∧x.2.1≤(e.length:Int)∧(x.1.size:Int)≤2+2200*x.2.1) (by simp) ?_
  rintro ⟨t,i,_⟩ ⟨h1,h2,h3⟩
  simp at h1 h2 h3
  simp [wr_is]
  refine ⟨fun h4=>⟨⟨h1,h4⟩,(step_t _ (hn _ (gt_mem h1 h4))).mono fun y hy=>by omega⟩,by omega⟩
end Go.Proofs.Ytnhiifengimfgaa
end
section
set_option maxRecDepth 100000
namespace Go.Proofs.Ytnhiifengimfgaa
open Go Lv Go.Proofs Go.RowKit Go.Shelf
variable [Lk]
theorem viewT_t (n f w:ByteArray) (a b:Int) (e:List tNodeT) (pk:List Int) (g:Bool) (ag:List tAggT) (hn:n.size≤100) (hf:f.size≤100) (hw:w.size≤100) (ha:I64 a) (hb:I64 b) (he:Ex e)
    (hp:pk.length≤400) (hp2:∀x∈pk,I64 x) (hg:ag.length≤400) (hg2:∀x∈ag,I64 x.2):Tot (R07_viewText.F (n,f,w,a,b,e,pk,g,ag,())) fun y=>y.1.size≤1000000:=by
  rw [R07_viewText.eq];unfold R07_viewText.B
  refine tot_ck.2 ⟨by simp;omega,tot_ck.2 ⟨by simp;omega,tot_ck.2 ⟨by simp;omega,?_⟩⟩⟩
  refine tot_j (fun s=>s.1.size≤1000) ?_ ?_
  · simp
    refine ⟨fun _=>by omega,fun _=>⟨by omega,by omega,(signed_t a ha).mono fun y hy=>⟨by omega,by omega,(signed_t b hb).mono fun z hz=>by omega⟩⟩⟩
  rintro ⟨s1,_⟩ h1
  refine tot_j (fun s=>s.1.size≤301100) ?_ ?_
  · simp at h1 ⊢
    refine ⟨fun _=>(expr_t e he).mono fun y hy=>by omega,fun _=>by omega⟩
  rintro ⟨s2,_⟩ h2
  simp at h2
  refine tot_ck.2 ⟨by simp;omega,?_⟩
  refine tot_j (fun s=>s.1.size≤320000) ?_ ?_
  · refine tot_l (fun x=>pk.length-x.2.1.toNat) (fun x=>0≤x.2.1∧x.2.1≤(pk.length:Int)∧(x.1.size:Int)≤301200+30*x.2.1) (by simp;omega) ?_
    rintro ⟨t,i,_⟩ ⟨i1,i2,i3⟩
    simp at i1 i2 i3
    simp [wr_is]
    refine ⟨fun h4=>⟨fun _=>⟨by omega,⟨i1,h4⟩,(signed_t _ (hp2 _ (gt_mem i1 h4))).mono fun y hy=>by omega⟩,fun _=>⟨⟨i1,h4⟩,(signed_t _ (hp2 _ (gt_mem i1 h4))).mono fun y hy=>by omega⟩⟩,by omega⟩
  rintro ⟨s3,_⟩ h3
  simp at h3
  refine tot_j (fun s=>s.1.size≤320010) ?_ ?_
  · simp;exact ⟨fun _=>by omega,fun _=>by omega⟩
  rintro ⟨s4,_⟩ h4
  simp at h4
  refine tot_l (fun x=>ag.length-x.2.1.toNat) (fun x=>0≤x.2.1∧x.2.1≤(ag.length:Int)∧(x.1.size:Int)≤320010+60*x.2.1) (by simp;omega) ?_
  rintro ⟨t,i,_⟩ ⟨i1,i2,i3⟩
  simp at i1 i2 i3
  refine tot_cond.2 ⟨fun h5=>?_,fun h5=>by simp at h5 ⊢;omega⟩
  simp at h5
  have hs:=hg2 _ (gt_mem (z:=tAgg.z) i1 h5)
  refine tot_j (fun s=>(s.1.size:Int)≤320020+60*i) (by simp;omega) ?_
  rintro ⟨u,_⟩ h6
  simp at h6
  simp [wr_is]
  refine ⟨⟨i1,h5⟩,(pick_t _ _ (by simp)).mono fun y hy=>⟨by omega,by omega,⟨i1,h5⟩,fun _=>⟨⟨i1,h5⟩,(signed_t _ hs).mono fun z hz=>by omega⟩,fun _=>by omega⟩⟩
theorem tableT_t (n:ByteArray) (cs:List tColumnT) (es:List (List tNodeT)) (hn:n.size≤100) (hc:cs.length≤400) (hc2:∀c∈cs,c.1.size≤100∧c.2.2.2.2.1.size≤100) (he:es.length≤400) (he2:∀e∈es,Ex e):
    Tot (R07_tableText.F (n,cs,es,())) fun y=>y.1.size≤1000000000:=by
  rw [R07_tableText.eq];unfold R07_tableText.B
  refine tot_ck.2 ⟨by simp;omega,tot_ck.2 ⟨by simp;omega,?_⟩⟩
  refine tot_j (fun s=>s.1.size≤1000000) ?_ ?_
  · refine tot_l (fun x=>cs.length-x.2.1.toNat) (fun x=>0≤x.2.1∧x.2.1≤(cs.length:Int)∧(x.1.size:Int)≤1000+400*x.2.1) (by simp;omega) ?_
    rintro ⟨t,i,_⟩ ⟨i1,i2,i3⟩
    simp at i1 i2 i3
    refine tot_cond.2 ⟨fun h5=>?_,fun h5=>by simp at h5 ⊢;omega⟩
    simp at h5
    obtain ⟨g1,g2⟩:=hc2 _ (gt_mem (z:=tColumn.z) i1 h5)
    refine tot_ck.2 ⟨by simp;omega,?_⟩
    refine tot_j (fun s=>(s.1.size:Int)≤1002+400*i) (by simp;omega) ?_
    rintro ⟨u,_⟩ h6
    simp at h6
    refine tot_ck.2 ⟨by simp;omega,tot_ck.2 ⟨by simp;omega,?_⟩⟩
    refine tot_bind.2 ((pick_t _ _ (by simp)).mono fun y hy=>?_)
    refine tot_ck.2 ⟨by simp;omega,tot_ck.2 ⟨by simp;omega,?_⟩⟩
    refine tot_j (fun s=>(s.1.size:Int)≤1140+400*i) (by simp;exact ⟨fun _=>by omega,fun _=>by omega⟩) ?_
    rintro ⟨u2,_⟩ h7
    simp at h7
    refine tot_j (fun s=>(s.1.size:Int)≤1150+400*i) (by simp;exact ⟨fun _=>by omega,fun _=>by omega⟩) ?_
    rintro ⟨u3,_⟩ h8
    simp at h8
    simp [wr_is]
    refine ⟨fun _=>by omega,fun _=>⟨by omega,by omega,(pick_t _ _ (by simp)).mono fun z hz=>by omega⟩⟩
  rintro ⟨s1,_⟩ h1
  simp at h1
  refine tot_ck.2 ⟨by simp;omega,?_⟩
  refine tot_l (fun x=>es.length-x.2.1.toNat) (fun x=>0≤x.2.1∧x.2.1≤(es.length:Int)∧(x.1.size:Int)≤1000100+301000*x.2.1) (by simp;omega) ?_
  rintro ⟨t,i,_⟩ ⟨i1,i2,i3⟩
  simp at i1 i2 i3
  simp [wr_is]
  refine ⟨fun h5=>⟨⟨i1,h5⟩,(expr_t _ (he2 _ (gt_mem i1 h5))).mono fun y hy=>by omega⟩,by omega⟩
@[simp] theorem letter_s (c : Int) : R06_Letter.F (c,()) = some (decide (97 ≤ c) && decide (c ≤ 122),()) := by
  rw [R06_Letter.eq];unfold R06_Letter.B
  by_cases h:97≤c<;>simp [h]
@[simp] theorem digit_s (c : Int) : R06_Digit.F (c,()) = some (decide (48 ≤ c) && decide (c ≤ 57),()) := by
  rw [R06_Digit.eq];unfold R06_Digit.B
  by_cases h:48≤c<;>simp [h]
theorem inner_t (c:Int):Tot (R06_Inner.F (c,())) fun _=>True:=by
  rw [R06_Inner.eq];unfold R06_Inner.B
  simp
theorem sign_t (c:Int):Tot (R06_Sign.F (c,())) fun _=>True:=by
  rw [R06_Sign.eq];unfold R06_Sign.B
  refine tot_r 11 fun i h0 h1=>?_
  simp [wr_is];omega
theorem word_t (s:ByteArray) (h:s.size<1000000000000000):Tot (R06_Word.F (s,())) fun _=>True:=by
  rw [R06_Word.eq];unfold R06_Word.B
  refine tot_j (fun _=>True) (tot_r s.size fun i h0 h1=>?_) ?_
  · simp [wr_is]
    exact fun h2=>⟨⟨h0,h2⟩,(inner_t _).mono fun _ _ _=>by omega⟩
  · simp;omega
@[simp] theorem int_s (n : Int) : R01_Int.F (n,()) = some (2,n,⟨#[]⟩,()) := by
  rw [R01_Int.eq];rfl
@[simp] theorem nulls_s (a b : Int) (s : ByteArray) (c d : Int) (t : ByteArray) : R01_Nulls.F (a,b,s,c,d,t,()) = some (a == 0 || c == 0,()) := by
  rw [R01_Nulls.eq];unfold R01_Nulls.B
  cases h:(a==0)<;>simp [h]
@[simp] theorem ints_s (a b : Int) (s : ByteArray) (c d : Int) (t : ByteArray) : R01_Ints.F (a,b,s,c,d,t,()) = some (a == 2 && c == 2,()) := by
  rw [R01_Ints.eq];unfold R01_Ints.B
  cases h:(a==2)<;>simp [h]
@[simp] theorem least_s : R01_Least.F () = some (-9223372036854775808,()) := by rw [R01_Least.eq]; rfl
@[simp] theorem most_s : R01_Most.F () = some (9223372036854775807,()) := by rw [R01_Most.eq]; rfl
@[simp] theorem truth_s (b : Bool) : R01_Truth.F (b,()) = some (1,(bif b then 1 else 0),⟨#[]⟩,()) := by
  rw [R01_Truth.eq];unfold R01_Truth.B
  cases b<;>rfl
theorem mul_t (a b:Int) (s:ByteArray) (c d:Int) (t:ByteArray):Tot (R01_Mul.F (a,b,s,c,d,t,())) fun _=>True:=by
  rw [R01_Mul.eq];unfold R01_Mul.B
  simp [tot_jn]
  grind
theorem add_t (a b:Int) (s:ByteArray) (c d:Int) (t:ByteArray):Tot (R01_Add.F (a,b,s,c,d,t,())) fun y=>I64 y.2.1:=by
  rw [R01_Add.eq];unfold R01_Add.B
  simp [tot_jn,wr_is]
  grind
theorem sub_t (a b:Int) (s:ByteArray) (c d:Int) (t:ByteArray):Tot (R01_Sub.F (a,b,s,c,d,t,())) fun y=>I64 y.2.1:=by
  rw [R01_Sub.eq];unfold R01_Sub.B
  simp [tot_jn,wr_is]
  grind
end Go.Proofs.Ytnhiifengimfgaa
end
section
set_option maxRecDepth 100000
namespace Go.Proofs.Ytnhiifengimfgaa
open Go Lv Go.Proofs Go.RowKit Go.Shelf
variable [Lk]
theorem number_t (s:ByteArray) (h:0<s.size) (h2:s.size<1000000000000000):Tot (R06_Number.F (s,())) fun _=>True:=by
  rw [R06_Number.eq];unfold R06_Number.B
  refine tot_ck.2 ⟨by simp;omega,?_⟩
  refine tot_j (fun x=>I64 x.2.2.1) ?_ ?_
  · refine tot_l (fun x=>s.size-x.2.1.toNat) (fun x=>0≤x.2.1∧x.2.1≤(s.size:Int)∧I64 x.2.2.2.1) (by simp [I64]) ?_
    rintro ⟨ok,i,a,b,t,_⟩ ⟨i1,i2,i3⟩
    simp at i1 i2 i3
    refine tot_cond.2 ⟨fun h5=>?_,fun h5=>by simp;exact i3⟩
    simp at h5
    refine tot_j (fun x=>I64 x.2.2.1) ?_ (by rintro ⟨o,c,d,u,_⟩ h6;simp at h6;simp [wr_is];omega)
    simp
    refine ⟨⟨i1,h5⟩,fun _=>i3,fun _=>⟨⟨i1,h5⟩,(mul_t _ _ _ _ _ _).mono fun y _=>(add_t _ _ _ _ _ _).mono fun z hz=>⟨fun _=>(sub_t _ _ _ _ _ _).mono fun u hu=>?_,fun _=>?_⟩⟩⟩
    · exact ⟨fun _=>⟨fun _=>hu,fun _=>hu⟩,fun _=>hu⟩
    · exact ⟨fun _=>⟨fun _=>hz,fun _=>hz⟩,fun _=>hz⟩
  · rintro ⟨ok,a,b,t,_⟩ h3
    simp at h3
    simp
    exact fun _=>(signed_t _ h3).mono fun _ _=>trivial
theorem textL_t (s:ByteArray) (i:Int) (h0:0≤i) (h:i<(s.size:Int)) (h2:s.size≤20000):Tot (R06_text.F (s,i,())) fun y=>y.2.2.1=true→i<y.2.1∧y.2.1≤(s.size:Int):=by
  rw [R06_text.eq];unfold R06_text.B
  refine tot_l (fun x=>s.size+1-x.2.1.toNat) (fun x=>i+1≤x.2.1∧x.2.1≤(s.size:Int)+1∧(x.1.size:Int)≤x.2.1) (by simp [wr_is];omega) ?_
  rintro ⟨t,j,_⟩ ⟨i1,i2,i3⟩
  simp at i1 i2 i3
  simp [wr_is]
  omega
theorem lex_t (s : ByteArray) : Tot (R06_Lex.F (s,())) fun y => y.2.1.length ≤ 20000 ∧ ∀ t ∈ y.2.1,t.2.1.size ≤ 20000 := by
  rw [R06_Lex.eq];unfold R06_Lex.B
  refine tot_cond.2 ⟨fun _=>by simp,fun h=>?_⟩
  simp at h
  refine tot_l (fun x=>s.size-x.1.toNat) (fun x=>0≤x.1∧x.1≤(s.size:Int)∧(x.2.1.length:Int)≤x.1∧∀t∈x.2.1,t.2.1.size≤20000) (by simp) ?_
  rintro ⟨i,l,_⟩ ⟨i1,i2,i3,i4⟩
  dsimp only at i1 i2 i3 i4 ⊢
  refine tot_cond.2 ⟨fun h5=>?_,fun h5=>by simp only [tot_ir];exact ⟨by omega,i4⟩⟩
  simp at h5
  have hw:wr (i+1)=i+1:=wr_id (by omega) (by omega)
  refine tot_ck.2 ⟨by simp;omega,tot_ck.2 ⟨by simp [hw];omega,tot_bind.2 ((sign_t _).mono fun y4 _=>?_)⟩⟩
  refine tot_cond.2 ⟨fun _=>by simp only [hw,tot_il];exact ⟨⟨by omega,by omega,by omega,i4⟩,by omega⟩,fun _=>?_⟩
  refine tot_j (fun x=>(x.2.1=true→i<x.1∧x.1≤(s.size:Int))∧x.2.2.2.1.size≤20000) ?_ ?_
  · simp only [letter_s,Option.bind_some]
    refine tot_cond.2 ⟨fun _=>?_,fun _=>?_⟩
    · refine tot_j (fun x=>i<x.1∧x.1≤(s.size:Int)) ?_ ?_
      · refine tot_l (fun x=>s.size-x.1.toNat) (fun x=>i<x.1∧x.1≤(s.size:Int)) (by simp [hw];omega) ?_
        rintro ⟨j,_⟩ ⟨j1,j2⟩
        simp at j1 j2
        simp [wr_is]
        refine ⟨fun h6=>⟨by omega,(inner_t _).mono fun _ _=>by omega⟩,by omega⟩
      · rintro ⟨j,_⟩ ⟨j1,j2⟩
        simp at j1 j2
        simp
        refine ⟨by omega,(word_t _ (by simp;omega)).mono fun _ _=>⟨by omega,by omega⟩⟩
    · refine tot_j (fun _=>True) (by simp [hw];omega) ?_
      rintro ⟨b,_⟩ _
      refine tot_cond.2 ⟨fun _=>?_,fun _=>tot_cond.2 ⟨fun _=>?_,fun _=>by simp [hw];omega⟩⟩
      · refine tot_j (fun x=>i<x.1∧x.1≤(s.size:Int)) ?_ ?_
        · refine tot_l (fun x=>s.size-x.1.toNat) (fun x=>i<x.1∧x.1≤(s.size:Int)) (by simp [hw];omega) ?_
          rintro ⟨j,_⟩ ⟨j1,j2⟩
          simp at j1 j2
          simp [wr_is]
          omega
        · rintro ⟨j,_⟩ ⟨j1,j2⟩
          simp at j1 j2
          simp
          refine ⟨by omega,(number_t _ (by simp;omega) (by simp;omega)).mono fun _ _=>by omega⟩
      · refine tot_bind.2 ((textL_t s i i1 h5 (by omega)).mono fun y hy=>?_)
        simp
        exact hy
  · rintro ⟨j,ok,a,t,b,c,u,_⟩ ⟨h6,h7⟩
    dsimp only at h6 h7 ⊢
    cases ok with
    |false=>simp
    |true=>
      have h6:=h6 rfl
      refine tot_cond.2 ⟨fun h=>(by cases h),fun _=>tot_ck.2 ⟨by simp;omega,?_⟩⟩
      simp only [tot_il]
      refine ⟨⟨by omega,by omega,by simp;omega,fun x hx=>?_⟩,by omega⟩
      rcases List.mem_append.1 hx with hx|hx
      · exact i4 x hx
      · cases List.mem_singleton.1 hx;exact h7
end Go.Proofs.Ytnhiifengimfgaa
end
section
set_option maxRecDepth 100000
namespace Go.Proofs.Ytnhiifengimfgaa
open Go Lv Go.Proofs Go.RowKit Go.Shelf
variable [Lk]
/--a parser's tokens and place:n at most are left;where all was right so far,G -/
def Ps (G:Prop) (n:Int) (L:List tTokT) (a:Int) (ok:Bool):Prop:=0≤a∧a≤(L.length:Int)∧(L.length:Int)-a≤n∧L.length≤20000∧(∀t∈L,t.2.1.size≤20000)∧(ok=true→G)
theorem Ps.le {G:Prop} {n m:Int} {L:List tTokT} {a:Int} {ok:Bool} (h:Ps G n L a ok) (hm:n≤m):Ps G m L a ok:=⟨h.1,h.2.1,by have:=h.2.2.1;omega,h.2.2.2⟩
theorem Ps.own {G:Prop} {n:Int} {L:List tTokT} {a:Int} {ok:Bool} (h:Ps G n L a ok):Ps G ((L.length:Int)-a) L a ok:=⟨h.1,h.2.1,by omega,h.2.2.2⟩
theorem Ps.f {G H:Prop} {n:Int} {L:List tTokT} {a:Int} {ok:Bool} (h:Ps G n L a ok):Ps H n L a false:=⟨h.1,h.2.1,h.2.2.1,h.2.2.2.1,h.2.2.2.2.1,fun h=>by cases h⟩
theorem Ps.to {G H:Prop} {n:Int} {L:List tTokT} {a:Int} {ok:Bool} (h:Ps G n L a ok) (k:ok=true→G→H):Ps H n L a ok:=⟨h.1,h.2.1,h.2.2.1,h.2.2.2.1,h.2.2.2.2.1,fun e=>k e (h.2.2.2.2.2 e)⟩
theorem is_t {G:Prop} {n:Int} {L:List tTokT} {a:Int} (p:ByteArray) (ok:Bool) (h:Ps G n L a ok):Tot (R07_Parser_is.F (p,L,a,ok,())) fun y=>Ps G n y.2.1 y.2.2.1 y.2.2.2.1∧(y.1=true→y.2.2.1<(y.2.1.length:Int)):=by
  rw [R07_Parser_is.eq];unfold R07_Parser_is.B
  have h1:=h.1
  simp
  exact ⟨fun h2=>⟨⟨h1,h2⟩,fun _=>⟨⟨h1,h2⟩,h,fun _=>h2⟩,fun _=>h⟩,fun _=>h⟩
theorem take_t {G:Prop} {n:Int} {L:List tTokT} {a:Int} (p:ByteArray) (ok:Bool) (h:Ps G n L a ok):Tot (R07_Parser_take.F (p,L,a,ok,())) fun y=>Ps G n y.2.1 y.2.2.1 y.2.2.2.1∧(y.1=true→Ps G (n-1) y.2.1 y.2.2.1 y.2.2.2.1):=by
  rw [R07_Parser_take.eq];unfold R07_Parser_take.B
  refine tot_bind.2 ((is_t p ok h).mono ?_)
  rintro ⟨b,L1,a1,o1,_⟩ ⟨h1,h2⟩
  dsimp only at h1 h2 ⊢
  cases b with
  |false=>simpa using h1
  |true=>
    have h2:=h2 rfl
    obtain ⟨g1,g2,g3,g4⟩:=h1
    have hw:wr (a1+1)=a1+1:=wr_id (by omega) (by omega)
    simp only [cond_true,tot_some,hw]
    exact ⟨⟨by omega,by omega,by omega,g4⟩,fun _=>⟨by omega,by omega,by omega,g4⟩⟩
theorem one_t {G:Prop} {n:Int} {L:List tTokT} {a:Int} (l:List ByteArray) (hl:l.length≤100) (ok:Bool) (h:Ps G n L a ok):Tot (R07_Parser_one.F (l,L,a,ok,())) fun y=>Ps G n y.2.1 y.2.2.1 y.2.2.2.1∧0≤y.1∧y.1≤100:=by
  rw [R07_Parser_one.eq];unfold R07_Parser_one.B
  refine tot_j (fun x=>Ps G n x.1 x.2.1 x.2.2.1) ?_ (by rintro ⟨L1,a1,o1,_⟩ h1;simp;exact h1.f)
  refine tot_l (fun x=>l.length-x.1.toNat) (fun x=>0≤x.1∧x.1≤(l.length:Int)∧Ps G n x.2.1 x.2.2.1 x.2.2.2.1) ⟨by simp,by simp,h⟩ ?_
  rintro ⟨i,L1,a1,o1,_⟩ ⟨i1,i2,i3⟩
  dsimp only at i1 i2 i3 ⊢
  refine tot_cond.2 ⟨fun h5=>?_,fun h5=>by simp;exact i3⟩
  simp at h5
  refine tot_ck.2 ⟨by simp;omega,tot_bind.2 ((take_t _ o1 i3).mono ?_)⟩
  rintro ⟨b,L2,a2,o2,_⟩ ⟨h1,h2⟩
  dsimp only at h1 h2 ⊢
  have hw:wr (i+1)=i+1:=wr_id (by omega) (by omega)
  cases b with
  |true=>simp;exact ⟨h1,i1,by omega⟩
  |false=>simp [hw];exact ⟨⟨by omega,by omega,h1⟩,by omega⟩
theorem next_t {G:Prop} {n:Int} {L:List tTokT} {a:Int} (ok:Bool) (h:Ps G n L a ok):Tot (R07_Parser_next.F (L,a,ok,())) fun y=>Ps G n y.2.2.2.2.2.1 y.2.2.2.2.2.2.1 y.2.2.2.2.2.2.2.1∧y.2.1.size≤20000:=by
  rw [R07_Parser_next.eq];unfold R07_Parser_next.B
  obtain ⟨g1,g2,g3,g4⟩:=h
  refine tot_cond.2 ⟨fun _=>by simp;exact ⟨g1,g2,g3,g4.1,g4.2.1,by simp⟩,fun h5=>?_⟩
  simp at h5
  have hw:wr (a+1)=a+1:=wr_id (by omega) (by omega)
  have hw2:wr (a+1-1)=a:=by rw [wr_id]<;>omega
  simp only [hw,hw2]
  refine tot_ck.2 ⟨by simp;omega,?_⟩
  simp only [tot_some]
  exact ⟨⟨by omega,by omega,by omega,g4⟩,g4.2.1 _ (gt_mem g1 (by omega))⟩
theorem keyword_t (s:ByteArray):Tot (R07_Keyword.F (s,())) fun _=>True:=by
  rw [R07_Keyword.eq];unfold R07_Keyword.B
  refine tot_r 27 fun i h0 h1=>?_
  simp [wr_is];omega
theorem nameW_t (s:ByteArray) (h:s.size<1000000000000000):Tot (R07_Name.F (s,())) fun _=>True:=by
  rw [R07_Name.eq];unfold R07_Name.B
  refine tot_bind.2 ((word_t _ h).mono fun y _=>?_)
  simp
  exact fun _=>keyword_t _
end Go.Proofs.Ytnhiifengimfgaa
end
section
set_option maxRecDepth 100000
namespace Go.Proofs.Ytnhiifengimfgaa
open Go Lv Go.Proofs Go.RowKit Go.Shelf
variable [Lk]
variable {G:Prop} {n:Int} {L:List tTokT} {a:Int}
theorem name_t (ok:Bool) (h:Ps G n L a ok):Tot (R07_Parser_name.F (L,a,ok,())) fun y=>Ps G n y.2.1 y.2.2.1 y.2.2.2.1:=by
  rw [R07_Parser_name.eq];unfold R07_Parser_name.B
  refine tot_bind.2 ((next_t ok h).mono ?_)
  rintro ⟨k,t,b,c,s,L1,a1,o1,_⟩ ⟨h1,h2⟩
  dsimp only at h1 h2 ⊢
  refine tot_cond.2 ⟨fun _=>by simp;first|exact h1|exact h1.f,fun _=>tot_bind.2 ((nameW_t t (by omega)).mono fun y _=>?_)⟩
  exact tot_cond.2 ⟨fun _=>by simp;first|exact h1|exact h1.f,fun _=>by simp;first|exact h1|exact h1.f⟩
theorem need_t (p:ByteArray) (ok:Bool) (h:Ps G n L a ok):Tot (R07_Parser_need.F (p,L,a,ok,())) fun y=>Ps G n y.1 y.2.1 y.2.2.1:=by
  rw [R07_Parser_need.eq];unfold R07_Parser_need.B
  refine tot_bind.2 ((take_t p ok h).mono ?_)
  rintro ⟨b,L1,a1,o1,_⟩ ⟨h1,_⟩
  dsimp only at h1 ⊢
  exact tot_cond.2 ⟨fun _=>by simp;first|exact h1|exact h1.f,fun _=>by simp;first|exact h1|exact h1.f⟩
theorem col_t (ok:Bool) (h:Ps G n L a ok):Tot (R07_Parser_col.F (L,a,ok,())) fun y=>Ps (G∧0≤y.1∧y.1≤99) n y.2.1 y.2.2.1 y.2.2.2.1:=by
  rw [R07_Parser_col.eq];unfold R07_Parser_col.B
  refine tot_bind.2 ((next_t ok h).mono ?_)
  rintro ⟨k,t,b,c,s,L1,a1,o1,_⟩ ⟨h1,_⟩
  dsimp only at h1 ⊢
  refine tot_j (fun x=>x.1=false→0≤c∧c≤99) ?_ fun x hx=>?_
  · refine tot_cond.2 ⟨fun _=>by simp,fun _=>tot_cond.2 ⟨fun _=>by simp,fun _=>tot_cond.2 ⟨fun _=>by simp,fun h3=>?_⟩⟩⟩
    simp at h3
    simp [h3]
  · exact tot_cond.2 ⟨fun _=>by simp only [tot_some];exact h1.f,fun e=>by simp only [tot_some];exact h1.to fun _ g=>⟨g,hx e⟩⟩
theorem stepP_t (ok:Bool) (h:Ps G n L a ok):Tot (R07_Parser_step.F (L,a,ok,())) fun y=>Ps G n y.2.2.2.2.2.1 y.2.2.2.2.2.2.1 y.2.2.2.2.2.2.2.1:=by
  rw [R07_Parser_step.eq];unfold R07_Parser_step.B
  refine tot_bind.2 ((take_t _ ok h).mono ?_)
  rintro ⟨b,L1,a1,o1,_⟩ ⟨h1,_⟩
  dsimp only at h1 ⊢
  refine tot_cond.2 ⟨fun _=>tot_bind.2 ((take_t _ o1 h1).mono ?_),fun _=>tot_bind.2 ((take_t _ o1 h1).mono ?_)⟩
  · rintro ⟨b,L2,a2,o2,_⟩ ⟨h2,_⟩
    exact tot_cond.2 ⟨fun _=>by simp;first|exact h2|exact h2.f,fun _=>by simp;first|exact h2|exact h2.f⟩
  rintro ⟨b,L2,a2,o2,_⟩ ⟨h2,_⟩
  dsimp only at h2 ⊢
  refine tot_cond.2 ⟨fun _=>by simp;first|exact h2|exact h2.f,fun _=>tot_bind.2 ((take_t _ o2 h2).mono ?_)⟩
  rintro ⟨b,L3,a3,o3,_⟩ ⟨h3,_⟩
  dsimp only at h3 ⊢
  refine tot_cond.2 ⟨fun _=>by simp;first|exact h3|exact h3.f,fun _=>?_⟩
  refine tot_j (fun x=>Ps G n x.1 x.2.1 x.2.2.1) ?_ ?_
  · refine tot_l (fun x=>8-x.1.toNat) (fun x=>0≤x.1∧x.1≤8∧Ps G n x.2.1 x.2.2.1 x.2.2.2.1) ⟨by simp,by simp,h3⟩ ?_
    rintro ⟨i,L4,a4,o4,_⟩ ⟨i1,i2,i3⟩
    dsimp only at i1 i2 i3 ⊢
    refine tot_cond.2 ⟨fun h5=>?_,fun _=>by simpa using i3⟩
    simp at h5
    refine tot_ck.2 ⟨by simp;omega,tot_bind.2 ((take_t _ o4 i3).mono ?_)⟩
    rintro ⟨b,L5,a5,o5,_⟩ ⟨h6,_⟩
    dsimp only at h6 ⊢
    have hw:wr (i+1)=i+1:=wr_id (by omega) (by omega)
    refine tot_cond.2 ⟨fun _=>by simp;first|exact h6|exact h6.f,fun _=>?_⟩
    simp only [hw,tot_il]
    exact ⟨⟨by omega,by omega,h6⟩,by omega⟩
  rintro ⟨L4,a4,o4,_⟩ h4
  refine tot_bind.2 ((next_t o4 h4).mono ?_)
  rintro ⟨k,t,b,c,s,L5,a5,o5,_⟩ ⟨h5,_⟩
  dsimp only at h5 ⊢
  refine tot_cond.2 ⟨fun _=>by simp;first|exact h5|exact h5.f,fun _=>?_⟩
  refine tot_j (fun _=>True) ?_ fun _ _=>by simp;first|exact h5|exact h5.f
  refine tot_r 100 fun i h0 h1=>?_
  refine tot_cond.2 ⟨fun h6=>?_,fun _=>by simp⟩
  simp at h6
  have hw:wr (i+1)=i+1:=wr_id (by omega) (by omega)
  refine tot_cond.2 ⟨fun _=>tot_bind.2 ((signed_t i ⟨by omega,by omega⟩).mono fun y hy=>tot_ck.2 ⟨by simp;omega,?_⟩),fun _=>by simp [hw];omega⟩
  refine tot_cond.2 ⟨fun _=>by simp;first|exact h5|exact h5.f,fun _=>by simp [hw];omega⟩
theorem exprP_t (ok:Bool) (h:Ps G n L a ok):Tot (R07_Parser_expr.F (L,a,ok,())) fun y=>Ps G n y.1 y.2.1 y.2.2.1∧y.2.2.2.1.length≤101:=by
  rw [R07_Parser_expr.eq];unfold R07_Parser_expr.B
  refine tot_bind.2 ((need_t _ ok h).mono ?_)
  rintro ⟨L1,a1,o1,_⟩ h1
  dsimp only at h1 ⊢
  refine tot_l (fun x=>102-x.1.length) (fun x=>x.1.length≤101∧(x.2.2.2.1=true→x.1.length≤100)∧Ps G n x.2.1 x.2.2.1 x.2.2.2.1) ⟨by simp,by simp,h1⟩ ?_
  rintro ⟨l,L2,a2,o2,_⟩ ⟨i1,i2,i3⟩
  dsimp only at i1 i2 i3 ⊢
  refine tot_cond.2 ⟨fun h5=>tot_bind.2 ((take_t _ o2 i3).mono ?_),fun _=>by simp;exact ⟨i3,i1⟩⟩
  rintro ⟨b,L3,a3,o3,_⟩ ⟨h3,_⟩
  dsimp only at h3 ⊢
  have i2:=i2 h5
  refine tot_cond.2 ⟨fun _=>tot_bind.2 ((stepP_t o3 h3).mono ?_),fun _=>by simp;exact ⟨h3,i1⟩⟩
  rintro ⟨p,q,r,s,t,L4,a4,o4,_⟩ h4
  dsimp only at h4 ⊢
  refine tot_ck.2 ⟨by simp;omega,tot_cond.2 ⟨fun _=>?_,fun h6=>?_⟩⟩
  · simp only [tot_il,List.length_append,List.length_singleton]
    exact ⟨⟨by omega,by simp,h4.f⟩,by omega⟩
  · simp at h6
    simp only [tot_il,List.length_append,List.length_singleton]
    exact ⟨⟨by omega,fun _=>by omega,h4⟩,by omega⟩
theorem column_t (ok:Bool) (h:Ps G n L a ok):Tot (R07_Parser_column.F (L,a,ok,())) fun y=>Ps G n y.2.2.2.2.2.2.1 y.2.2.2.2.2.2.2.1 y.2.2.2.2.2.2.2.2.1:=by
  rw [R07_Parser_column.eq];unfold R07_Parser_column.B
  refine tot_bind.2 ((name_t ok h).mono ?_)
  rintro ⟨s1,L1,a1,o1,_⟩ h1
  refine tot_bind.2 ((one_t _ (by simp) o1 h1).mono ?_)
  rintro ⟨s2,L2,a2,o2,_⟩ ⟨h2,_⟩
  refine tot_bind.2 ((take_t _ o2 h2).mono ?_)
  rintro ⟨s3,L3,a3,o3,_⟩ ⟨h3,_⟩
  refine tot_bind.2 ((take_t _ o3 h3).mono ?_)
  rintro ⟨s4,L4,a4,o4,_⟩ ⟨h4,_⟩
  refine tot_bind.2 ((take_t _ o4 h4).mono ?_)
  rintro ⟨s5,L5,a5,o5,_⟩ ⟨h5,_⟩
  dsimp only at h5 ⊢
  refine tot_cond.2 ⟨fun _=>tot_bind.2 ((name_t o5 h5).mono ?_),fun _=>by simp;first|exact h5|exact h5.f⟩
  rintro ⟨s6,L6,a6,o6,_⟩ h6
  refine tot_bind.2 ((one_t _ (by simp) o6 h6).mono ?_)
  rintro ⟨s7,L7,a7,o7,_⟩ ⟨h7,_⟩
  simpa using h7
theorem agg_t (ok:Bool) (h:Ps G n L a ok):Tot (R07_Parser_agg.F (L,a,ok,())) fun y=>Ps (G∧0≤y.2.1) n y.2.2.1 y.2.2.2.1 y.2.2.2.2.1:=by
  rw [R07_Parser_agg.eq];unfold R07_Parser_agg.B
  refine tot_bind.2 ((one_t _ (by simp) ok h).mono ?_)
  rintro ⟨s1,L1,a1,o1,_⟩ ⟨h1,_⟩
  dsimp only at h1 ⊢
  refine tot_cond.2 ⟨fun _=>tot_bind.2 ((col_t o1 h1).mono ?_),fun _=>by simp only [tot_some];exact h1.to fun _ g=>⟨g,by omega⟩⟩
  rintro ⟨s2,L2,a2,o2,_⟩ h2
  simp only [tot_some]
  exact h2.to fun _ g=>⟨g.1,g.2.1⟩
end Go.Proofs.Ytnhiifengimfgaa
end
section
set_option maxRecDepth 100000
namespace Go.Proofs.Ytnhiifengimfgaa
open Go Lv Go.Proofs Go.RowKit Go.Shelf
variable [Lk]
variable {G:Prop} {n:Int} {L:List tTokT} {a:Int}
theorem Ps.lt {L1:List tTokT} {a1:Int} {o:Bool} (h:Ps G ((L.length:Int)-a-1) L1 a1 o):((L1.length:Int)-a1).toNat<((L.length:Int)-a).toNat∧(L1.length:Int)-a1+1≤(L.length:Int)-a:=by
  obtain ⟨h1,h2,h3,h4⟩:=h
  omega
theorem tableP_t (ok:Bool) (h:Ps G n L a ok):Tot (R07_Parser_table.F (L,a,ok,())) fun y=>Ps G n y.2.1 y.2.2.1 y.2.2.2.1∧1≤y.2.2.2.2.1.length:=by
  rw [R07_Parser_table.eq];unfold R07_Parser_table.B
  refine tot_bind.2 ((name_t ok h).mono ?_)
  rintro ⟨s1,L1,a1,o1,_⟩ h1
  refine tot_bind.2 ((need_t _ o1 h1).mono ?_)
  rintro ⟨L2,a2,o2,_⟩ h2
  refine tot_bind.2 ((column_t o2 h2).mono ?_)
  rintro ⟨c1,c2,c3,c4,c5,c6,L3,a3,o3,_⟩ h3
  dsimp only at h3 ⊢
  have g3:=h3.2.2.2.1
  have g4:=h3.1
  refine tot_ck.2 ⟨by simp,?_⟩
  refine tot_j (fun x=>Ps G n x.1 x.2.1 x.2.2.1∧x.2.2.2.2.2.1.length=0∧1≤x.2.2.2.2.1.length) ?_ ?_
  · refine tot_l (fun x=>((x.1.length:Int)-x.2.1).toNat) (fun x=>Ps G n x.1 x.2.1 x.2.2.1∧(x.2.2.2.2.1.length:Int)+((x.1.length:Int)-x.2.1)≤20001∧x.2.2.2.2.2.1.length=0∧1≤x.2.2.2.2.1.length) ⟨h3,by simp;omega,by simp,by simp⟩ ?_
    rintro ⟨L4,a4,o4,s4,cs,es,_⟩ ⟨i1,i2,i3⟩
    dsimp only at i1 i2 i3 ⊢
    refine tot_cond.2 ⟨fun _=>tot_bind.2 ((take_t _ o4 i1.own).mono ?_),fun _=>by simp only [tot_ir];exact ⟨i1,i3⟩⟩
    rintro ⟨b,L5,a5,o5,_⟩ ⟨h5,h6⟩
    dsimp only at h5 h6 ⊢
    refine tot_cond.2 ⟨fun hb=>tot_bind.2 ((column_t o5 (h6 hb)).mono ?_),fun _=>by simp only [tot_ir];exact ⟨h5.le i1.2.2.1,i3⟩⟩
    rintro ⟨c1,c2,c3,c4,c5,c6,L6,a6,o6,_⟩ h7
    dsimp only at h7 ⊢
    obtain ⟨l1,l2⟩:=h7.lt
    have:=i1.2.2.1
    refine tot_ck.2 ⟨by simp;have:=h7.2.1;omega,?_⟩
    simp only [tot_il,List.length_append,List.length_singleton]
    exact ⟨⟨h7.le (by omega),by omega,i3.1,by omega⟩,l1⟩
  rintro ⟨L4,a4,o4,s4,cs,es,_⟩ ⟨h4,h5,hc⟩
  refine tot_bind.2 ((need_t _ o4 h4).mono ?_)
  rintro ⟨L5,a5,o5,_⟩ h6
  dsimp only at h5 h6 hc ⊢
  have g5:=h6.2.2.2.1
  have g6:=h6.1
  refine tot_j (fun x=>Ps G n x.1 x.2.1 x.2.2.1∧1≤x.2.2.2.2.1.length) ?_ ?_
  · refine tot_l (fun x=>((x.1.length:Int)-x.2.1).toNat) (fun x=>Ps G n x.1 x.2.1 x.2.2.1∧(x.2.2.2.2.2.1.length:Int)+((x.1.length:Int)-x.2.1)≤20001∧1≤x.2.2.2.2.1.length) ⟨h6,by simp only;omega,hc⟩ ?_
    rintro ⟨L6,a6,o6,s6,cs,es,_⟩ ⟨i1,i2,i3⟩
    dsimp only at i1 i2 i3 ⊢
    refine tot_cond.2 ⟨fun _=>tot_bind.2 ((take_t _ o6 i1.own).mono ?_),fun _=>by simp only [tot_ir];exact ⟨i1,i3⟩⟩
    rintro ⟨b,L7,a7,o7,_⟩ ⟨h7,h8⟩
    dsimp only at h7 h8 ⊢
    refine tot_cond.2 ⟨fun hb=>tot_bind.2 ((exprP_t o7 (h8 hb)).mono ?_),fun _=>by simp only [tot_ir];exact ⟨h7.le i1.2.2.1,i3⟩⟩
    rintro ⟨L8,a8,o8,e,_⟩ ⟨h9,_⟩
    dsimp only at h9 ⊢
    obtain ⟨l1,l2⟩:=h9.lt
    have:=i1.2.2.1
    refine tot_ck.2 ⟨by simp;have:=h9.2.1;omega,?_⟩
    simp only [tot_il,List.length_append,List.length_singleton]
    exact ⟨⟨h9.le (by omega),by omega,i3⟩,l1⟩
  rintro ⟨L6,a6,o6,s6,cs,es,_⟩ ⟨h7,h8⟩
  dsimp only at h7 h8 ⊢
  exact tot_cond.2 ⟨fun _=>by simp only [tot_some];exact ⟨h7.f,h8⟩,fun _=>tot_cond.2 ⟨fun _=>by simp only [tot_some];exact ⟨h7.f,h8⟩,fun _=>by simp only [tot_some];exact ⟨h7,h8⟩⟩⟩
end Go.Proofs.Ytnhiifengimfgaa
end
section
set_option maxRecDepth 100000
namespace Go.Proofs.Ytnhiifengimfgaa
open Go Lv Go.Proofs Go.RowKit Go.Shelf
variable [Lk]
variable {G:Prop} {n:Int} {L:List tTokT} {a:Int}
/--a view's numbers -/
def Vg (o1 o2:Int) (pk:List Int) (ag:List tAggT):Prop:=(0≤o1∧o1≤99)∧(0≤o2∧o2≤99)∧(∀m∈pk,0≤m∧m≤99)∧∀x∈ag,0≤x.2
theorem Vg.pk {o1 o2:Int} {pk:List Int} {ag:List tAggT} (h:Vg o1 o2 pk ag) {m:Int} (hm:0≤m∧m≤99):Vg o1 o2 (pk++ [m]) ag:=
  ⟨h.1,h.2.1,fun x hx=>(List.mem_append.1 hx).elim (h.2.2.1 x) fun e=>by cases List.mem_singleton.1 e;exact hm,h.2.2.2⟩
theorem Vg.ag {o1 o2:Int} {pk:List Int} {ag:List tAggT} (h:Vg o1 o2 pk ag) {m:tAggT} (hm:0≤m.2):Vg o1 o2 pk (ag++ [m]):=
  ⟨h.1,h.2.1,h.2.2.1,fun x hx=>(List.mem_append.1 hx).elim (h.2.2.2 x) fun e=>by cases List.mem_singleton.1 e;exact hm⟩
theorem viewP_t (ok:Bool) (h:Ps G n L a ok):Tot (R07_Parser_view.F (L,a,ok,())) fun y=>Ps (Vg y.2.2.2.1 y.2.2.2.2.1 y.2.2.2.2.2.2.2.2.2.2.1 y.2.2.2.2.2.2.2.2.2.2.2.1) n y.2.2.2.2.2.2.1 y.2.2.2.2.2.2.2.1 y.2.2.2.2.2.2.2.2.1:=by
  rw [R07_Parser_view.eq];unfold R07_Parser_view.B
  refine tot_bind.2 ((name_t ok h).mono ?_)
  rintro ⟨s1,L1,a1,o1,_⟩ h1
  refine tot_bind.2 ((need_t _ o1 h1).mono ?_)
  rintro ⟨L2,a2,o2,_⟩ h2
  refine tot_bind.2 ((name_t o2 h2).mono ?_)
  rintro ⟨s3,L3,a3,o3,_⟩ h3
  refine tot_j (fun x=>Ps (Vg x.2.2.2.2.2.2.1 x.2.2.2.2.2.2.2.1 x.2.2.2.2.2.2.2.2.2.2.1 x.2.2.2.2.2.2.2.2.2.2.2.1) n x.1 x.2.1 x.2.2.1∧x.2.2.2.2.2.2.2.2.2.2.1.length=0∧x.2.2.2.2.2.2.2.2.2.2.2.1.length=0) ?_ ?_
  · refine tot_bind.2 ((take_t _ o3 h3).mono ?_)
    rintro ⟨b,L4,a4,o4,_⟩ ⟨h4,_⟩
    dsimp only at h4 ⊢
    refine tot_cond.2 ⟨fun _=>tot_bind.2 ((name_t o4 h4).mono ?_),fun _=>by simp only [tot_il];exact ⟨h4.to fun _ _=>by simp [Vg],rfl,rfl⟩⟩
    rintro ⟨s5,L5,a5,o5,_⟩ h5
    refine tot_bind.2 ((need_t _ o5 h5).mono ?_)
    rintro ⟨L6,a6,o6,_⟩ h6
    refine tot_bind.2 ((col_t o6 h6).mono ?_)
    rintro ⟨s7,L7,a7,o7,_⟩ h7
    refine tot_bind.2 ((need_t _ o7 h7).mono ?_)
    rintro ⟨L8,a8,o8,_⟩ h8
    refine tot_bind.2 ((col_t o8 h8).mono ?_)
    rintro ⟨s9,L9,a9,o9,_⟩ h9
    simp only [tot_il]
    exact ⟨h9.to fun _ g=>⟨g.1.2,g.2,by simp,by simp⟩,rfl,rfl⟩
  rintro ⟨L4,a4,o4,t1,t2,t3,t4,t5,t6,t7,t8,t9,_⟩ ⟨h4,k1,k2⟩
  refine tot_j (fun x=>Ps (Vg x.2.2.2.2.2.2.1 x.2.2.2.2.2.2.2.1 x.2.2.2.2.2.2.2.2.2.2.1 x.2.2.2.2.2.2.2.2.2.2.2.1) n x.1 x.2.1 x.2.2.1∧x.2.2.2.2.2.2.2.2.2.2.1.length=0∧x.2.2.2.2.2.2.2.2.2.2.2.1.length=0) ?_ ?_
  · refine tot_bind.2 ((take_t _ o4 h4).mono ?_)
    rintro ⟨b,L5,a5,o5,_⟩ ⟨h5,_⟩
    dsimp only at h5 k1 k2 ⊢
    refine tot_cond.2 ⟨fun _=>tot_bind.2 ((exprP_t o5 h5).mono ?_),fun _=>by simp only [tot_il];exact ⟨h5,k1,k2⟩⟩
    rintro ⟨L6,a6,o6,e,_⟩ ⟨h6,_⟩
    simp only [tot_il]
    exact ⟨h6,k1,k2⟩
  rintro ⟨L5,a5,o5,t1,t2,t3,t4,t5,t6,t7,t8,t9,_⟩ ⟨h5,k1,k2⟩
  refine tot_bind.2 ((need_t _ o5 h5).mono ?_)
  rintro ⟨L6,a6,o6,_⟩ h6
  dsimp only at h6 k1 k2 ⊢
  have g1:=h6.2.2.2.1
  have g2:=h6.1
  refine tot_j (fun x=>Ps (Vg x.2.2.2.2.2.2.1 x.2.2.2.2.2.2.2.1 x.2.2.2.2.2.2.2.2.2.2.1 x.2.2.2.2.2.2.2.2.2.2.2.1) n x.1 x.2.1 x.2.2.1∧x.2.2.2.2.2.2.2.2.2.2.2.1.length=0) ?_ ?_
  · refine tot_j (fun x=>Ps (Vg t4 t5 t8 t9) n x.2.1 x.2.2.1 x.2.2.2.1) ?_ ?_
    · refine tot_cond.2 ⟨fun _=>tot_bind.2 ((is_t _ o6 h6).mono ?_),fun _=>by simp;exact h6⟩
      rintro ⟨b,L7,a7,o7,_⟩ ⟨h7,_⟩
      simp only [tot_il]
      exact h7
    rintro ⟨b,L7,a7,o7,_⟩ h7
    dsimp only at h7 ⊢
    refine tot_cond.2 ⟨fun _=>tot_bind.2 ((col_t o7 h7).mono ?_),fun _=>by simp only [tot_il];exact ⟨h7,k2⟩⟩
    rintro ⟨s8,L8,a8,o8,_⟩ h8
    dsimp only at h8 ⊢
    have g3:=h8.2.2.2.1
    have g4:=h8.1
    refine tot_ck.2 ⟨by simp;omega,?_⟩
    refine tot_l (fun x=>((x.1.length:Int)-x.2.1).toNat) (fun x=>Ps (Vg x.2.2.2.2.2.2.1 x.2.2.2.2.2.2.2.1 x.2.2.2.2.2.2.2.2.2.2.1 x.2.2.2.2.2.2.2.2.2.2.2.1) n x.1 x.2.1 x.2.2.1∧(x.2.2.2.2.2.2.2.2.2.2.1.length:Int)+((x.1.length:Int)-x.2.1)≤20001∧x.2.2.2.2.2.2.2.2.2.2.2.1.length=0) ⟨h8.to fun _ g=>g.1.pk g.2,by simp;omega,k2⟩ ?_
    rintro ⟨L9,a9,o9,t1,t2,t3,t4,t5,t6,t7,t8,t9,_⟩ ⟨i1,i2,i3⟩
    dsimp only at i1 i2 i3 ⊢
    refine tot_cond.2 ⟨fun _=>tot_bind.2 ((take_t _ o9 i1.own).mono ?_),fun _=>by simp only [tot_ir];exact ⟨i1,i3⟩⟩
    rintro ⟨b,La,aa,oa,_⟩ ⟨ha,hb⟩
    dsimp only at ha hb ⊢
    refine tot_cond.2 ⟨fun hc=>tot_bind.2 ((col_t oa (hb hc)).mono ?_),fun _=>by simp only [tot_ir];exact ⟨ha.le i1.2.2.1,i3⟩⟩
    rintro ⟨sb,Lb,ab,ob,_⟩ hd
    dsimp only at hd ⊢
    obtain ⟨l1,l2⟩:=hd.lt
    have:=i1.2.2.1
    refine tot_ck.2 ⟨by simp;have:=hd.2.1;omega,?_⟩
    simp only [tot_il,List.length_append,List.length_singleton]
    exact ⟨⟨(hd.le (by omega)).to fun _ g=>g.1.pk g.2,by omega,i3⟩,l1⟩
  rintro ⟨L7,a7,o7,t1,t2,t3,t4,t5,t6,t7,t8,t9,_⟩ ⟨h7,k3⟩
  refine tot_bind.2 ((take_t _ o7 h7).mono ?_)
  rintro ⟨b,L8,a8,o8,_⟩ ⟨h8,_⟩
  dsimp only at h8 k3 ⊢
  refine tot_j (fun x=>Ps (Vg x.2.2.2.2.2.2.1 x.2.2.2.2.2.2.2.1 x.2.2.2.2.2.2.2.2.2.2.1 x.2.2.2.2.2.2.2.2.2.2.2.1) n x.1 x.2.1 x.2.2.1) ?_ ?_
  · refine tot_j (fun _=>True) (by simp) fun x _=>?_
    refine tot_cond.2 ⟨fun _=>tot_bind.2 ((agg_t o8 h8).mono ?_),fun _=>by simp;exact h8⟩
    rintro ⟨s1,s2,L9,a9,o9,_⟩ h9
    dsimp only at h9 ⊢
    have g3:=h9.2.2.2.1
    have g4:=h9.1
    refine tot_ck.2 ⟨by simp;omega,?_⟩
    refine tot_l (fun x=>((x.1.length:Int)-x.2.1).toNat) (fun x=>Ps (Vg x.2.2.2.2.2.2.1 x.2.2.2.2.2.2.2.1 x.2.2.2.2.2.2.2.2.2.2.1 x.2.2.2.2.2.2.2.2.2.2.2.1) n x.1 x.2.1 x.2.2.1∧(x.2.2.2.2.2.2.2.2.2.2.2.1.length:Int)+((x.1.length:Int)-x.2.1)≤20001) ⟨h9.to fun _ g=>g.1.ag g.2,by simp;omega⟩ ?_
    rintro ⟨L9,a9,o9,t1,t2,t3,t4,t5,t6,t7,t8,t9,_⟩ ⟨i1,i2⟩
    dsimp only at i1 i2 ⊢
    refine tot_cond.2 ⟨fun _=>tot_bind.2 ((take_t _ o9 i1.own).mono ?_),fun _=>by simp only [tot_ir];exact i1⟩
    rintro ⟨b,La,aa,oa,_⟩ ⟨ha,hb⟩
    dsimp only at ha hb ⊢
    refine tot_cond.2 ⟨fun hc=>tot_bind.2 ((agg_t oa (hb hc)).mono ?_),fun _=>by simp only [tot_ir];exact ha.le i1.2.2.1⟩
    rintro ⟨sa,sb,Lb,ab,ob,_⟩ hd
    dsimp only at hd ⊢
    obtain ⟨l1,l2⟩:=hd.lt
    have:=i1.2.2.1
    refine tot_ck.2 ⟨by simp;have:=hd.2.1;omega,?_⟩
    simp only [tot_il,List.length_append,List.length_singleton]
    exact ⟨⟨(hd.le (by omega)).to fun _ g=>g.1.ag g.2,by omega⟩,l1⟩
  rintro ⟨L9,a9,o9,t1,t2,t3,t4,t5,t6,t7,t8,t9,_⟩ h9
  dsimp only at h9 ⊢
  exact tot_cond.2 ⟨fun _=>by simp only [tot_some];exact h9.f,fun _=>tot_cond.2 ⟨fun _=>by simp only [tot_some];exact h9.f,fun _=>by simp only [tot_some];exact h9⟩⟩
theorem parse_t (s : ByteArray) : Tot (R07_Parse.F (s,())) fun y => y.2.2.2.2.2.2.2.2.1 = 0 → (y.1 = 0 → 1 ≤ y.2.2.2.2.2.2.2.2.2.1.length) ∧ (y.1 ≠ 0 → Vg y.2.2.2.2.2.1 y.2.2.2.2.2.2.1 y.2.2.2.2.2.2.2.2.2.2.2.2.1 y.2.2.2.2.2.2.2.2.2.2.2.2.2.1) := by
  rw [R07_Parse.eq];unfold R07_Parse.B
  refine tot_bind.2 ((lex_t s).mono ?_)
  rintro ⟨e,l,_⟩ ⟨h1,h2⟩
  dsimp only at h1 h2 ⊢
  refine tot_cond.2 ⟨fun he=>by simp at he ⊢;exact fun h=>absurd h he,fun _=>?_⟩
  refine tot_bind.2 ((one_t (G:=True) (n:=l.length) _ (by simp) true ⟨by omega,by omega,by omega,h1,h2,fun _=>trivial⟩).mono ?_)
  rintro ⟨k,L1,a1,o1,_⟩ ⟨h3,_⟩
  dsimp only at h3 ⊢
  refine tot_j (fun x=>x.2.2.1=true→(x.2.2.2.1=0→1≤x.2.2.2.2.2.2.2.2.2.2.2.1.length)∧(x.2.2.2.1≠0→Vg x.2.2.2.2.2.2.2.2.1 x.2.2.2.2.2.2.2.2.2.1 x.2.2.2.2.2.2.2.2.2.2.2.2.2.2.1 x.2.2.2.2.2.2.2.2.2.2.2.2.2.2.2.1)) ?_ ?_
  · refine tot_j (fun x=>x.1=(o1&&k==0)) (by cases o1<;>simp) ?_
    rintro ⟨x,_⟩ hx
    dsimp only at hx ⊢
    refine tot_cond.2 ⟨fun hb=>tot_bind.2 ((tableP_t o1 h3).mono ?_),fun hb=>tot_cond.2 ⟨fun hc=>tot_bind.2 ((viewP_t o1 h3).mono ?_),fun hc=>by simp [hc]⟩⟩
    · rintro ⟨z1,L2,a2,o2,z3,z4,_⟩ ⟨h4,h5⟩
      rw [hb] at hx
      have hk:k=0:=by
        cases o1 with
        |false=>cases hx
        |true=>exact eq_of_beq (by simpa using hx.symm)
      simp only [tot_il]
      exact fun _=>⟨fun _=>h5,fun h=>absurd hk h⟩
    · rintro ⟨z1,z2,z3,z4,z5,z6,L2,a2,o2,z7,z8,z9,_⟩ h4
      rw [hb,hc] at hx
      have hk:k≠0:=by simpa using hx
      simp only [tot_il]
      exact fun ho=>⟨fun h=>absurd h hk,fun _=>h4.2.2.2.2.2 ho⟩
  · rintro ⟨x1,x2,ok,x4,x5,x6,x7,x8,x9,x10,x11,x12,x13,x14,x15,x16,_⟩ hx
    dsimp only at hx ⊢
    refine tot_cond.2 ⟨fun _=>by simp,fun ho=>tot_cond.2 ⟨fun _=>by simp,fun _=>by simp only [tot_some];exact fun _=>hx (by simpa using ho)⟩⟩
theorem same3_t (p q:List tNodeT) (h:p.length<1000000000000000):Tot (R03_Same.F (p,q,())) fun _=>True:=by
  rw [R03_Same.eq];unfold R03_Same.B
  refine tot_cond.2 ⟨fun _=>by simp,fun h1=>tot_r p.length fun i h0 h2=>?_⟩
  simp at h1
  simp [wr_is];omega
end Go.Proofs.Ytnhiifengimfgaa
end
section
set_option maxRecDepth 100000
namespace Go.Proofs.Ytnhiifengimfgaa
open Go Lv Go.Proofs Go.RowKit Go.Shelf
variable [Lk]
theorem sameT_t (n:ByteArray) (cs:List tColumnT) (es:List (List tNodeT)) (m:ByteArray) (ds:List tColumnT) (fs:List (List tNodeT)) (h1:cs.length<1000000000000000) (h2:es.length<1000000000000000) (h3:∀e∈es,e.length<1000000000000000):
    Tot (R07_SameTable.F (n,cs,es,m,ds,fs,())) fun y=>y.1=true→cs.length=ds.length:=by
  rw [R07_SameTable.eq];unfold R07_SameTable.B
  refine tot_j (fun _=>cs.length=ds.length∧es.length=fs.length) (by simp;omega) ?_
  rintro _ ⟨g1,g2⟩
  refine tot_j (fun _=>True) ?_ fun _ _=>?_
  · refine tot_r cs.length fun i h0 h1=>?_
    simp [wr_is];omega
  · refine tot_r es.length fun i h0 h1=>?_
    refine tot_cond.2 ⟨fun h5=>?_,fun _=>by simp [g1]⟩
    simp at h5
    refine tot_ck.2 ⟨by simp;omega,tot_ck.2 ⟨by simp;omega,tot_bind.2 ((same3_t _ _ (h3 _ (gt_mem h0 h5))).mono fun y _=>?_)⟩⟩
    simp [wr_is];omega
theorem ints_t (p q:List Int) (h:p.length<1000000000000000):Tot (R07_Ints.F (p,q,())) fun y=>y.1=true→p=q:=by
  rw [R07_Ints.eq];unfold R07_Ints.B
  refine tot_cond.2 ⟨fun _=>by simp,fun h1=>tot_ix p.length (fun i=>p[i]?=q[i]?) (fun i hi=>?_) fun hq=>?_⟩
  · simp at h1
    have hi':i<q.length:=by omega
    simp [gt_at hi,gt_at hi',wr_is,hi,hi']
    omega
  · simp at h1
    simp
    refine List.ext_getElem? fun i=>?_
    by_cases hi:i<p.length
    · exact hq i hi
    · rw [List.getElem?_eq_none (by omega),List.getElem?_eq_none (by omega)]
theorem eqA {x y:tAggT} (h:Ty.eq tAgg x y=true):x=y:=by
  obtain ⟨a,b⟩:=x
  obtain ⟨c,d⟩:=y
  simp [Ty.eq] at h
  simp [h]
theorem sameV_t (a b c:ByteArray) (d e:Int) (f:List tNodeT) (g:List Int) (h:Bool) (i:List tAggT) (a' b' c':ByteArray) (d' e':Int) (f':List tNodeT) (g':List Int) (h':Bool) (i':List tAggT)
    (h1:f.length<1000000000000000) (h2:g.length<1000000000000000) (h3:i.length<1000000000000000):Tot (R07_SameView.F (a,b,c,d,e,f,g,h,i,a',b',c',d',e',f',g',h',i',())) fun y=>y.1=true→(d=d'∧e=e')∧g=g'∧i=i':=by
  rw [R07_SameView.eq];unfold R07_SameView.B
  refine tot_j (fun x=>x.1=false→i.length=i'.length∧(d=d'∧e=e')∧g=g') ?_ ?_
  · refine tot_cond.2 ⟨fun _=>by simp,fun _=>tot_cond.2 ⟨fun _=>by simp,fun _=>tot_cond.2 ⟨fun _=>by simp,fun _=>tot_cond.2 ⟨fun _=>by simp,fun k1=>?_⟩⟩⟩⟩
    refine tot_bind.2 ((same3_t _ _ h1).mono fun y _=>tot_cond.2 ⟨fun _=>by simp,fun _=>?_⟩)
    refine tot_bind.2 ((ints_t _ _ h2).mono fun y hy=>tot_cond.2 ⟨fun _=>by simp,fun k2=>?_⟩)
    have k1:=eqA (x:=(d,e)) (y:=(d',e')) (by simpa using k1)
    have k2:=hy (by simpa using k2)
    cases k1
    exact tot_cond.2 ⟨fun _=>by simp,fun _=>by simp [k2];omega⟩
  rintro ⟨b,_⟩ h4
  refine tot_cond.2 ⟨fun _=>by simp,fun hb=>tot_ix i.length (fun j=>i[j]?=i'[j]?) (fun j hj=>?_) fun hq=>?_⟩
  · have h4:=(h4 hb).1
    have hj':j<i'.length:=by omega
    simp only [gt_at hj,gt_at hj']
    refine tot_cond.2 ⟨fun _=>tot_ck.2 ⟨by simp;omega,tot_ck.2 ⟨by simp;omega,tot_cond.2 ⟨fun _=>by simp,fun k=>?_⟩⟩⟩,fun k=>by simp [hj] at k⟩
    have k:=eqA (by simpa using k)
    simp [wr_is,hj,hj',k]
    omega
  · obtain ⟨h4,h5,h6⟩:=h4 hb
    simp
    refine ⟨h5,h6,List.ext_getElem? fun j=>?_⟩
    by_cases hj:j<i.length
    · exact hq j hj
    · rw [List.getElem?_eq_none (by omega),List.getElem?_eq_none (by omega)]
/--what a definition that comes in is:numbers,lists not beyond reach -/
structure Dn (d:tDefT):Prop where
  l1:d.2.1.2.1.length<1000000000000000
  l2:d.2.1.2.2.length<1000000000000000
  l3:∀e∈d.2.1.2.2,e.length<1000000000000000
  l4:d.2.2.2.2.2.2.1.length<1000000000000000
  l5:d.2.2.2.2.2.2.2.1.length<1000000000000000
  l6:d.2.2.2.2.2.2.2.2.2.length<1000000000000000
  e1:∀e∈d.2.1.2.2,∀n∈e,I64 n.2.1∧I64 n.2.2.2.1
  e2:∀n∈d.2.2.2.2.2.2.1,I64 n.2.1∧I64 n.2.2.2.1
  o1:I64 d.2.2.2.2.2.1.1
  o2:I64 d.2.2.2.2.2.1.2
  p:∀n∈d.2.2.2.2.2.2.2.1,I64 n
  g:∀x∈d.2.2.2.2.2.2.2.2.2,I64 x.2
/--a definition of few parts and short texts -/
structure Sd (d:tDefT):Prop extends Dn d where
  s1:d.2.1.2.1.length≤400
  s2:d.2.1.2.2.length≤400
  s3:∀e∈d.2.1.2.2,Ex e
  s4:Ex d.2.2.2.2.2.2.1
  s5:d.2.2.2.2.2.2.2.1.length≤400
  s6:d.2.2.2.2.2.2.2.2.2.length≤400
  c:∀c∈d.2.1.2.1,c.1.size≤100∧c.2.2.2.2.1.size≤100
  n1:d.2.1.1.size≤100
  n2:d.2.2.1.size≤100
  n3:d.2.2.2.1.size≤100
  n4:d.2.2.2.2.1.size≤100
theorem print_t (d:tDefT) (h:Sd d):Tot (R07_Print.F (d.1,d.2.1.1,d.2.1.2.1,d.2.1.2.2,d.2.2.1,d.2.2.2.1,d.2.2.2.2.1,d.2.2.2.2.2.1.1,d.2.2.2.2.2.1.2,d.2.2.2.2.2.2.1,d.2.2.2.2.2.2.2.1,d.2.2.2.2.2.2.2.2.1,d.2.2.2.2.2.2.2.2.2,())) fun y=>sq y.1 ⟨#[]⟩=false→(d.1=0→1≤d.2.1.2.1.length)∧(d.1≠0→Vg d.2.2.2.2.2.1.1 d.2.2.2.2.2.1.2 d.2.2.2.2.2.2.2.1 d.2.2.2.2.2.2.2.2.2):=by
  rw [R07_Print.eq];unfold R07_Print.B
  refine tot_bind.2 ((viewT_t _ _ _ _ _ _ _ _ _ h.n2 h.n3 h.n4 h.o1 h.o2 h.s4 h.s5 h.p h.s6 h.g).mono fun y _=>?_)
  refine tot_j (fun _=>True) (tot_cond.2 ⟨fun _=>tot_bind.2 ((tableT_t _ _ _ h.n1 h.s1 h.c h.s2 h.s3).mono fun _ _=>by simp),fun _=>by simp⟩) ?_
  rintro ⟨s,_⟩ _
  have e0:∀(P:Prop),sq ⟨#[]⟩ ⟨#[]⟩=false→P:=fun P h=>by simp [sq] at h
  refine tot_cond.2 ⟨fun _=>tot_some.2 (e0 _),fun _=>tot_bind.2 ((parse_t s).mono fun q hq=>tot_cond.2 ⟨fun _=>tot_some.2 (e0 _),fun he=>tot_bind.2 (Tot.mono (P:=fun y=>y.1=true→(d.1=q.1∧d.2.1.2.1.length=q.2.2.2.2.2.2.2.2.2.1.length)∧(d.2.2.2.2.2.1.1=q.2.2.2.2.2.1∧d.2.2.2.2.2.1.2=q.2.2.2.2.2.2.1)∧d.2.2.2.2.2.2.2.1=q.2.2.2.2.2.2.2.2.2.2.2.2.1∧d.2.2.2.2.2.2.2.2.2=q.2.2.2.2.2.2.2.2.2.2.2.2.2.1) ?_ fun r hr=>tot_cond.2 ⟨fun _=>tot_some.2 (e0 _),fun hb=>tot_some.2 fun _=>?_⟩)⟩)⟩
  · rw [R07_Same.eq];unfold R07_Same.B
    refine tot_cond.2 ⟨fun hk=>tot_bind.2 ((sameT_t _ _ _ _ _ _ h.l1 h.l2 h.l3).mono fun y hy=>tot_cond.2 ⟨fun ht=>tot_bind.2 ((sameV_t _ _ _ _ _ _ _ _ _ _ _ _ _ _ _ _ _ _ h.l4 h.l5 h.l6).mono fun z hz=>tot_some.2 fun e=>⟨⟨eq_of_beq hk,hy ht⟩,hz e⟩),fun _=>by simp⟩),fun _=>by simp⟩
  · obtain ⟨⟨g1,g2⟩,⟨g3,g4⟩,g5,g6⟩:=hr (by simpa using hb)
    obtain ⟨q1,q2⟩:=hq (by simpa using he)
    rw [g1,g2,g3,g4,g5,g6]
    exact ⟨q1,q2⟩
theorem big7_t (d:tDefT) (h:Dn d):Tot (R07_Big.F (d.1,d.2.1.1,d.2.1.2.1,d.2.1.2.2,d.2.2.1,d.2.2.2.1,d.2.2.2.2.1,d.2.2.2.2.2.1.1,d.2.2.2.2.2.1.2,d.2.2.2.2.2.2.1,d.2.2.2.2.2.2.2.1,d.2.2.2.2.2.2.2.2.1,d.2.2.2.2.2.2.2.2.2,())) fun y=>y.1=false→Sd d:=by
  rw [R07_Big.eq];unfold R07_Big.B
  obtain ⟨k,⟨tn,cs,es⟩,vn,vf,vw,⟨o1,o2⟩,wh,pk,gr,ag⟩:=d
  have l1:cs.length<1000000000000000:=h.l1
  have l2:es.length<1000000000000000:=h.l2
  have l3:=h.l3
  have l4:wh.length<1000000000000000:=h.l4
  have l5:pk.length<1000000000000000:=h.l5
  have l6:ag.length<1000000000000000:=h.l6
  dsimp only at l3 ⊢
  have w1:wr ((cs.length:Int)+es.length)=cs.length+es.length:=wr_id (by omega) (by omega)
  have w2:wr ((cs.length:Int)+es.length+pk.length)=cs.length+es.length+pk.length:=wr_id (by omega) (by omega)
  have w3:wr ((cs.length:Int)+es.length+pk.length+ag.length)=cs.length+es.length+pk.length+ag.length:=wr_id (by omega) (by omega)
  have w4:wr ((cs.length:Int)+es.length+pk.length+ag.length+wh.length)=cs.length+es.length+pk.length+ag.length+wh.length:=wr_id (by omega) (by omega)
  simp only [w1,w2,w3,w4]
  refine tot_j (fun x=>(cs.length:Int)+es.length+pk.length+ag.length+wh.length≤x.1∧∀e∈es,e.length≤120∧∀n∈e,n.2.2.2.2.size≤1000) ?_ ?_
  · refine tot_l (fun x=>es.length-x.2.1.toNat) (fun x=>∃i:Nat,x.2.1=(i:Int)∧i≤es.length∧(cs.length:Int)+es.length+pk.length+ag.length+wh.length≤x.1∧x.1≤(5000000000000000+120*(i:Int):Int)∧∀(j:Nat) (hj:j<es.length),j<i→es[j].length≤120∧∀n∈es[j],n.2.2.2.2.size≤1000) ⟨0,rfl,by omega,by simp,by simp;omega,fun j _ h=>by omega⟩ ?_
    rintro ⟨s,_,_⟩ ⟨i,rfl,i1,i2,i3,i4⟩
    dsimp only at i1 i2 i3 ⊢
    refine tot_cond.2 ⟨fun h5=>?_,fun h5=>?_⟩
    · simp at h5
      simp only [gt_at h5]
      have hl:=l3 _ (List.getElem_mem h5)
      have w5:wr (s+(es[i].length:Int))=s+es[i].length:=wr_id (by omega) (by omega)
      have w6:wr ((i:Int)+1)=((i+1:Nat):Int):=by rw [wr_id (by omega) (by omega)];omega
      simp only [w5,w6]
      refine tot_ck.2 ⟨by simp;omega,tot_ck.2 ⟨by simp;omega,tot_bind.2 ((big3_t _ hl).mono fun y hy=>?_)⟩⟩
      refine tot_cond.2 ⟨fun _=>by simp,fun hb=>?_⟩
      have hy:=hy hb
      simp only [tot_il]
      refine ⟨⟨i+1,rfl,by omega,by omega,by omega,fun j hj hji=>?_⟩,by simp;omega⟩
      by_cases e:j=i
      · subst e;exact hy
      · exact i4 j hj (by omega)
    · simp at h5
      simp only [tot_ir]
      refine ⟨i2,fun e he=>?_⟩
      obtain ⟨j,hj,rfl⟩:=List.getElem_of_mem he
      exact i4 j hj (by omega)
  rintro ⟨s,_⟩ ⟨g1,g2⟩
  dsimp only at g1 g2 ⊢
  refine tot_j (fun _=>∀c∈cs,c.1.size≤100∧c.2.2.2.2.1.size≤100) ?_ ?_
  · refine tot_all (l:=cs) (fun c:tColumnT=>c.1.size≤100∧c.2.2.2.2.1.size≤100) (fun i hi=>?_) (by simp)
    simp [gt_at hi,wr_is,hi];omega
  rintro _ g3
  refine tot_cond.2 ⟨fun _=>by simp,fun g4=>tot_bind.2 ((big3_t _ l4).mono fun y hy=>tot_cond.2 ⟨fun _=>by simp,fun g5=>?_⟩)⟩
  have hy:=hy g5
  simp at g4
  refine tot_cond.2 ⟨fun _=>by simp,fun g6=>tot_cond.2 ⟨fun _=>by simp,fun g7=>tot_cond.2 ⟨fun _=>by simp,fun g8=>?_⟩⟩⟩
  simp at g6 g7 g8
  simp only [tot_some]
  intro g9
  simp at g9
  exact {h with s1:=by show cs.length≤400;omega,s2:=by show es.length≤400;omega,s3:=fun e he=>⟨(g2 e he).1,fun n hn=>⟨(h.e1 e he n hn).1,(h.e1 e he n hn).2,(g2 e he).2 n hn⟩⟩,s4:=⟨hy.1,fun n hn=>⟨(h.e2 n hn).1,(h.e2 n hn).2,hy.2 n hn⟩⟩,s5:=by show pk.length≤400;omega,s6:=by show ag.length≤400;omega,c:=g3,n1:=by show tn.size≤100;omega,n2:=by show vn.size≤100;omega,n3:=by show vf.size≤100;omega,n4:=by show vw.size≤100;omega}
end Go.Proofs.Ytnhiifengimfgaa
end
section
set_option maxRecDepth 100000
namespace Go.Proofs.Ytnhiifengimfgaa
open Go Lv Go.Proofs Go.RowKit Go.Shelf
variable [Lk]
abbrev dA (d:tDefT):Int×ByteArray×(List tColumnT)×(List (List tNodeT))×ByteArray×ByteArray×ByteArray×Int×Int×(List tNodeT)×(List Int)×Bool×(List tAggT)×Unit:=(d.1,d.2.1.1,d.2.1.2.1,d.2.1.2.2,d.2.2.1,d.2.2.2.1,d.2.2.2.2.1,d.2.2.2.2.2.1.1,d.2.2.2.2.2.1.2,d.2.2.2.2.2.2.1,d.2.2.2.2.2.2.2.1,d.2.2.2.2.2.2.2.2.1,d.2.2.2.2.2.2.2.2.2,())
/--a definition's name;how many columns it has -/
def nmD (d:tDefT):ByteArray:=bif d.1==0 then d.2.1.1 else d.2.2.1
def wD (d:tDefT):Nat:=bif d.1==0 then d.2.1.2.1.length else d.2.2.2.2.2.2.2.1.length+d.2.2.2.2.2.2.2.2.2.length
@[simp] theorem nameD_s (d : tDefT) : R09_Name.F (d.1,d.2.1.1,d.2.1.2.1,d.2.1.2.2,d.2.2.1,d.2.2.2.1,d.2.2.2.2.1,d.2.2.2.2.2.1.1,d.2.2.2.2.2.1.2,d.2.2.2.2.2.2.1,d.2.2.2.2.2.2.2.1,d.2.2.2.2.2.2.2.2.1,d.2.2.2.2.2.2.2.2.2,()) = some (nmD d,()) := by
  rw [R09_Name.eq];unfold R09_Name.B nmD
  dsimp only
  cases (d.1==0)<;>rfl
/--where a name is -/
def fnd (c:List tDefT) (s:ByteArray):Option Nat:=c.findIdx? fun d=>sq (nmD d) s
def fndI (c:List tDefT) (s:ByteArray):Int:=match fnd c s with
  |some i=>(i:Int)
  |none=>-1
theorem fnd_lt {c:List tDefT} {s:ByteArray} {i:Nat} (h:fnd c s=some i):i<c.length:=by
  obtain ⟨h,_⟩:=List.findIdx?_eq_some_iff_getElem.1 h
  exact h
theorem find_s (c : List tDefT) (s : ByteArray) (h : c.length < 1000000000000000) : R09_Find.F (c,s,()) = some (fndI c s,()) := by
  have:Tot (R09_Find.F (c,s,())) fun y=>y.1=fndI c s:=by
    rw [R09_Find.eq];unfold R09_Find.B
    refine tot_l (fun x=>c.length-x.1.toNat) (fun x=>∃i:Nat,x.1=(i:Int)∧i≤c.length∧∀(j:Nat) (hj:j<c.length),j<i→sq (nmD c[j]) s=false) ⟨0,rfl,by omega,fun j _ h=>by omega⟩ ?_
    rintro ⟨_,u⟩ ⟨i,rfl,h1,h2⟩
    refine tot_cond.2 ⟨fun h5=>?_,fun h5=>?_⟩
    · simp at h5
      have hw:wr ((i:Int)+1)=((i+1:Nat):Int):=by rw [wr_id (by omega) (by omega)];omega
      simp only [gt_at h5,nameD_s,Option.bind_some,hw]
      refine tot_ck.2 ⟨by simp;omega,tot_cond.2 ⟨fun h6=>?_,fun h6=>?_⟩⟩
      · simp only [tot_ir]
        have:fnd c s=some i:=List.findIdx?_eq_some_iff_getElem.2 ⟨h5,h6,fun j hj=>by rw [h2 j (by omega) hj];simp⟩
        unfold fndI
        rw [this]
      · simp only [tot_il]
        refine ⟨⟨i+1,rfl,by omega,fun j hj hji=>?_⟩,by simp;omega⟩
        by_cases e:j=i
        · subst e;exact h6
        · exact h2 j hj (by omega)
    · simp at h5
      simp only [tot_ir]
      have:fnd c s=none:=List.findIdx?_eq_none_iff.2 fun x hx=>by
        obtain ⟨j,hj,rfl⟩:=List.getElem_of_mem hx
        exact h2 j hj (by omega)
      unfold fndI
      rw [this]
  obtain ⟨⟨y,_⟩,h1,h2⟩:=this
  rw [h1]
  simp at h2
  rw [h2]
theorem fndI_some {c:List tDefT} {s:ByteArray} {i:Nat} (h:fnd c s=some i):fndI c s=i:=by unfold fndI;rw [h]
theorem fndI_neg {c:List tDefT} {s:ByteArray} (h:fndI c s<0):fnd c s=none:=by
  unfold fndI at h
  split at h
  · omega
  · assumption
theorem fndI_pos {c:List tDefT} {s:ByteArray} (h:¬fndI c s<0):∃i,fnd c s=some i:=by
  unfold fndI at h
  split at h
  · exact ⟨_,by assumption⟩
  · omega
def wN (c:List tDefT) (s:ByteArray):Nat:=match fnd c s with
  |some i=>wD (c.getD i tDef.z)
  |none=>0
/--how many columns there are of what a view is of -/
def wJ (c:List tDefT) (f w:ByteArray):Nat:=wN c f+(bif sq w ⟨#[]⟩ then 0 else wN c w)
/--a definition that may be behind others -/
structure Gd (p:List tDefT) (d:tDefT):Prop where
  nm:fnd p (nmD d)=none
  t:d.1=0→1≤d.2.1.2.1.length
  f:d.1≠0→∃i,fnd p d.2.2.2.1=some i
  w:d.1≠0→sq d.2.2.2.2.1 ⟨#[]⟩=false→∃i,fnd p d.2.2.2.2.1=some i
  pk:d.1≠0→∀n∈d.2.2.2.2.2.2.2.1,0≤n∧n<(wJ p d.2.2.2.1 d.2.2.2.2.1:Int)
  o:d.1≠0→(0≤d.2.2.2.2.2.1.1∧d.2.2.2.2.2.1.1≤99)∧0≤d.2.2.2.2.2.1.2∧d.2.2.2.2.2.1.2≤99
  a0:d.1≠0→∀a∈d.2.2.2.2.2.2.2.2.2,0≤a.2
  ag:d.1≠0→∀a∈d.2.2.2.2.2.2.2.2.2,a.1≥2→0≤a.2∧a.2<(wJ p d.2.2.2.1 d.2.2.2.2.1:Int)
structure Gc (c:List tDefT):Prop where
  len:c.length≤22
  s:∀d∈c,Sd d
  g:∀(j:Nat) (hj:j<c.length),Gd (c.take j) c[j]
theorem fnd_take {c:List tDefT} {s:ByteArray} {i j:Nat} (h:fnd (c.take j) s=some i):fnd c s=some i∧i<j:=by
  obtain ⟨h1,h2,h3⟩:=List.findIdx?_eq_some_iff_getElem.1 h
  simp only [List.length_take] at h1
  refine ⟨List.findIdx?_eq_some_iff_getElem.2 ⟨by omega,by simpa using h2,fun k hk=>by simpa using h3 k hk⟩,by omega⟩
theorem wN_take {c:List tDefT} {s:ByteArray} {i j:Nat} (h:fnd (c.take j) s=some i):wN (c.take j) s=wN c s:=by
  obtain ⟨h1,h2⟩:=fnd_take h
  have h3:=fnd_lt h1
  unfold wN
  rw [h,h1]
  simp only [List.getD_eq_getElem?_getD,List.getElem?_take,if_pos h2]
theorem tk_t (n:ByteArray) (cs:List tColumnT) (es:List (List tNodeT)) (h:cs.length≤400):Tot (R09_tableKinds.F (n,cs,es,())) fun y=>y.1.length=cs.length∧y.2.1.length=cs.length:=by
  rw [R09_tableKinds.eq];unfold R09_tableKinds.B
  refine tot_l (fun x=>cs.length-x.1.toNat) (fun x=>0≤x.1∧x.1≤(cs.length:Int)∧(x.2.1.length:Int)=x.1∧(x.2.2.1.length:Int)=x.1) (by simp) ?_
  rintro ⟨i,l,m,_⟩ ⟨i1,i2,i3,i4⟩
  dsimp only at i1 i2 i3 i4 ⊢
  simp [wr_is]
  omega
theorem joined_t (c:List tDefT) (hc:c.length≤22) (f:TS R09_Of.d.si→Option (TS R09_Of.d.so)) (vn vf vw:ByteArray) (o1 o2:Int) (wh:List tNodeT) (pk:List Int) (gr:Bool) (ag:List tAggT)
    (hw:∀d∈c,wD d≤800) (hf:∀s i,fnd c s=some i→(s=vf∨s=vw∧sq vw ⟨#[]⟩=false)→∀hi:i<c.length,Tot (f (c,dA c[i])) fun y=>y.1.length=wD c[i]) (h1:∃i,fnd c vf=some i) (h2:sq vw ⟨#[]⟩=false→∃i,fnd c vw=some i):
    Tot (R09_Joined.b f (c,vn,vf,vw,o1,o2,wh,pk,gr,ag,())) fun y=>y.1.length=wJ c vf vw:=by
  unfold R09_Joined.b
  obtain ⟨i,hi⟩:=h1
  have li:=fnd_lt hi
  have hn:∀s j,fnd c s=some j→∀hj:j<c.length,wN c s=wD c[j]:=fun s j h hj=>by
    unfold wN
    rw [h]
    simp only [List.getD_eq_getElem?_getD,List.getElem?_eq_getElem hj,Option.getD_some]
  simp only [find_s c _ (by omega),Option.bind_some,fndI_some hi,gt_at li]
  refine tot_ck.2 ⟨by simp;omega,tot_bind.2 ((hf _ _ hi (.inl rfl) li).mono fun y hy=>?_)⟩
  have g1:=hw _ (List.getElem_mem li)
  refine tot_cond.2 ⟨fun e=>?_,fun e=>?_⟩
  · simp only [tot_some]
    unfold wJ
    rw [e,hy,hn _ _ hi li,cond_true,Nat.add_zero]
  · obtain ⟨j,hj⟩:=h2 e
    have lj:=fnd_lt hj
    have g2:=hw _ (List.getElem_mem lj)
    simp only [fndI_some hj,gt_at lj]
    refine tot_ck.2 ⟨by simp;omega,tot_bind.2 ((hf _ _ hj (.inr ⟨rfl,e⟩) lj).mono fun z hz=>?_)⟩
    refine tot_ck.2 ⟨by simp;omega,tot_ck.2 ⟨by simp;omega,?_⟩⟩
    simp only [tot_some]
    unfold wJ
    rw [e,hn _ _ hi li,hn _ _ hj lj,cond_false]
    simp [hy,hz]
theorem wD_le {d:tDefT} (h:Sd d):wD d≤800:=by
  unfold wD
  cases (d.1==0) with
  |true=>have:=h.s1;simp;omega
  |false=>have:=h.s5;have:=h.s6;simp;omega
theorem ofv_t (c:List tDefT) (d:tDefT) (hk:d.1≠0) (hd:Sd d) (f:TS R09_Joined.d.si→Option (TS R09_Joined.d.so)) (hf:Tot (f (c,d.2.2.1,d.2.2.2.1,d.2.2.2.2.1,d.2.2.2.2.2.1.1,d.2.2.2.2.2.1.2,d.2.2.2.2.2.2.1,d.2.2.2.2.2.2.2.1,d.2.2.2.2.2.2.2.2.1,d.2.2.2.2.2.2.2.2.2,())) fun y=>y.1.length=wJ c d.2.2.2.1 d.2.2.2.2.1)
    (hp:∀n∈d.2.2.2.2.2.2.2.1,0≤n∧n<(wJ c d.2.2.2.1 d.2.2.2.2.1:Int)) (ha:∀a∈d.2.2.2.2.2.2.2.2.2,a.1≥2→0≤a.2∧a.2<(wJ c d.2.2.2.1 d.2.2.2.2.1:Int)):Tot (R09_Of.b f (c,dA d)) fun y=>y.1.length=wD d∧y.2.1.length=wD d:=by
  unfold R09_Of.b
  have e:(d.1==0)=false:=by simpa using hk
  have g1:=hd.s5
  have g2:=hd.s6
  have hw:wD d=d.2.2.2.2.2.2.2.1.length+d.2.2.2.2.2.2.2.2.2.length:=by unfold wD;rw [e,cond_false]
  dsimp only [dA]
  rw [e,cond_false]
  generalize d.2.2.2.2.2.2.2.1=pk at*
  generalize d.2.2.2.2.2.2.2.2.2=ag at*
  refine tot_bind.2 (hf.mono fun y hy=>?_)
  refine tot_j (fun x=>x.1.length=pk.length∧x.2.1.length=pk.length) ?_ ?_
  · refine tot_l (fun x=>pk.length-x.1.toNat) (fun x=>0≤x.1∧x.1≤(pk.length:Int)∧(x.2.1.length:Int)=x.1∧(x.2.2.1.length:Int)=x.1) (by simp) ?_
    rintro ⟨i,l,m,_⟩ ⟨i1,i2,i3,i4⟩
    dsimp only at i1 i2 i3 i4 ⊢
    refine tot_cond.2 ⟨fun h5=>?_,fun h5=>by simp at h5 ⊢;omega⟩
    simp at h5
    have:=hp _ (gt_mem (z:=(0:Int)) i1 h5)
    refine tot_ck.2 ⟨by simp;omega,tot_ck.2 ⟨by simp;omega,?_⟩⟩
    simp [wr_is]
    omega
  rintro ⟨l,m,_⟩ ⟨h1,h2⟩
  dsimp only at h1 h2 ⊢
  refine tot_l (fun x=>ag.length-x.1.toNat) (fun x=>0≤x.1∧x.1≤(ag.length:Int)∧(x.2.1.length:Int)=pk.length+x.1∧(x.2.2.1.length:Int)=pk.length+x.1) (by simp;omega) ?_
  rintro ⟨i,l,m,_⟩ ⟨i1,i2,i3,i4⟩
  dsimp only at i1 i2 i3 i4 ⊢
  refine tot_cond.2 ⟨fun h5=>?_,fun h5=>by simp at h5;simp [hw];omega⟩
  simp at h5
  have:=ha _ (gt_mem (z:=tAgg.z) i1 h5)
  refine tot_ck.2 ⟨by simp;omega,tot_cond.2 ⟨fun h6=>?_,fun h6=>?_⟩⟩
  · have:=this (by simpa using h6)
    refine tot_ck.2 ⟨by simp;omega,?_⟩
    simp [wr_is]
    omega
  · simp [wr_is]
    omega
theorem oft_t (c:List tDefT) (d:tDefT) (hk:d.1=0) (hd:Sd d) (f:TS R09_Joined.d.si→Option (TS R09_Joined.d.so)):Tot (R09_Of.b f (c,dA d)) fun y=>y.1.length=wD d∧y.2.1.length=wD d:=by
  unfold R09_Of.b
  have e:(d.1==0)=true:=by simpa using hk
  have hw:wD d=d.2.1.2.1.length:=by unfold wD;rw [e,cond_true]
  dsimp only
  rw [e,cond_true,hw]
  exact tot_bind.2 ((tk_t _ _ _ hd.s1).mono fun y hy=>by simp;exact hy)
theorem Gc.wj {c:List tDefT} (h:Gc c) {j:Nat} (hj:j<c.length) (hk:c[j].1≠0):wJ (c.take j) c[j].2.2.2.1 c[j].2.2.2.2.1=wJ c c[j].2.2.2.1 c[j].2.2.2.2.1:=by
  obtain ⟨i,hi⟩:=(h.g j hj).f hk
  unfold wJ
  rw [wN_take hi]
  cases e:sq c[j].2.2.2.2.1 ⟨#[]⟩ with
  |true=>rfl
  |false=>
    obtain ⟨k,hk'⟩:=(h.g j hj).w hk e
    rw [wN_take hk']
theorem r_t (c : List tDefT) (h : Gc c) : ∀ (n j : Nat),j < n → (hj : j < c.length) → Tot (R09_Of.r n (c,dA c[j])) fun y => y.1.length = wD c[j] ∧ y.2.1.length = wD c[j]
  |0,_,h,_=>by omega
  | n + 1,j,hn,hj => by
    have hS:=h.s _ (List.getElem_mem hj)
    show Tot (R09_Of.b (R09_Joined.b (R09_Of.r n)) (c,dA c[j])) _
    by_cases hk:c[j].1=0
    · exact oft_t c _ hk hS _
    · have g:=h.g j hj
      obtain ⟨i,hi⟩:=g.f hk
      have e:=h.wj hj hk
      refine ofv_t c _ hk hS _ (joined_t c h.len _ _ _ _ _ _ _ _ _ _ (fun d hd=>wD_le (h.s d hd)) (fun s k hs hor hk'=>?_) ⟨i,(fnd_take hi).1⟩ fun e'=>?_) (by rw [←e];exact g.pk hk) (by rw [←e];exact g.ag hk)
      · have:k<j:=by
          rcases hor with rfl|⟨rfl,e'⟩
          · have:=fnd_take hi
            rw [this.1] at hs
            cases hs
            exact this.2
          · obtain ⟨m,hm⟩:=g.w hk e'
            have:=fnd_take hm
            rw [this.1] at hs
            cases hs
            exact this.2
        exact (r_t c h n k (by omega) hk').mono fun y hy=>hy.1
      · obtain ⟨m,hm⟩:=g.w hk e'
        exact ⟨m,(fnd_take hm).1⟩
end Go.Proofs.Ytnhiifengimfgaa
end
section
set_option maxRecDepth 100000
namespace Go.Proofs.Ytnhiifengimfgaa
open Go Lv Go.Proofs Go.RowKit Go.Shelf
variable [Lk]
theorem takes_t (o:Int):Tot (R03_Takes.F (o,())) fun y=>y.1≤2:=by
  rw [R03_Takes.eq];unfold R03_Takes.B
  simp [tot_jn]
theorem leaves_t (o a b:Int):Tot (R03_Leaves.F (o,a,b,())) fun _=>True:=by
  rw [R03_Leaves.eq];unfold R03_Leaves.B
  simp [tot_jn]
theorem type_t (e:List tNodeT) (ks:List Int):Tot (R03_Type.F (e,ks,())) fun _=>True:=by
  rw [R03_Type.eq];unfold R03_Type.B
  refine tot_cond.2 ⟨fun _=>by simp,fun h=>?_⟩
  simp at h
  refine tot_j (fun _=>True) ?_ ?_
  · refine tot_l (fun x=>e.length-x.1.toNat) (fun x=>0≤x.1∧x.1≤(e.length:Int)∧(x.2.1.length:Int)≤x.1) (by simp) ?_
    rintro ⟨i,l,_⟩ ⟨i1,i2,i3⟩
    dsimp only at i1 i2 i3 ⊢
    refine tot_cond.2 ⟨fun h5=>?_,fun h5=>by simp⟩
    simp at h5
    refine tot_ck.2 ⟨by simp;omega,tot_bind.2 ((takes_t _).mono fun y hy=>?_)⟩
    refine tot_j (fun _=>0≤y.1∧y.1≤(l.length:Int)) (by simp;omega) ?_
    rintro _ ⟨g1,g2⟩
    have w1:wr ((l.length:Int)-1)=l.length-1:=wr_id (by omega) (by omega)
    have w2:wr ((l.length:Int)-2)=l.length-2:=wr_id (by omega) (by omega)
    have w3:wr ((l.length:Int)-y.1)=l.length-y.1:=wr_id (by omega) (by omega)
    refine tot_j (fun _=>True) (by simp [w1];omega) ?_
    rintro ⟨a,_⟩ _
    refine tot_j (fun _=>True) (by simp [w2];omega) ?_
    rintro ⟨b,_⟩ _
    simp only [w3]
    refine tot_ck.2 ⟨by simp;omega,tot_ck.2 ⟨by simp;omega,tot_bind.2 ((leaves_t _ _ _).mono fun z _=>?_)⟩⟩
    refine tot_j (fun _=>True) (by simp;grind) ?_
    rintro ⟨k,ok,_⟩ _
    have w4:wr (i+1)=i+1:=wr_id (by omega) (by omega)
    refine tot_cond.2 ⟨fun _=>tot_bind.2 ((may_t _ _ _).mono fun u _=>tot_cond.2 ⟨fun _=>by simp,fun _=>?_⟩),fun _=>tot_cond.2 ⟨fun _=>by simp,fun _=>?_⟩⟩
    · simp [w4];omega
    · simp [w4];omega
  · rintro ⟨l,_⟩ _
    refine tot_cond.2 ⟨fun _=>by simp,fun h=>?_⟩
    simp at h
    simp [h]
theorem truth_t (e:List tNodeT) (ks:List Int):Tot (R09_truth.F (e,ks,())) fun _=>True:=by
  rw [R09_truth.eq];unfold R09_truth.B
  exact tot_bind.2 ((type_t e ks).mono fun y _=>tot_cond.2 ⟨fun _=>by simp,fun _=>by simp⟩)
theorem cols_t (n:ByteArray) (cs:List tColumnT) (es:List (List tNodeT)) (h:cs.length≤400) (h1:1≤cs.length):Tot (R09_cols.F (n,cs,es,())) fun _=>True:=by
  rw [R09_cols.eq];unfold R09_cols.B
  refine tot_j (fun _=>True) ?_ fun _ _=>by simp;omega
  refine tot_r cs.length fun i h0 h1=>?_
  refine tot_cond.2 ⟨fun h5=>?_,fun _=>by simp⟩
  simp at h5
  have w4:wr (i+1)=i+1:=wr_id (by omega) (by omega)
  refine tot_j (fun _=>True) ?_ fun _ _=>by simp [w4];omega
  refine tot_r i.toNat fun j j0 j1=>?_
  simp [wr_is]
  omega
theorem refs_t (c:List tDefT) (n:ByteArray) (cs:List tColumnT) (es:List (List tNodeT)) (hc:Gc c) (h:cs.length≤400) (h1:1≤cs.length):Tot (R09_refs.F (c,n,cs,es,())) fun _=>True:=by
  rw [R09_refs.eq];unfold R09_refs.B
  refine tot_r cs.length fun i h0 h1'=>?_
  refine tot_cond.2 ⟨fun h5=>?_,fun _=>by simp⟩
  simp at h5
  have w4:wr (i+1)=i+1:=wr_id (by omega) (by omega)
  have hl:=hc.len
  refine tot_ck.2 ⟨by simp;omega,tot_cond.2 ⟨fun _=>by simp [w4];omega,fun _=>tot_ck.2 ⟨by simp;omega,?_⟩⟩⟩
  refine tot_j (fun _=>True) ?_ fun x _=>by simp [w4];omega
  refine tot_cond.2 ⟨fun _=>?_,fun _=>by simp⟩
  simp only [find_s c _ (by omega),Option.bind_some]
  refine tot_cond.2 ⟨fun _=>by simp,fun hn=>?_⟩
  obtain ⟨k,hk⟩:=fndI_pos (c:=c) (by simpa using hn)
  have lk:=fnd_lt hk
  simp only [fndI_some hk,gt_at lk]
  refine tot_ck.2 ⟨by simp;omega,tot_cond.2 ⟨fun _=>by simp,fun h0=>tot_ck.2 ⟨by simp;omega,?_⟩⟩⟩
  have:=(hc.g k lk).t (by simpa using h0)
  simp
  omega
theorem view_t (c:List tDefT) (hc:Gc c) (vn vf vw:ByteArray) (o1 o2:Int) (wh:List tNodeT) (pk:List Int) (gr:Bool) (ag:List tAggT) (hp:pk.length≤400) (ha:ag.length≤400) (hv:Vg o1 o2 pk ag):
    Tot (R09_view.F (c,vn,vf,vw,o1,o2,wh,pk,gr,ag,())) fun y=>y.1=false→(∃i,fnd c vf=some i)∧(sq vw ⟨#[]⟩=false→∃i,fnd c vw=some i)∧(∀n∈pk,n<(wJ c vf vw:Int))∧∀a∈ag,a.1≥2→a.2<(wJ c vf vw:Int):=by
  rw [R09_view.eq];unfold R09_view.B
  have hl:=hc.len
  obtain ⟨⟨v1,v2⟩,⟨v3,v4⟩,v5,v6⟩:=hv
  simp only [find_s c _ (by omega),Option.bind_some]
  refine tot_j (fun _=>(∃i,fnd c vf=some i)∧(sq vw ⟨#[]⟩=false→∃i,fnd c vw=some i)) ?_ ?_
  · refine tot_cond.2 ⟨fun _=>by simp,fun h1=>tot_cond.2 ⟨fun h2=>tot_cond.2 ⟨fun _=>by simp,fun h3=>?_⟩,fun h2=>?_⟩⟩
    · simp only [tot_il]
      exact ⟨fndI_pos (by simpa using h1),fun _=>fndI_pos (by simpa using h3)⟩
    · simp only [tot_il]
      exact ⟨fndI_pos (by simpa using h1),fun e=>by simp [e] at h2⟩
  rintro _ ⟨⟨i,hi⟩,g2⟩
  have li:=fnd_lt hi
  have hrt:∀k (hk:k<c.length),Tot (R09_Of.r 64 (c,dA c[k])) fun y=>y.1.length=wD c[k]∧y.2.1.length=wD c[k]:=fun k hk=>r_t c hc 64 k (by omega) hk
  refine tot_bind.2 (Tot.mono (P:=fun y=>y.1.length=wJ c vf vw) ?_ fun y hy=>?_)
  · rw [R09_Joined.eq]
    exact joined_t c hl _ _ _ _ _ _ _ _ _ _ (fun d hd=>wD_le (hc.s d hd)) (fun s k hs _ hk=>(hrt k hk).mono fun y hy=>hy.1) ⟨i,hi⟩ g2
  simp only [fndI_some hi,gt_at li]
  have hwi:=wD_le (hc.s _ (List.getElem_mem li))
  have hwj:wD c[i]≤wJ c vf vw∧wJ c vf vw≤1600:=by
    have e1:wN c vf=wD c[i]:=by unfold wN;rw [hi];simp only [List.getD_eq_getElem?_getD,List.getElem?_eq_getElem li,Option.getD_some]
    unfold wJ
    rw [e1]
    refine ⟨by omega,?_⟩
    cases e:sq vw ⟨#[]⟩ with
    |true=>simp;omega
    |false=>
      obtain ⟨k,hk⟩:=g2 e
      have lk:=fnd_lt hk
      have:=wD_le (hc.s _ (List.getElem_mem lk))
      have e2:wN c vw=wD c[k]:=by unfold wN;rw [hk];simp only [List.getD_eq_getElem?_getD,List.getElem?_eq_getElem lk,Option.getD_some]
      rw [e2]
      simp
      omega
  refine tot_ck.2 ⟨by simp;omega,tot_bind.2 (Tot.mono (P:=fun y=>y.1.length=wD c[i]) (by rw [R09_Of.eq];exact (hrt i li).mono fun y hy=>hy.1) fun z hz=>?_)⟩
  have w1:wr ((z.1.length:Int)+o2)=z.1.length+o2:=wr_id (by omega) (by omega)
  simp only [w1]
  refine tot_j (fun _=>True) ?_ fun _ _=>?_
  · refine tot_cond.2 ⟨fun _=>?_,fun _=>by simp⟩
    refine tot_j (fun _=>o1<(z.1.length:Int)∧(z.1.length:Int)+o2<y.1.length) ?_ ?_
    · simp;omega
    · rintro _ ⟨k1,k2⟩
      simp;omega
  refine tot_j (fun x=>x.1=y.1) ?_ ?_
  · refine tot_cond.2 ⟨fun _=>tot_bind.2 ((truth_t _ _).mono fun u _=>tot_cond.2 ⟨fun _=>by simp,fun _=>by simp⟩),fun _=>by simp⟩
  rintro ⟨l,_⟩ rfl
  dsimp only
  refine tot_j (fun _=>∀n∈pk,n<(wJ c vf vw:Int)) ?_ fun _ q1=>?_
  · refine tot_all (l:=pk) (fun n:Int=>n<(wJ c vf vw:Int)) (fun j hj=>?_) (by simp)
    simp [gt_at hj,hj,wr_is,hy]
    omega
  refine tot_j (fun _=>∀a∈ag,a.1≥2→a.2<(wJ c vf vw:Int)) ?_ fun _ q2=>?_
  · refine tot_all (l:=ag) (fun a:tAggT=>a.1≥2→a.2<(wJ c vf vw:Int)) (fun j hj=>?_) (by simp)
    have:=v6 _ (List.getElem_mem hj)
    simp [gt_at hj,hj,wr_is,hy]
    omega
  have fin:∀b:Bool,Tot (some (b,())) fun y=>y.1=false→(∃i,fnd c vf=some i)∧(sq vw ⟨#[]⟩=false→∃i,fnd c vw=some i)∧(∀n∈pk,n<(wJ c vf vw:Int))∧∀a∈ag,a.1≥2→a.2<(wJ c vf vw:Int):=fun b=>tot_some.2 fun _=>⟨⟨i,hi⟩,g2,q1,q2⟩
  refine tot_cond.2 ⟨fun _=>tot_cond.2 ⟨fun _=>fin _,fun _=>tot_cond.2 ⟨fun _=>fin _,fun _=>fin _⟩⟩,fun _=>tot_cond.2 ⟨fun _=>fin _,fun _=>fin _⟩⟩
end Go.Proofs.Ytnhiifengimfgaa
end
section
set_option maxRecDepth 100000
namespace Go.Proofs.Ytnhiifengimfgaa
open Go Lv Go.Proofs Go.RowKit Go.Shelf
variable [Lk]
theorem wrong_t (c:List tDefT) (hc:Gc c) (d:tDefT) (hd:Sd d):Tot (R09_Wrong.F (c,d.1,d.2.1.1,d.2.1.2.1,d.2.1.2.2,d.2.2.1,d.2.2.2.1,d.2.2.2.2.1,d.2.2.2.2.2.1.1,d.2.2.2.2.2.1.2,d.2.2.2.2.2.2.1,d.2.2.2.2.2.2.2.1,d.2.2.2.2.2.2.2.2.1,d.2.2.2.2.2.2.2.2.2,())) fun y=>y.1=0→Gd c d:=by
  rw [R09_Wrong.eq];unfold R09_Wrong.B
  have hl:=hc.len
  refine tot_bind.2 ((print_t d hd).mono fun y hy=>tot_cond.2 ⟨fun _=>by simp,fun he=>tot_cond.2 ⟨fun _=>by simp,fun _=>?_⟩⟩)
  obtain ⟨p1,p2⟩:=hy he
  simp only [nameD_s,Option.bind_some,find_s c _ (show c.length<1000000000000000 by omega)]
  refine tot_cond.2 ⟨fun _=>by simp,fun hn=>?_⟩
  have hn:fnd c (nmD d)=none:=fndI_neg (by simpa using hn)
  refine tot_cond.2 ⟨fun hk=>?_,fun hk=>?_⟩
  · have hk:d.1≠0:=by simpa using hk
    have hv:=p2 hk
    refine tot_bind.2 ((view_t c hc _ _ _ _ _ _ _ _ _ hd.s5 hd.s6 hv).mono fun z hz=>tot_cond.2 ⟨fun _=>by simp,fun e=>tot_some.2 fun _=>?_⟩)
    obtain ⟨z1,z2,z3,z4⟩:=hz e
    exact ⟨hn,fun h=>absurd h hk,fun _=>z1,fun _=>z2,fun _ n hn=>⟨(hv.2.2.1 n hn).1,z3 n hn⟩,fun _=>⟨hv.1,hv.2.1⟩,fun _=>hv.2.2.2,fun _ a ha h2=>⟨hv.2.2.2 a ha,z4 a ha h2⟩⟩
  · have hk:d.1=0:=by simpa using hk
    have g1:=p1 hk
    have gd:Gd c d:=⟨hn,fun _=>g1,fun h=>absurd hk h,fun h=>absurd hk h,fun h=>absurd hk h,fun h=>absurd hk h,fun h=>absurd hk h,fun h=>absurd hk h⟩
    refine tot_bind.2 ((cols_t _ _ _ hd.s1 g1).mono fun z _=>tot_cond.2 ⟨fun _=>by simp,fun _=>tot_bind.2 ((refs_t c _ _ _ hc hd.s1 g1).mono fun u _=>tot_cond.2 ⟨fun _=>by simp,fun _=>tot_bind.2 ((tk_t _ _ _ hd.s1).mono fun k _=>?_)⟩)⟩)
    have h2:=hd.s2
    refine tot_l (fun x=>d.2.1.2.2.length-x.2.1.toNat) (fun x=>0≤x.2.1∧x.2.1≤(d.2.1.2.2.length:Int)) (by simp) ?_
    rintro ⟨ks,i,_⟩ ⟨i1,i2⟩
    dsimp only at i1 i2 ⊢
    refine tot_cond.2 ⟨fun h5=>?_,fun h5=>tot_ir.2 fun _=>gd⟩
    simp at h5
    refine tot_ck.2 ⟨by simp;omega,tot_bind.2 ((truth_t _ _).mono fun u _=>tot_cond.2 ⟨fun _=>by simp,fun _=>?_⟩)⟩
    simp [wr_is]
    omega
theorem rmay_t (c:List tDefT) (hl:c.length≤22) (hs:∀d∈c,Sd d):Tot (R09_May.F (c,())) fun y=>y.1=true→Gc c:=by
  rw [R09_May.eq];unfold R09_May.B
  have fin:(∀j (hj:j<c.length),Gd (c.take j) c[j])→Gc c:=fun h=>⟨hl,hs,h⟩
  refine tot_l (fun x=>c.length-x.1.toNat) (fun x=>∃i:Nat,x.1=(i:Int)∧i≤c.length∧∀(j:Nat) (hj:j<c.length),j<i→Gd (c.take j) c[j]) ⟨0,rfl,by omega,fun j _ h=>by omega⟩ ?_
  rintro ⟨_,u⟩ ⟨i,rfl,h1,h2⟩
  dsimp only
  refine tot_cond.2 ⟨fun h5=>?_,fun h5=>?_⟩
  · simp at h5
    have hw:wr ((i:Int)+1)=((i+1:Nat):Int):=by rw [wr_id (by omega) (by omega)];omega
    have hp:Gc (c.take i):=⟨by simp;omega,fun d hd=>hs d (List.mem_of_mem_take hd),fun j hj=>by
      simp only [List.length_take] at hj
      have:=h2 j (by omega) (by omega)
      simp only [List.getElem_take]
      rw [List.take_take,show min j i=j by omega]
      exact this⟩
    simp only [gt_at h5,Int.toNat_zero,List.drop_zero,Int.toNat_natCast,hw]
    refine tot_ck.2 ⟨by simp;omega,tot_ck.2 ⟨by simp;omega,tot_bind.2 ((wrong_t _ hp _ (hs _ (List.getElem_mem h5))).mono fun y hy=>tot_cond.2 ⟨fun _=>by simp,fun e=>?_⟩)⟩⟩
    have hy:=hy (by simpa using e)
    simp only [tot_il]
    refine ⟨⟨i+1,rfl,by omega,fun j hj hji=>?_⟩,by simp;omega⟩
    by_cases e:j=i
    · subst e;exact hy
    · exact h2 j hj (by omega)
  · simp at h5
    exact tot_ir.2 fun _=>fin fun j hj=>h2 j hj (by omega)
theorem rbig_t (c : List tDefT) (hl : c.length < 1000000000000000) (hd : ∀ d ∈ c,Dn d) : Tot (R09_Big.F (c,())) fun y => y.1 = false → c.length ≤ 22 ∧ ∀ d ∈ c,Sd d := by
  rw [R09_Big.eq];unfold R09_Big.B
  refine tot_j (fun _=>∀d∈c,Sd d) ?_ fun _ hs=>?_
  · refine tot_l (fun x=>c.length-x.2.1.toNat) (fun x=>∃i:Nat,x.2.1=(i:Int)∧i≤c.length∧∀(j:Nat) (hj:j<c.length),j<i→Sd c[j]) ⟨0,rfl,by omega,fun j _ h=>by omega⟩ ?_
    rintro ⟨s,_,u⟩ ⟨i,rfl,h1,h2⟩
    dsimp only
    refine tot_cond.2 ⟨fun h5=>?_,fun h5=>?_⟩
    · simp at h5
      have hw:wr ((i:Int)+1)=((i+1:Nat):Int):=by rw [wr_id (by omega) (by omega)];omega
      simp only [gt_at h5,hw]
      refine tot_j (fun _=>Sd c[i]) ?_ fun _ g=>?_
      · refine tot_ck.2 ⟨by simp;omega,tot_bind.2 ((big7_t _ (hd _ (List.getElem_mem h5))).mono fun y hy=>tot_cond.2 ⟨fun _=>by simp,fun e=>?_⟩)⟩
        have g:=hy e
        refine tot_ck.2 ⟨by simp;omega,tot_bind.2 ((print_t _ g).mono fun z _=>tot_cond.2 ⟨fun _=>by simp,fun _=>tot_il.2 g⟩)⟩
      · refine tot_ck.2 ⟨by simp;omega,tot_ck.2 ⟨by simp;omega,?_⟩⟩
        simp only [tot_il]
        refine ⟨⟨i+1,rfl,by omega,fun j hj hji=>?_⟩,by simp;omega⟩
        by_cases e:j=i
        · subst e;exact g
        · exact h2 j hj (by omega)
    · simp at h5
      exact tot_ir.2 fun d hd=>by
        obtain ⟨j,hj,rfl⟩:=List.getElem_of_mem hd
        exact h2 j hj (by omega)
  refine tot_j (fun _=>True) ?_ fun x _=>?_
  · refine tot_l (fun x=>c.length-x.2.1.toNat) (fun x=>0≤x.2.1∧x.2.1≤(c.length:Int)) (by simp) ?_
    rintro ⟨s,i,u⟩ ⟨i1,i2⟩
    dsimp only at i1 i2 ⊢
    simp [wr_is]
    omega
  · refine tot_cond.2 ⟨fun _=>by simp,fun e=>tot_cond.2 ⟨fun _=>by simp,fun _=>tot_some.2 fun _=>⟨by simp at e;omega,hs⟩⟩⟩
end Go.Proofs.Ytnhiifengimfgaa
end
section
set_option maxRecDepth 100000
namespace Go.Proofs.Ytnhiifengimfgaa
open Go Lv Go.Proofs Go.RowKit Go.Shelf
variable [Lk]
theorem itoa_t (n:Int) (h:I64 n):Tot (α:=ByteArray×Unit) (strconv_Itoa.F (n,())) fun y=>y.1.size≤21:=by
  rw [strconv_Itoa.eq]
  show Tot (α:=ByteArray×Unit) (if -9223372036854775808≤n∧n≤9223372036854775807 then some (itoaB n,()) else none) _
  rw [if_pos h]
  exact tot_some.2 (Lib.itoa_length_le n h.1 h.2)
theorem atoi_in {w : List UInt8} {v : Int} (h : Lib.atoiAll w = .ok v) : I64 v := by
  unfold Lib.atoiAll at h
  split at h
  · cases h
  · simp only at h
    split at h
    · cases h
    · cases h
    · split at h
      · cases h
      · split at h
        · cases h
        · cases h
          constructor<;>split<;>omega
theorem atoi_t (s:ByteArray) (h:s.size≤1000000):Tot (α:=Int×Bool×Unit) (strconv_Atoi.F (s,())) fun y=>y.2.1=true→I64 y.1:=by
  rw [strconv_Atoi.eq]
  show Tot (α:=Int×Bool×Unit) (if s.size≤281474976710656 then some ((atoiR s).1,(atoiR s).2,()) else none) _
  rw [if_pos (by omega)]
  refine tot_some.2 fun h=>?_
  unfold atoiR at h ⊢
  split at h
  · rename_i v hv
    exact atoi_in hv
  · cases h
  · cases h
theorem contains_t (a b:ByteArray) (h:a.size≤1000000):Tot (α:=Bool×Unit) (strings_Contains.F (a,b,())) fun _=>True:=by
  rw [strings_Contains.eq]
  show Tot (α:=Bool×Unit) (if a.size<4294967281 then some (Lib.contains a.data.toList b.data.toList,()) else none) _
  rw [if_pos (by omega)]
  exact tot_some.2 trivial
theorem of_t (c:Int):Tot (lex_of.F (c,())) fun _=>True:=by
  rw [lex_of.eq];unfold lex_of.B
  refine tot_j (fun _=>True) (by simp) fun x _=>tot_cond.2 ⟨fun _=>by simp,fun _=>?_⟩
  refine tot_j (fun _=>True) (by simp) fun x _=>?_
  simp
/--a scanner's text and place -/
def Sc (s:ByteArray) (i:Int) (s':ByteArray) (j:Int):Prop:=s'=s∧i≤j
theorem peek_t (d:Int) (s:ByteArray) (i:Int) (h0:0≤i) (h:i≤1000000) (hs:s.size≤100000) (hd:0≤d∧d≤1):Tot (lex_scanner_peek.F (d,s,i,())) fun y=>y.2.1=s∧y.2.2.1=i∧0≤y.1∧y.1<256:=by
  rw [lex_scanner_peek.eq];unfold lex_scanner_peek.B
  have hw:wr (i+d)=i+d:=wr_id (by omega) (by omega)
  have hb:∀k,0≤byteAt s k∧byteAt s k<256:=fun k=>by
    unfold byteAt
    have:=(s.data.toList.getD k 0).toNat_lt
    omega
  simp only [hw]
  refine tot_cond.2 ⟨fun _=>by simp,fun h5=>?_⟩
  simp at h5
  refine tot_ck.2 ⟨by simp;omega,tot_some.2 ⟨rfl,rfl,hb _⟩⟩
theorem run_t (l:List Int) (s:ByteArray) (i:Int) (hl:l.length≤10) (h0:0≤i) (h:i≤(s.size:Int)) (hs:s.size≤100000):Tot (lex_scanner_run.F (l,s,i,())) fun y=>y.1.size≤s.size∧y.2.1=s∧i≤y.2.2.1∧y.2.2.1≤(s.size:Int):=by
  rw [lex_scanner_run.eq];unfold lex_scanner_run.B
  refine tot_j (fun x=>x.1=s∧i≤x.2.1∧x.2.1≤(s.size:Int)) ?_ ?_
  · refine tot_l (fun x=>s.size-x.2.1.toNat) (fun x=>x.1=s∧i≤x.2.1∧x.2.1≤(s.size:Int)) ⟨rfl,by simp,h⟩ ?_
    rintro ⟨z,j,_⟩ ⟨e,j1,j2⟩
    dsimp only at e j1 j2 ⊢
    subst e
    refine tot_cond.2 ⟨fun h5=>?_,fun _=>tot_ir.2 ⟨rfl,j1,j2⟩⟩
    simp at h5
    have hw:wr (j+1)=j+1:=wr_id (by omega) (by omega)
    refine tot_ck.2 ⟨by simp;omega,tot_bind.2 ((of_t _).mono fun y _=>?_)⟩
    refine tot_j (fun _=>True) ?_ fun x _=>tot_cond.2 ⟨fun _=>tot_ir.2 ⟨rfl,j1,j2⟩,fun _=>by simp [hw];omega⟩
    refine tot_l (fun x=>l.length-x.2.1.toNat) (fun x=>0≤x.2.1∧x.2.1≤(l.length:Int)) (by simp) ?_
    rintro ⟨b,k,_⟩ ⟨k1,k2⟩
    dsimp only at k1 k2 ⊢
    simp [wr_is]
    omega
  · rintro ⟨z,j,_⟩ ⟨e,j1,j2⟩
    dsimp only at e j1 j2 ⊢
    subst e
    refine tot_ck.2 ⟨by simp;omega,tot_some.2 ⟨by simp;omega,rfl,j1,j2⟩⟩
theorem wordL_t (s:ByteArray) (h:s.size≤100000):Tot (lex_Word.F (s,())) fun _=>True:=by
  rw [lex_Word.eq];unfold lex_Word.B
  refine tot_j (fun _=>True) ?_ fun _ _=>tot_bind.2 ((run_t _ s 0 (by simp) (by omega) (by omega) h).mono fun _ _=>by simp)
  refine tot_cond.2 ⟨fun _=>by simp,fun h1=>tot_cond.2 ⟨fun _=>by simp,fun _=>tot_ck.2 ⟨?_,tot_bind.2 ((of_t _).mono fun _ _=>by simp)⟩⟩⟩
  have:s.size≠0:=fun e=>by
    have:s=⟨#[]⟩:=by
      obtain ⟨⟨l⟩⟩:=s
      cases l with
      |nil=>rfl
      |cons a r=>simp at e
    rw [this] at h1
    simp [sq] at h1
  simp
  omega
theorem valueMay_t (a b:Int) (s:ByteArray):Tot (value_May.F (a,b,s,())) fun y=>y.1=true→a=3→s.size≤1000:=by
  rw [value_May.eq];unfold value_May.B
  simp
  omega
theorem bstr_t (l:List Int) (h:∀x∈l,0≤x∧x<256):Tot (α:=ByteArray×Unit) (strings_Builder_String.F (l,())) fun y=>y.1.size=l.length:=by
  rw [strings_Builder_String.eq]
  show Tot (α:=ByteArray×Unit) (if (∀x∈l,0≤x∧x<256) then some (bytesOf l,()) else none) _
  rw [if_pos h]
  exact tot_some.2 (by simp [bytesOf])
theorem bwrite_t (x:Int) (l:List Int) (h:l.length≤1000000):Tot (strings_Builder_WriteByte.F (x,l,())) fun y=>y.2.1=l++ [x]:=by
  rw [strings_Builder_WriteByte.eq];unfold strings_Builder_WriteByte.B
  rw [strings_Builder_copyCheck.eq]
  show Tot (ck (Nat.ble (l.length+ [x].length) 140737488355328)<|some (true,(l++ [x]),())) _
  exact tot_ck.2 ⟨by simp;omega,tot_some.2 rfl⟩
end Go.Proofs.Ytnhiifengimfgaa
end
section
set_option maxRecDepth 100000
namespace Go.Proofs.Ytnhiifengimfgaa
open Go Lv Go.Proofs Go.RowKit Go.Shelf
variable [Lk]
theorem byteB (s:ByteArray) (k:Nat):0≤byteAt s k∧byteAt s k<256:=by
  unfold byteAt
  have:=(s.data.toList.getD k 0).toNat_lt
  omega
theorem peek_s (d:Int) (s:ByteArray) (i:Int) (h0:0≤i) (h:i≤1000000) (hs:s.size≤100000) (hd:0≤d∧d≤1):∃b,lex_scanner_peek.F (d,s,i,())=some (b,s,i,())∧0≤b∧b<256∧(i+d<s.size→b=byteAt s (i+d).toNat):=by
  rw [lex_scanner_peek.eq];unfold lex_scanner_peek.B
  have hw:wr (i+d)=i+d:=wr_id (by omega) (by omega)
  dsimp only
  simp only [hw]
  by_cases h5:i+d≥s.size
  · exact ⟨0,by simp [h5],by omega,by omega,by omega⟩
  · have:ib (i+d) s.size=true:=by simp;omega
    refine ⟨byteAt s (i+d).toNat,by simp [h5,this,ck],(byteB _ _).1,(byteB _ _).2,fun _=>rfl⟩
theorem runp_t (l : List Int) (s : ByteArray) (i : Int) (hl : l.length ≤ 10) (h0 : 0 ≤ i) (h : i ≤ (s.size : Int)) (hs : s.size ≤ 100000) : Tot (lex_scanner_run.F (l,s,i,())) fun y => y.1.size ≤ s.size ∧ y.2.1 = s ∧ i ≤ y.2.2.1 ∧ y.2.2.1 ≤ (s.size : Int) ∧ (y.2.2.1 = i → i < s.size → ∀ c,lex_of.F (byteAt s i.toNat,()) = some (c,()) → c ∉ l) := by
  rw [lex_scanner_run.eq];unfold lex_scanner_run.B
  refine tot_j (fun x=>x.1=s∧i≤x.2.1∧x.2.1≤(s.size:Int)∧(x.2.1=i→i<s.size→∀c,lex_of.F (byteAt s i.toNat,())=some (c,())→c∉l)) ?_ ?_
  · refine tot_l (fun x=>s.size-x.2.1.toNat) (fun x=>x.1=s∧i≤x.2.1∧x.2.1≤(s.size:Int)) ⟨rfl,by simp,h⟩ ?_
    rintro ⟨z,j,_⟩ ⟨e,j1,j2⟩
    dsimp only at e j1 j2 ⊢
    subst e
    refine tot_cond.2 ⟨fun h5=>?_,fun h5=>tot_ir.2 ⟨rfl,j1,j2,fun a b=>by have a:j=i:=a;simp at h5;omega⟩⟩
    simp at h5
    have hw:wr (j+1)=j+1:=wr_id (by omega) (by omega)
    obtain ⟨⟨y,_⟩,hy,_⟩:=of_t (byteAt z j.toNat)
    refine tot_ck.2 ⟨by simp;omega,?_⟩
    simp only [hy,Option.bind_some]
    refine tot_j (fun x=>x.1=false→y∉l) ?_ fun x hx=>tot_cond.2 ⟨fun hb=>tot_ir.2 ⟨rfl,j1,j2,fun a b c hc=>?_⟩,fun _=>by simp [hw];omega⟩
    · refine tot_l (fun x=>l.length-x.2.1.toNat) (fun x=>0≤x.2.1∧x.2.1≤(l.length:Int)∧(x.1=false→∀(k:Nat) (hk:k<l.length),(k:Int)<x.2.1→l[k]≠y)) ⟨by simp,by simp,fun _ k hk h=>by simp at h;omega⟩ ?_
      rintro ⟨b,k,_⟩ ⟨k1,k2,k3⟩
      dsimp only at k1 k2 k3 ⊢
      refine tot_cond.2 ⟨fun h6=>?_,fun h6=>?_⟩
      · simp at h6
        have hw:wr (k+1)=k+1:=wr_id (by omega) (by omega)
        refine tot_ck.2 ⟨by simp;omega,tot_cond.2 ⟨fun e=>?_,fun e=>?_⟩⟩
        · simp only [tot_il,hw]
          exact ⟨⟨by omega,by omega,fun h=>by cases h⟩,by omega⟩
        · simp only [tot_il,hw]
          refine ⟨⟨by omega,by omega,fun h m hm hmk=>?_⟩,by omega⟩
          by_cases em:(m:Int)=k
          · subst em
            rw [gt_at hm] at h
            simpa using h
          · exact k3 e m hm (by omega)
      · simp at h6
        refine tot_ir.2 fun hb hm=>?_
        obtain ⟨m,hm,e⟩:=List.getElem_of_mem hm
        exact k3 hb m hm (by omega) e
    · have:j=i:=a
      subst this
      rw [hy] at hc
      cases hc
      exact hx (by simpa using hb)
  · rintro ⟨z,j,_⟩ ⟨e,j1,j2,j3⟩
    dsimp only at e j1 j2 j3 ⊢
    subst e
    refine tot_ck.2 ⟨by simp;omega,tot_some.2 ⟨by simp;omega,rfl,j1,j2,j3⟩⟩
/--what a token's scan gives -/
abbrev Tk (s:ByteArray) (i:Int) (y:Int×ByteArray×Int×Int×ByteArray×Bool×ByteArray×Int×Unit):Prop:=y.2.1.size≤s.size∧y.2.2.2.2.2.2.1=s∧i<y.2.2.2.2.2.2.2.1∧y.2.2.2.2.2.2.2.1≤(s.size:Int)
theorem word_p (s:ByteArray) (i:Int) (h0:0≤i) (h:i<(s.size:Int)) (hs:s.size≤100000) (hc:lex_of.F (byteAt s i.toNat,())=some (1,())):Tot (lex_scanner_word.F (s,i,())) (Tk s i):=by
  rw [lex_scanner_word.eq];unfold lex_scanner_word.B
  refine tot_bind.2 ((runp_t _ s i (by simp) h0 (by omega) hs).mono fun y hy=>tot_some.2 ⟨hy.1,hy.2.1,?_,hy.2.2.2.1⟩)
  obtain ⟨_,_,y1,y2,y3⟩:=hy
  by_cases e:y.2.2.1=i
  · exact absurd (by simp) (y3 e h 1 hc)
  · show i<y.2.2.1
    omega
theorem number_p (s:ByteArray) (i:Int) (h0:0≤i) (h:i<(s.size:Int)) (hs:s.size≤100000) (hc:byteAt s i.toNat=45∨lex_of.F (byteAt s i.toNat,())=some (2,())):Tot (lex_scanner_number.F (s,i,())) (Tk s i):=by
  rw [lex_scanner_number.eq];unfold lex_scanner_number.B
  obtain ⟨b,hb,b1,b2,b3⟩:=peek_s 0 s i h0 (by omega) hs (by omega)
  have b3:=b3 (by omega)
  rw [Int.add_zero] at b3
  have hw:wr (i+1)=i+1:=wr_id (by omega) (by omega)
  refine tot_j (fun x=>x.1.size≤1∧x.2.1=s∧(x.2.2.1=i+1∨x.2.2.1=i∧lex_of.F (byteAt s i.toNat,())=some (2,()))) ?_ ?_
  · simp only [hb,Option.bind_some,hw]
    refine tot_cond.2 ⟨fun _=>tot_il.2 ⟨by simp,rfl,.inl rfl⟩,fun e=>tot_il.2 ⟨by simp,rfl,.inr ⟨rfl,?_⟩⟩⟩
    rcases hc with hc|hc
    · rw [b3,hc] at e
      simp at e
    · exact hc
  rintro ⟨t,z,j,_⟩ ⟨t1,e,t3⟩
  dsimp only at t1 e t3 ⊢
  subst e
  have j1:i≤j∧j≤z.size:=by rcases t3 with rfl|⟨rfl,_⟩<;>omega
  refine tot_bind.2 ((runp_t _ z j (by simp) (by omega) j1.2 hs).mono fun y hy=>?_)
  obtain ⟨y0,y1,y2,y3,y4⟩:=hy
  have fin:i<y.2.2.1:=by
    rcases t3 with rfl|⟨rfl,hc⟩
    · omega
    · by_cases e:y.2.2.1=j
      · exact absurd (by simp) (y4 e h 2 hc)
      · omega
  refine tot_ck.2 ⟨by simp;omega,tot_bind.2 ((atoi_t _ (by simp;omega)).mono fun a ha=>tot_cond.2 ⟨fun e=>tot_bind.2 ((itoa_t _ (ha e)).mono fun u _=>tot_some.2 ⟨?_,y1,fin,y3⟩),fun _=>tot_some.2 ⟨?_,y1,fin,y3⟩⟩)⟩
  · show (⟨#[]⟩:ByteArray).size≤z.size
    simp
  · show (⟨#[]⟩:ByteArray).size≤z.size
    simp
theorem text_p (s : ByteArray) (i : Int) (h0 : 0 ≤ i) (h : i < (s.size : Int)) (hs : s.size ≤ 100000) : Tot (lex_scanner_text.F (s,i,())) (Tk s i) := by
  rw [lex_scanner_text.eq];unfold lex_scanner_text.B
  have hw:wr (i+1)=i+1:=wr_id (by omega) (by omega)
  have ez:(⟨#[]⟩:ByteArray).size≤s.size:=by simp
  refine tot_j (fun x=>x.1=s∧i<x.2.1∧x.2.1≤(s.size:Int)) ?_ ?_
  · simp only [hw]
    refine tot_l (fun x=>s.size-x.2.1.toNat) (fun x=>x.1=s∧i<x.2.1∧x.2.1≤(s.size:Int)∧(x.2.2.1.length:Int)≤x.2.1∧∀c∈x.2.2.1,0≤c∧c<256) ⟨rfl,by dsimp only;omega,by dsimp only;omega,by simp;omega,by simp⟩ ?_
    rintro ⟨z,j,l,_⟩ ⟨e,j1,j2,j3,j4⟩
    dsimp only at e j1 j2 j3 j4 ⊢
    subst e
    refine tot_cond.2 ⟨fun h5=>?_,fun _=>tot_ir.2 ⟨rfl,j1,j2⟩⟩
    simp at h5
    have hj:wr (j+1)=j+1:=wr_id (by omega) (by omega)
    obtain ⟨b,hb,b1,b2,_⟩:=peek_s 0 z j (by omega) (by omega) hs (by omega)
    obtain ⟨d,hd,_⟩:=peek_s 0 z (j+1) (by omega) (by omega) hs (by omega)
    have hm:∀c∈l++ [b],0≤c∧c<256:=by
      intro c hc
      rcases List.mem_append.1 hc with h|h
      · exact j4 c h
      · simp at h;subst h;exact ⟨b1,b2⟩
    simp only [hb,Option.bind_some,hj,hd]
    refine tot_j (fun x=>x.1=z∧j≤x.2.1∧x.2.1<(z.size:Int)∧(x.2.2.1.length:Int)≤x.2.1+1∧∀c∈x.2.2.1,0≤c∧c<256) ?_ ?_
    · skip
      refine tot_cond.2 ⟨fun _=>tot_cond.2 ⟨fun _=>tot_bind.2 ((bstr_t l j4).mono fun y5 _=>tot_bind.2 ((valueMay_t _ _ _).mono fun y6 _=>tot_ir.2 ⟨ez,rfl,by dsimp only;omega,by dsimp only;omega⟩)),fun _=>tot_cond.2 ⟨fun _=>tot_bind.2 ((bstr_t l j4).mono fun y5 _=>tot_bind.2 ((valueMay_t _ _ _).mono fun y6 _=>tot_ir.2 ⟨ez,rfl,by dsimp only;omega,by dsimp only;omega⟩)),fun h6=>?_⟩⟩,fun _=>?_⟩
      · simp at h6
        refine tot_bind.2 ((bwrite_t b l (by omega)).mono fun y hy=>tot_il.2 ⟨rfl,by simp;omega,h6,?_,?_⟩)
        · rw [hy];simp;omega
        · rw [hy];exact hm
      · refine tot_bind.2 ((bwrite_t b l (by omega)).mono fun y hy=>tot_il.2 ⟨rfl,by simp,h5,?_,?_⟩)
        · rw [hy];simp;omega
        · rw [hy];exact hm
    · rintro ⟨z',k,m,_⟩ ⟨e,k1,k2,k3,k4⟩
      dsimp only at e k1 k2 k3 k4 ⊢
      subst e
      have hk:wr (k+1)=k+1:=wr_id (by omega) (by omega)
      simp only [tot_il,hk]
      exact ⟨⟨trivial,by omega,by omega,k3,k4⟩,by omega⟩
  · rintro ⟨z,j,l,_⟩ ⟨e,j1,j2⟩
    exact tot_some.2 ⟨ez,e,j1,j2⟩
theorem token_p (s:ByteArray) (i:Int) (h0:0≤i) (h:i<(s.size:Int)) (hs:s.size≤100000):Tot (lex_scanner_token.F (s,i,())) (Tk s i):=by
  rw [lex_scanner_token.eq];unfold lex_scanner_token.B
  obtain ⟨b,hb,b1,b2,b3⟩:=peek_s 0 s i h0 (by omega) hs (by omega)
  have b3:=b3 (by omega)
  rw [Int.add_zero] at b3
  obtain ⟨d,hd,_⟩:=peek_s 1 s i h0 (by omega) hs (by omega)
  obtain ⟨⟨y,_⟩,hy,_⟩:=of_t b
  simp only [hb,Option.bind_some,hy,hd]
  refine tot_cond.2 ⟨fun e=>tot_bind.2 ((word_p s i h0 h hs (by rw [←b3,hy];simp at e;rw [e])).mono fun y hy=>tot_some.2 hy),fun _=>?_⟩
  refine tot_j (fun x=>x.2.1=s∧x.2.2.1=i∧(x.1=true→b=45∨y=2)) ?_ ?_
  · refine tot_cond.2 ⟨fun e=>tot_il.2 ⟨rfl,rfl,fun _=> .inr (by simpa using e)⟩,fun _=>tot_cond.2 ⟨fun e=>tot_bind.2 ((of_t _).mono fun _ _=>tot_il.2 ⟨rfl,rfl,fun _=> .inl (by simpa using e)⟩),fun _=>tot_il.2 ⟨rfl,rfl,fun h=>by cases h⟩⟩⟩
  rintro ⟨c,z,j,_⟩ ⟨e,e2,hc⟩
  dsimp only at e e2 hc ⊢
  subst e e2
  have hw:wr (j+1)=j+1:=wr_id (by omega) (by omega)
  have hw2:wr (j+1-1)=j:=by rw [wr_id (by omega) (by omega)];omega
  refine tot_cond.2 ⟨fun e=>tot_bind.2 ((number_p z j h0 h hs ?_).mono fun y hy=>tot_some.2 hy),fun _=>tot_cond.2 ⟨fun _=>tot_bind.2 ((text_p z j h0 h hs).mono fun y hy=>tot_some.2 hy),fun _=>?_⟩⟩
  · rcases hc e with e|e
    · exact .inl (by rw [←b3];exact e)
    · exact .inr (by rw [←b3,hy,e])
  · simp only [hw,hw2]
    refine tot_ck.2 ⟨by simp;omega,tot_bind.2 ((contains_t _ _ (by simp)).mono fun y _=>tot_some.2 ⟨?_,rfl,by simp;omega,by simp;omega⟩)⟩
    show (z.extract j.toNat (j+1).toNat).size≤z.size
    simp
    omega
/--tokens:at most n -/
def Pt (n:Nat) (L:List tTokT):Prop:=L.length≤n∧n≤20000∧∀t∈L,t.2.1.size≤20000
theorem lex_p (s:ByteArray) (hs:s.size≤1000000000000):Tot (lex_Lex.F (s,())) fun y=>Pt 20000 y.2.1:=by
  rw [lex_Lex.eq];unfold lex_Lex.B
  have z0:Pt 20000 []:=⟨by simp,by simp,by simp⟩
  refine tot_cond.2 ⟨fun _=>tot_some.2 z0,fun h=>?_⟩
  simp at h
  refine tot_bind.2 ((run_t _ s 0 (by simp) (by omega) (by omega) (by omega)).mono fun y hy=>?_)
  refine tot_l (fun x=>s.size-x.2.2.1.toNat) (fun x=>x.2.1=s∧0≤x.2.2.1∧x.2.2.1≤(s.size:Int)∧(x.1.length:Int)≤x.2.2.1∧∀t∈x.1,t.2.1.size≤s.size) ⟨hy.2.1,hy.2.2.1,hy.2.2.2,by simp;exact hy.2.2.1,by simp⟩ ?_
  rintro ⟨l,z,j,_⟩ ⟨e,j1,j2,j3,j4⟩
  dsimp only at e j1 j2 j3 j4 ⊢
  subst e
  refine tot_cond.2 ⟨fun h5=>?_,fun _=>tot_ir.2 ⟨by simp;omega,by simp,fun t ht=>by have:=j4 t ht;omega⟩⟩
  simp at h5
  refine tot_bind.2 ((token_p z j j1 h5 (by omega)).mono fun t ht=>tot_cond.2 ⟨fun _=>tot_ir.2 z0,fun _=>?_⟩)
  obtain ⟨t1,t2,t3,t4⟩:=ht
  refine tot_ck.2 ⟨by simp;omega,?_⟩
  rw [t2]
  refine tot_bind.2 ((run_t _ z _ (by simp) (by omega) t4 (by omega)).mono fun u hu=>tot_il.2 ⟨⟨hu.2.1,?_,hu.2.2.2,?_,?_⟩,?_⟩)
  · have:=hu.2.2.1;dsimp only;omega
  · have:=hu.2.2.1;simp;omega
  · intro x hx
    rcases List.mem_append.1 hx with h|h
    · exact j4 x h
    · simp at h;subst h;exact t1
  · have:=hu.2.2.1;have:=hu.2.2.2;dsimp only;omega
end Go.Proofs.Ytnhiifengimfgaa
end
section
set_option maxRecDepth 100000
namespace Go.Proofs.Ytnhiifengimfgaa
open Go Lv Go.Proofs Go.RowKit Go.Shelf
variable [Lk]
theorem dl (s:ByteArray):s.data.toList.length=s.size:=Array.length_toList
theorem replaceK_len (a b:List UInt8):∀(k:Nat) (s:List UInt8),(Lib.replaceK a b k s).length≤s.length+k*b.length
  |0,s=>by simp [Lib.replaceK]
  | k + 1,s => by
    rw [Lib.replaceK]
    split
    · omega
    · have:=replaceK_len a b k (s.drop ((Lib.index s a).toNat+a.length))
      simp only [List.length_append,List.length_take,List.length_drop,Nat.succ_mul] at this ⊢
      omega
theorem replace_t (s:ByteArray) (h:s.size≤1000):Tot (α:=ByteArray×Unit) (strings_ReplaceAll.F (s,⟨#[39]⟩,⟨#[39,39]⟩,())) fun y=>y.1.size≤4000:=by
  rw [strings_ReplaceAll.eq]
  have hc:Lib.countB s ⟨#[39]⟩≤s.size+1:=by
    have:=Lib.count_le s.data.toList [39]
    rw [dl] at this
    exact this
  show Tot (α:=ByteArray×Unit) (if s.size<4294967281∧1≤(⟨#[39]⟩:ByteArray).size∧s.size+Lib.countB s ⟨#[39]⟩*(⟨#[39,39]⟩:ByteArray).size≤140737488355328 then some (replaceB s ⟨#[39]⟩ ⟨#[39,39]⟩,()) else none) _
  rw [if_pos ⟨by omega,by simp,by simp;omega⟩]
  refine tot_some.2 ?_
  have:=replaceK_len [39] [39,39] (Lib.replaceNum s.data.toList [39] (-1)) s.data.toList
  have h2:Lib.replaceNum s.data.toList [39] (-1)≤s.size+1:=by
    unfold Lib.replaceNum
    rw [if_pos (by omega)]
    exact hc
  have h3:=dl s
  simp only [replaceB,Lib.replaceAll,Lib.replace,bsz,List.size_toArray]
  rw [if_neg (by simp)]
  rw [h3] at this
  simp at this ⊢
  omega
theorem join_len (sep : ByteArray) (m : Nat) : ∀ (l : List ByteArray),(∀ x ∈ l,x.size ≤ m) → (joinB l sep).size ≤ l.length * (m + sep.size)
  | [],_=>by simp [joinB,Lib.join]
  | x :: r,h => by
    simp only [joinB,bsz,List.size_toArray,List.map_cons,Lib.join_cons,List.length_append,Lib.joinTail]
    have h1:x.data.toList.length≤m:=by rw [dl];exact h x (by simp)
    have h2:∀(r:List ByteArray),(∀x∈r,x.size≤m)→(((r.map (·.data.toList)).map (sep.data.toList++ ·)).flatten).length≤r.length*(m+sep.size):=by
      intro r hr
      induction r with
      |nil=>simp
      |cons y r ih=>
        have h1:y.data.toList.length≤m:=by rw [dl];exact hr y (by simp)
        have:=ih fun x hx=>hr x (by simp [hx])
        have h3:=dl sep
        simp only [List.map_cons,List.flatten_cons,List.length_append,List.length_cons,Nat.succ_mul]
        omega
    have:=h2 r fun x hx=>h x (by simp [hx])
    simp only [List.length_cons,Nat.succ_mul]
    omega
/--words:at most n,of at most 5000 bytes -/
def Wd (n:Nat) (l:List ByteArray):Prop:=l.length≤n∧∀x∈l,x.size≤5000
theorem join_t (l:List ByteArray) (n:Nat) (hn:n≤1000000) (h:Wd n l) (m:Nat) (hm:m≤5000) (h2:∀x∈l,x.size≤m):Tot (α:=ByteArray×Unit) (strings_Join.F (l,⟨#[32]⟩,())) fun y=>y.1.size≤l.length*(m+1):=by
  rw [strings_Join.eq]
  have:=join_len ⟨#[32]⟩ m l h2
  have h3:l.length*(m+(⟨#[32]⟩:ByteArray).size)≤1000000*5001:=Nat.mul_le_mul (by have:=h.1;omega) (by simp;omega)
  have h4:=h.1
  show Tot (α:=ByteArray×Unit) (if l.length≤140737488355328∧(joinB l ⟨#[32]⟩).size≤140737488355328 then some (joinB l ⟨#[32]⟩,()) else none) _
  rw [if_pos ⟨by omega,by omega⟩]
  exact tot_some.2 (by simpa using this)
theorem lexMay_t (k:Int) (w:ByteArray) (a b:Int) (s:ByteArray) (hw:w.size≤100000):Tot (lex_May.F (k,w,a,b,s,())) fun _=>True:=by
  rw [lex_May.eq];unfold lex_May.B
  refine tot_cond.2 ⟨fun _=>tot_bind.2 ((wordL_t w hw).mono fun _ _=>by simp),fun _=>tot_cond.2 ⟨fun _=>?_,fun _=>?_⟩⟩
  · exact tot_cond.2 ⟨fun _=>tot_bind.2 ((valueMay_t _ _ _).mono fun _ _=>by simp),fun _=>by simp⟩
  · exact tot_cond.2 ⟨fun _=>tot_cond.2 ⟨fun _=>tot_bind.2 ((contains_t _ _ (by simp)).mono fun _ _=>by simp),fun _=>by simp⟩,fun _=>by simp⟩
theorem valueText_t (a b:Int) (s:ByteArray) (hb:I64 b) (hs:s.size≤1000):Tot (value_Text.F (a,b,s,())) fun y=>y.1.size≤4002:=by
  rw [value_Text.eq];unfold value_Text.B
  refine tot_cond.2 ⟨fun _=>by simp,fun _=>tot_cond.2 ⟨fun _=>?_,fun _=>tot_cond.2 ⟨fun _=>tot_bind.2 ((itoa_t b hb).mono fun y hy=>tot_some.2 (by simp;omega)),fun _=>tot_cond.2 ⟨fun _=>tot_bind.2 ((replace_t s hs).mono fun y hy=>?_),fun _=>by simp⟩⟩⟩⟩
  · rw [strconv_FormatBool.eq];unfold strconv_FormatBool.B
    rw [internal_strconv_FormatBool.eq];unfold internal_strconv_FormatBool.B
    simp
  · simp
    omega
end Go.Proofs.Ytnhiifengimfgaa
end
section
set_option maxRecDepth 100000
namespace Go.Proofs.Ytnhiifengimfgaa
open Go Lv Go.Proofs Go.RowKit Go.Shelf
variable [Lk]
theorem lexPrint_t (t:tTokT) (h:I64 t.2.2.2.1∧t.2.2.2.2.size≤1000∧t.2.1.size≤1000):Tot (lex_Print.F ([t],())) fun y=>y.1.size≤5000:=by
  rw [lex_Print.eq];unfold lex_Print.B
  refine tot_j (fun x=>x.1.length≤1∧∀w∈x.1,w.size≤4002) ?_ fun x hx=>tot_bind.2 ((join_t _ 1 (by omega) ⟨hx.1,fun w hw=>by have:=hx.2 w hw;omega⟩ 4002 (by omega) hx.2).mono fun y hy=>tot_some.2 ?_)
  · refine tot_l (fun x=>1-x.1.toNat) (fun x=>0≤x.1∧x.1≤1∧(x.2.1.length:Int)≤x.1∧∀w∈x.2.1,w.size≤4002) (by simp) ?_
    rintro ⟨i,l,_⟩ ⟨i1,i2,i3,i4⟩
    dsimp only at i1 i2 i3 i4 ⊢
    refine tot_cond.2 ⟨fun h5=>?_,fun h5=>tot_ir.2 ⟨by dsimp only;omega,i4⟩⟩
    simp at h5
    have e : gt [t] i tTok.z = t := by have : i = 0 := by omega
                                       subst this;rfl
    have hw:wr (i+1)=i+1:=wr_id (by omega) (by omega)
    simp only [e,hw]
    refine tot_ck.2 ⟨by simp;omega,tot_bind.2 ((lexMay_t _ _ _ _ _ (by omega)).mono fun y _=>tot_cond.2 ⟨fun _=>tot_ir.2 (by simp),fun _=>tot_cond.2 ⟨fun _=>tot_bind.2 ((valueText_t _ _ _ h.1 h.2.1).mono fun z hz=>?_),fun _=>?_⟩⟩)⟩
    · refine tot_ck.2 ⟨by simp;omega,tot_il.2 ⟨⟨by dsimp only;omega,by dsimp only;omega,by simp;omega,?_⟩,by dsimp only;omega⟩⟩
      intro w hw
      rcases List.mem_append.1 hw with hw|hw
      · exact i4 w hw
      · simp at hw;subst hw;exact hz
    · refine tot_ck.2 ⟨by simp;omega,tot_il.2 ⟨⟨by dsimp only;omega,by dsimp only;omega,by simp;omega,?_⟩,by dsimp only;omega⟩⟩
      intro w hw
      rcases List.mem_append.1 hw with hw|hw
      · exact i4 w hw
      · simp at hw;subst hw;have:=h.2.2;omega
  · have:=Nat.mul_le_mul_right (4002+1) hx.1
    dsimp only
    omega
theorem constant_t (a b:Int) (s:ByteArray) (hb:I64 b) (hs:s.size≤1000):Tot (α:=ByteArray×Unit) (ddl_constant.F (a,b,s,())) fun y=>y.1.size≤5000:=by
  rw [ddl_constant.eq]
  show Tot (α:=ByteArray×Unit) (bif (a==(0:Int))&&(b==(0:Int))&&(s==(⟨#[]⟩:ByteArray)) then some ((⟨#[110,117,108,108]⟩:ByteArray),())
    else bif (a==(1:Int))&&(b==(0:Int))&&(s==(⟨#[]⟩:ByteArray)) then some ((⟨#[102,97,108,115,101]⟩:ByteArray),())
    else bif (a==(1:Int))&&(b==(1:Int))&&(s==(⟨#[]⟩:ByteArray)) then some ((⟨#[116,114,117,101]⟩:ByteArray),())
    else Option.bind (lex_May.F ((1:Int),(⟨#[]⟩:ByteArray),a,b,s,())) fun y=>
    bif (!y.1) then some ((⟨#[33]⟩:ByteArray),()) else Option.bind (lex_Print.F ([((1:Int),(⟨#[]⟩:ByteArray),a,b,s)],())) fun z=>some (z.1,())) _
  refine tot_cond.2 ⟨fun _=>by simp,fun _=>tot_cond.2 ⟨fun _=>by simp,fun _=>tot_cond.2 ⟨fun _=>by simp,fun _=>tot_bind.2 ((lexMay_t _ _ _ _ _ (by simp)).mono fun y _=>tot_cond.2 ⟨fun _=>by simp,fun _=>tot_bind.2 ((lexPrint_t _ ⟨hb,hs,by simp⟩).mono fun z hz=>tot_some.2 hz)⟩)⟩⟩⟩
theorem Wd.app {n k:Nat} {l p:List ByteArray} (h:Wd n l) (h2:Wd k p):Wd (n+k) (l++p):=⟨by have:=h.1;have:=h2.1;simp;omega,fun x hx=>by
  rcases List.mem_append.1 hx with hx|hx
  · exact h.2 x hx
  · exact h2.2 x hx⟩
theorem Wd.le {n m:Nat} {l:List ByteArray} (h:Wd n l) (hm:n≤m):Wd m l:=⟨by have:=h.1;omega,h.2⟩
theorem add_p {n k:Nat} {l p:List ByteArray} (hn:n+k≤1000000) (h:Wd n l) (hp:Wd k p):Tot (ddl_printer_add.F (p,l,())) fun y=>Wd (n+k) y.1:=by
  rw [ddl_printer_add.eq];unfold ddl_printer_add.B
  exact tot_ck.2 ⟨by have:=h.1;have:=hp.1;simp;omega,tot_some.2 (h.app hp)⟩
theorem addIf_p {n k:Nat} {l p:List ByteArray} (b:Bool) (hn:n+k≤1000000) (h:Wd n l) (hp:Wd k p):Tot (ddl_printer_addIf.F (b,p,l,())) fun y=>Wd (n+k) y.1:=by
  rw [ddl_printer_addIf.eq];unfold ddl_printer_addIf.B
  exact tot_cond.2 ⟨fun _=>tot_bind.2 ((add_p hn h hp).mono fun y hy=>tot_some.2 hy),fun _=>tot_some.2 (h.le (by omega))⟩
theorem w1 {x:ByteArray} (h:x.size≤5000):Wd 1 [x]:=⟨by simp,by simp;exact h⟩
theorem w0:Wd 0 []:=⟨by simp,by simp⟩
theorem Wd.c {n:Nat} {x:ByteArray} {l:List ByteArray} (h:x.size≤5000) (hl:Wd n l):Wd (n+1) (x::l):=⟨by have:=hl.1;simp;omega,fun y hy=>by
  rcases List.mem_cons.1 hy with rfl|hy
  · exact h
  · exact hl.2 y hy⟩
theorem word_t' (n:Int) (l:List ByteArray) (h:∀x∈l,x.size≤100):Tot (ddl_word.F (n,l,())) fun y=>y.1.size≤100:=by
  rw [ddl_word.eq];unfold ddl_word.B
  refine tot_cond.2 ⟨fun _=>by simp,fun h1=>tot_cond.2 ⟨fun _=>by simp,fun h2=>?_⟩⟩
  simp at h1 h2
  exact tot_ck.2 ⟨by simp;omega,tot_some.2 (h _ (gt_mem h1 h2))⟩
theorem pexpr_t (e:List tNodeT) (he:Ex e) {n:Nat} {l:List ByteArray} (hn:n≤900000) (h:Wd n l):Tot (ddl_printer_expr.F (e,l,())) fun y=>Wd (n+130) y.1:=by
  rw [ddl_printer_expr.eq];unfold ddl_printer_expr.B
  have hl:=he.1
  refine tot_bind.2 ((add_p (by omega) h (w1 (by simp))).mono fun y hy=>?_)
  refine tot_j (fun x=>Wd (n+121) x.1) ?_ fun x hx=>tot_bind.2 ((add_p (by omega) hx (w1 (by simp))).mono fun z hz=>tot_some.2 (hz.le (by omega)))
  refine tot_l (fun x=>e.length-x.1.toNat) (fun x=>0≤x.1∧x.1≤(e.length:Int)∧Wd (n+1+x.1.toNat) x.2.1) ⟨by simp,by simp,by simpa using hy⟩ ?_
  rintro ⟨i,o,_⟩ ⟨i1,i2,i3⟩
  dsimp only at i1 i2 i3 ⊢
  refine tot_cond.2 ⟨fun h5=>?_,fun h5=>tot_ir.2 (i3.le (by simp at h5;omega))⟩
  simp at h5
  have hw:wr (i+1)=i+1:=wr_id (by omega) (by omega)
  have hN:=he.2 _ (gt_mem (z:=tNode.z) i1 h5)
  simp only [hw]
  have fin:∀(x:ByteArray),x.size≤5000→Tot (ddl_printer_add.F ([x],o,())) fun y=>(0≤i+1∧i+1≤(e.length:Int)∧Wd (n+1+(i+1).toNat) y.1)∧e.length-(i+1).toNat<e.length-i.toNat:=fun x hx=>
    (add_p (by omega) i3 (w1 hx)).mono fun y hy=>⟨⟨by omega,by omega,hy.le (by omega)⟩,by omega⟩
  refine tot_ck.2 ⟨by simp;omega,tot_cond.2 ⟨fun _=>tot_bind.2 ((itoa_t _ hN.1).mono fun y hy=>tot_ck.2 ⟨by simp;omega,tot_bind.2 ((fin _ (by simp;omega)).mono fun z hz=>tot_il.2 hz)⟩),fun _=>tot_cond.2 ⟨fun _=>tot_bind.2 ((constant_t _ _ _ hN.2.1 hN.2.2).mono fun y hy=>tot_bind.2 ((fin _ hy).mono fun z hz=>tot_il.2 hz)),fun _=>
    tot_bind.2 ((word_t' _ _ (by simp)).mono fun y hy=>tot_bind.2 ((fin _ (by omega)).mono fun z hz=>tot_il.2 hz))⟩⟩⟩
theorem tot_mapR {S R:Type} {x:Option R} {P:S⊕R→Prop}:Tot (Option.map Sum.inr x) P↔Tot x fun y=>P (.inr y):=by
  cases x<;>simp
theorem ptable_t (nm:ByteArray) (cs:List tColumnT) (es:List (List tNodeT)) (hn:nm.size≤100) (hc:cs.length≤400) (hc2:∀c∈cs,c.1.size≤100∧c.2.2.2.2.1.size≤100) (he:es.length≤400) (he2:∀e∈es,Ex e):
    Tot (ddl_printer_table.F (nm,cs,es,[],())) fun y=>Wd 100000 y.1:=by
  rw [ddl_printer_table.eq];unfold ddl_printer_table.B
  refine tot_bind.2 ((add_p (by omega) w0 (Wd.c (by simp) (Wd.c (by omega) (w1 (by simp))))).mono fun y hy=>?_)
  refine tot_l (fun x=>cs.length-x.1.toNat) (fun x=>0≤x.1∧x.1≤(cs.length:Int)∧Wd (3+10*x.1.toNat) x.2.1) ⟨by simp,by simp,by simpa using hy⟩ ?_
  rintro ⟨i,o,_⟩ ⟨i1,i2,i3⟩
  dsimp only at i1 i2 i3 ⊢
  refine tot_cond.2 ⟨fun h5=>?_,fun h5=>?_⟩
  · simp at h5
    have hw:wr (i+1)=i+1:=wr_id (by omega) (by omega)
    have hC:=hc2 _ (gt_mem (z:=tColumn.z) i1 h5)
    refine tot_j (fun x=>Wd (3+10*i.toNat+8) x.1) ?_ fun x hx=>?_
    · refine tot_bind.2 ((addIf_p _ (by omega) i3 (w1 (by simp))).mono fun a ha=>tot_ck.2 ⟨by simp;omega,tot_bind.2 ((word_t' _ _ (by simp)).mono fun b hb=>tot_bind.2 ((add_p (by omega) ha (Wd.c (by omega) (w1 (by omega)))).mono fun c hc=>?_))⟩)
      refine tot_bind.2 ((addIf_p _ (by omega) hc (w1 (by simp))).mono fun d hd=>tot_bind.2 ((addIf_p _ (by omega) hd (w1 (by simp))).mono fun f hf=>?_))
      refine tot_bind.2 ((word_t' _ _ (by simp)).mono fun g hg=>tot_bind.2 ((addIf_p _ (by omega) hf (Wd.c (by simp) (Wd.c (by omega) (w1 (by omega))))).mono fun k hk=>tot_il.2 (hk.le (by omega))))
    · simp only [tot_il,hw]
      exact ⟨⟨by omega,by omega,hx.le (by omega)⟩,by omega⟩
  · simp at h5
    refine tot_mapR.2 (tot_bind.2 ((add_p (by omega) i3 (w1 (by simp))).mono fun z hz=>?_))
    refine tot_l (fun x=>es.length-x.1.toNat) (fun x=>0≤x.1∧x.1≤(es.length:Int)∧Wd (4004+131*x.1.toNat) x.2.1) ⟨by simp,by simp,hz.le (by omega)⟩ ?_
    rintro ⟨j,q,_⟩ ⟨j1,j2,j3⟩
    dsimp only at j1 j2 j3 ⊢
    refine tot_cond.2 ⟨fun h6=>?_,fun h6=>tot_ir.2 (j3.le (by simp at h6;omega))⟩
    simp at h6
    have hw:wr (j+1)=j+1:=wr_id (by omega) (by omega)
    simp only [hw]
    refine tot_ck.2 ⟨by simp;omega,tot_bind.2 ((add_p (by omega) j3 (w1 (by simp))).mono fun a ha=>tot_bind.2 ((pexpr_t _ (he2 _ (gt_mem j1 h6)) (by omega) ha).mono fun b hb=>tot_il.2 ⟨⟨by dsimp only;omega,by dsimp only;omega,hb.le (by dsimp only;omega)⟩,by dsimp only;omega⟩))⟩
theorem pview_t (n f w:ByteArray) (a b:Int) (e:List tNodeT) (pk:List Int) (g:Bool) (ag:List tAggT) (hn:n.size≤100) (hf:f.size≤100) (hw:w.size≤100) (ha:I64 a) (hb:I64 b) (he:Ex e)
    (hp:pk.length≤400) (hp2:∀x∈pk,I64 x) (hg:ag.length≤400) (hg2:∀x∈ag,I64 x.2):Tot (ddl_printer_view.F (n,f,w,a,b,e,pk,g,ag,[],())) fun y=>Wd 100000 y.1:=by
  rw [ddl_printer_view.eq];unfold ddl_printer_view.B
  refine tot_bind.2 ((add_p (by omega) w0 (Wd.c (by simp) (Wd.c (by omega) (Wd.c (by simp) (w1 (by omega)))))).mono fun y hy=>?_)
  refine tot_j (fun x=>Wd 10 x.1) ?_ ?_
  · refine tot_ck.2 ⟨by decide,tot_bind.2 ((itoa_t a ha).mono fun u hu=>tot_ck.2 ⟨by decide,tot_bind.2 ((itoa_t b hb).mono fun v hv=>?_)⟩)⟩
    exact tot_bind.2 ((addIf_p _ (by omega) hy (Wd.c (by simp) (Wd.c (by omega) (Wd.c (by simp) (Wd.c (by omega) (Wd.c (by simp) (w1 (by omega)))))))).mono fun z hz=>tot_il.2 (hz.le (by omega)))
  rintro ⟨o,_⟩ ho
  refine tot_j (fun x=>Wd 200 x.1) ?_ ?_
  · refine tot_cond.2 ⟨fun _=>tot_bind.2 ((add_p (by omega) ho (w1 (by simp))).mono fun z hz=>tot_bind.2 ((pexpr_t e he (by omega) hz).mono fun u hu=>tot_il.2 (hu.le (by omega)))),fun _=>tot_il.2 (ho.le (by omega))⟩
  rintro ⟨o,_⟩ ho
  refine tot_bind.2 ((add_p (by omega) ho (w1 (by simp))).mono fun y hy=>?_)
  refine tot_l (fun x=>pk.length-x.1.toNat) (fun x=>0≤x.1∧x.1≤(pk.length:Int)∧Wd (201+2*x.1.toNat) x.2.1) ⟨by simp,by simp,hy.le (by omega)⟩ ?_
  rintro ⟨i,o,_⟩ ⟨i1,i2,i3⟩
  dsimp only at i1 i2 i3 ⊢
  refine tot_cond.2 ⟨fun h5=>?_,fun h5=>?_⟩
  · simp at h5
    have hw:wr (i+1)=i+1:=wr_id (by omega) (by omega)
    refine tot_j (fun x=>Wd (203+2*i.toNat) x.1) ?_ fun x hx=>?_
    · exact tot_bind.2 ((addIf_p _ (by omega) i3 (w1 (by simp))).mono fun c hc=>tot_ck.2 ⟨by simp;omega,tot_bind.2 ((itoa_t _ (hp2 _ (gt_mem i1 h5))).mono fun d hd=>tot_bind.2 ((add_p (by omega) hc (w1 (by omega))).mono fun k hk=>tot_il.2 (hk.le (by omega))))⟩)
    · simp only [tot_il,hw]
      exact ⟨⟨by omega,by omega,hx.le (by omega)⟩,by omega⟩
  · simp at h5
    refine tot_mapR.2 (tot_bind.2 ((addIf_p _ (by omega) i3 (w1 (by simp))).mono fun z hz=>?_))
    refine tot_l (fun x=>ag.length-x.1.toNat) (fun x=>0≤x.1∧x.1≤(ag.length:Int)∧Wd (1002+3*x.1.toNat) x.2.1) ⟨by simp,by simp,hz.le (by omega)⟩ ?_
    rintro ⟨j,q,_⟩ ⟨j1,j2,j3⟩
    dsimp only at j1 j2 j3 ⊢
    refine tot_cond.2 ⟨fun h6=>?_,fun h6=>tot_ir.2 (j3.le (by simp at h6;omega))⟩
    simp at h6
    have hw:wr (j+1)=j+1:=wr_id (by omega) (by omega)
    have hs:=hg2 _ (gt_mem (z:=tAgg.z) j1 h6)
    refine tot_j (fun x=>Wd (1005+3*j.toNat) x.1) ?_ fun x hx=>?_
    · refine tot_bind.2 ((addIf_p _ (by omega) j3 (w1 (by simp))).mono fun c hc=>tot_ck.2 ⟨by simp;omega,tot_bind.2 ((word_t' _ _ (by simp)).mono fun d hd=>tot_bind.2 ((add_p (by omega) hc (w1 (by omega))).mono fun k hk=>?_))⟩)
      exact tot_bind.2 ((itoa_t _ hs).mono fun d hd=>tot_bind.2 ((addIf_p _ (by omega) hk (w1 (by omega))).mono fun k hk=>tot_il.2 (hk.le (by omega))))
    · simp only [tot_il,hw]
      exact ⟨⟨by omega,by omega,hx.le (by omega)⟩,by omega⟩
end Go.Proofs.Ytnhiifengimfgaa
end
section
set_option maxRecDepth 100000
namespace Go.Proofs.Ytnhiifengimfgaa
open Go Lv Go.Proofs Go.RowKit Go.Shelf
variable [Lk]
/--a result that is told:Q holds of it;or a panic -/
def Tl {S:Type} (Q:S→Prop):S⊕Int→Prop
  | .inl s=>Q s
  | .inr _=>True
theorem tot_m {S A:Type} {x:Option (S⊕Int)} {K:S⊕Int→Option A} {P:A→Prop} (Q:S→Prop) (h:Tot x (Tl Q)) (hk:∀s,Q s→Tot (K (.inl s)) P) (hg:∀n,Tot (K (.inr n)) P):Tot (Option.bind x K) P:=by
  obtain ⟨z,rfl,hz⟩:=h
  cases z with
  |inl s=>exact hk s hz
  |inr n=>exact hg n
theorem tot_agI {R:Type} {t:AT} {f:List AT→Option R} {P:R→Prop}:Tot (agI R t f) P↔Tot (f []) P:=Iff.rfl
theorem Tot.tl {S:Type} {x:Option (S⊕Int)} {P Q:S→Prop} (h:Tot x (Tl P)) (hq:∀y,P y→Q y):Tot x (Tl Q):=h.mono fun z hz=>by
  cases z with
  |inl s=>exact hq s hz
  |inr n=>trivial
theorem tlr {S:Type} {Q:S→Prop} {n:Int}:Tot (some (Sum.inr n:S⊕Int)) (Tl Q):=tot_some.2 trivial
theorem Pt.le {n m:Nat} {L:List tTokT} (h:Pt n L) (hm:n≤m) (h2:m≤20000):Pt m L:=⟨by have:=h.1;omega,h2,h.2.2⟩
theorem Pt.own {n:Nat} {L:List tTokT} (h:Pt n L):Pt L.length L:=⟨Nat.le_refl _,by have:=h.1;have:=h.2.1;omega,h.2.2⟩
variable {n:Nat} {L:List tTokT}
theorem pis_t (p:List ByteArray) (hp:p.length≤100) (h:Pt n L):Tot (ddl_parser_is.F (p,L,())) fun y=>y.2.1=L∧(y.1=true→p.length≤L.length):=by
  rw [ddl_parser_is.eq];unfold ddl_parser_is.B
  have:=h.1;have:=h.2.1
  refine tot_l (fun x=>p.length-x.1.toNat) (fun x=>0≤x.1∧x.1≤(p.length:Int)∧x.1≤(L.length:Int)) (by simp) ?_
  rintro ⟨i,_⟩ ⟨i1,i2,i3⟩
  dsimp only at i1 i2 i3 ⊢
  refine tot_cond.2 ⟨fun h5=>?_,fun h5=>tot_ir.2 ⟨rfl,fun _=>by simp at h5;omega⟩⟩
  simp at h5
  have hw:wr (i+1)=i+1:=wr_id (by omega) (by omega)
  refine tot_ck.2 ⟨by simp;omega,tot_cond.2 ⟨fun _=>by simp,fun h6=>?_⟩⟩
  simp at h6
  refine tot_ck.2 ⟨by simp;omega,tot_cond.2 ⟨fun _=>by simp,fun _=>tot_ck.2 ⟨by simp;omega,tot_cond.2 ⟨fun _=>by simp,fun _=>?_⟩⟩⟩⟩
  simp only [tot_il,hw]
  exact ⟨⟨by omega,by omega,by omega⟩,by omega⟩
theorem ptake_t (p:List ByteArray) (hp:p.length≤100) (hp1:1≤p.length) (h:Pt n L):Tot (ddl_parser_take.F (p,L,())) fun y=>Pt n y.2.1∧(y.1=true→Pt (n-1) y.2.1∧0<n):=by
  rw [ddl_parser_take.eq];unfold ddl_parser_take.B
  refine tot_bind.2 ((pis_t p hp h).mono fun y hy=>tot_cond.2 ⟨fun _=>tot_some.2 ⟨by rw [hy.1];exact h,fun h=>by cases h⟩,fun e=>?_⟩)
  have hl:=hy.2 (by simpa using e)
  have:=h.1;have:=h.2.1
  rw [hy.1]
  refine tot_ck.2 ⟨by simp;omega,tot_some.2 ⟨?_,fun _=>⟨?_,by omega⟩⟩⟩
  all_goals exact ⟨by simp;omega,by omega,fun t ht=>h.2.2 t (List.mem_of_mem_take (List.mem_of_mem_drop ht))⟩
theorem pneed_t (b:Bool):Tot (ddl_need.F (b,())) (Tl fun _=>b=true):=by
  rw [ddl_need.eq];unfold ddl_need.B
  cases b<;>simp [Tl]
theorem pone_t (p:List ByteArray) (hp:p.length≤100) (h:Pt n L):Tot (ddl_parser_one.F (p,L,())) (Tl fun y=>Pt n y.2.1):=by
  rw [ddl_parser_one.eq];unfold ddl_parser_one.B
  refine tot_j (fun x=>Pt n x.1) ?_ fun x hx=>tot_m _ (pneed_t _) (fun _ _=>tot_some.2 hx) fun _=>tlr
  refine tot_l (fun x=>p.length-x.1.toNat) (fun x=>0≤x.1∧x.1≤(p.length:Int)∧Pt n x.2.1) ⟨by simp,by simp,h⟩ ?_
  rintro ⟨i,o,_⟩ ⟨i1,i2,i3⟩
  dsimp only at i1 i2 i3 ⊢
  refine tot_cond.2 ⟨fun h5=>?_,fun h5=>tot_ir.2 i3⟩
  simp at h5
  have hw:wr (i+1)=i+1:=wr_id (by omega) (by omega)
  refine tot_ck.2 ⟨by simp;omega,tot_bind.2 ((ptake_t _ (by simp) (by simp) i3).mono fun y hy=>tot_cond.2 ⟨fun _=>tot_ir.2 hy.1,fun _=>?_⟩)⟩
  simp only [tot_il,hw]
  exact ⟨⟨by omega,by omega,hy.1⟩,by omega⟩
theorem pnext_t (h:Pt n L):Tot (ddl_parser_next.F (L,())) (Tl fun y=>Pt (n-1) y.2.2.2.2.2.1∧0<n∧y.2.1.size≤20000):=by
  rw [ddl_parser_next.eq];unfold ddl_parser_next.B
  have:=h.1;have:=h.2.1
  refine tot_m _ (pneed_t _) (fun _ h5=>?_) fun _=>tlr
  simp at h5
  refine tot_ck.2 ⟨by simp;omega,tot_ck.2 ⟨by simp;omega,tot_some.2 ⟨⟨by simp;omega,by omega,fun t ht=>h.2.2 t (List.mem_of_mem_take (List.mem_of_mem_drop ht))⟩,by omega,h.2.2 _ ?_⟩⟩⟩
  exact gt_mem (z:=tTok.z) (i:=0) (by omega) (by omega)
theorem contL_t (l:List ByteArray) (s:ByteArray) (h:l.length≤1000):Tot (slices_Contains_sl_string_string.F (l,s,())) fun _=>True:=by
  rw [slices_Contains_sl_string_string.eq];unfold slices_Contains_sl_string_string.B
  rw [slices_Index_sl_string_string.eq];unfold slices_Index_sl_string_string.B
  refine tot_bind.2 (Tot.mono (P:=fun _=>True) (tot_r l.length fun i h0 h1=>?_) fun _ _=>by simp)
  simp [wr_is]
  omega
theorem pName_t (s:ByteArray) (h:s.size≤20000):Tot (ddl_Name.F (s,())) fun _=>True:=by
  rw [ddl_Name.eq];unfold ddl_Name.B
  refine tot_bind.2 ((wordL_t s (by omega)).mono fun y _=>tot_cond.2 ⟨fun _=>?_,fun _=>by simp⟩)
  rw [ddl_keywords.eq];unfold ddl_keywords.B
  exact tot_bind.2 (tot_some.2 (tot_bind.2 ((contL_t _ _ (by simp)).mono fun _ _=>by simp)))
theorem pname_t (h:Pt n L):Tot (ddl_parser_name.F (L,())) (Tl fun y=>Pt (n-1) y.2.1∧0<n):=by
  rw [ddl_parser_name.eq];unfold ddl_parser_name.B
  refine tot_m _ (pnext_t h) (fun y hy=>?_) fun _=>tlr
  refine tot_cond.2 ⟨fun _=>tot_bind.2 ((pName_t _ hy.2.2).mono fun z _=>tot_m _ (pneed_t _) (fun _ _=>tot_some.2 ⟨hy.1,hy.2.1⟩) fun _=>tlr),fun _=>tot_m _ (pneed_t _) (fun _ _=>tot_some.2 ⟨hy.1,hy.2.1⟩) fun _=>tlr⟩
theorem pcolOf_t (h:Pt n L):Tot (ddl_parser_columnOf.F (L,())) (Tl fun y=>Pt (n-1) y.2.2.2.2.2.2.1∧0<n):=by
  rw [ddl_parser_columnOf.eq];unfold ddl_parser_columnOf.B
  refine tot_m _ (pname_t h) (fun y hy=>?_) fun _=>tlr
  refine tot_m _ (pone_t _ (by simp) hy.1) (fun z hz=>?_) fun _=>tlr
  refine tot_bind.2 ((ptake_t _ (by simp) (by simp) hz).mono fun a ha=>tot_bind.2 ((ptake_t _ (by simp) (by simp) ha.1).mono fun b hb=>tot_bind.2 ((ptake_t _ (by simp) (by simp) hb.1).mono fun c hc=>tot_cond.2 ⟨fun _=>?_,fun _=>tot_some.2 ⟨hc.1,hy.2⟩⟩)))
  refine tot_m _ (pname_t hc.1) (fun d hd=>?_) fun _=>tlr
  refine tot_m _ (pone_t _ (by simp) hd.1) (fun e he=>tot_some.2 ⟨he.le (by omega) (by have:=h.2.1;omega),hy.2⟩) fun _=>tlr
theorem pcol_t (h:Pt n L):Tot (ddl_parser_col.F (L,())) (Tl fun y=>Pt (n-1) y.2.1∧0<n):=by
  rw [ddl_parser_col.eq];unfold ddl_parser_col.B
  refine tot_m _ (pnext_t h) (fun y hy=>?_) fun _=>tlr
  refine tot_j (fun _=>True) ?_ fun _ _=>tot_some.2 ⟨hy.1,hy.2.1⟩
  exact tot_cond.2 ⟨fun _=>tot_cond.2 ⟨fun _=>tot_cond.2 ⟨fun _=>tot_m _ (pneed_t _) (fun _ _=>tot_il.2 trivial) fun _=>tot_ir.2 trivial,fun _=>tot_m _ (pneed_t _) (fun _ _=>tot_il.2 trivial) fun _=>tot_ir.2 trivial⟩,fun _=>tot_m _ (pneed_t _) (fun _ _=>tot_il.2 trivial) fun _=>tot_ir.2 trivial⟩,fun _=>tot_m _ (pneed_t _) (fun _ _=>tot_il.2 trivial) fun _=>tot_ir.2 trivial⟩
theorem pcolumn_t (s:ByteArray) (h:s.size≤20000):Tot (ddl_column.F (s,())) fun _=>True:=by
  rw [ddl_column.eq];unfold ddl_column.B
  rw [strings_CutPrefix.eq];unfold strings_CutPrefix.B
  rw [internal_stringslite_CutPrefix.eq];unfold internal_stringslite_CutPrefix.B
  rw [internal_stringslite_HasPrefix.eq];unfold internal_stringslite_HasPrefix.B
  refine tot_bind.2 (Tot.mono (P:=fun y=>y.1.size≤20000) ?_ fun y hy=>?_)
  · simp only [tot_bind]
    refine Tot.mono (P:=fun y=>y.1=true→1≤s.size) ?_ fun y hy=>?_
    · simp
      omega
    · refine tot_cond.2 ⟨fun _=>by simp;omega,fun e=>?_⟩
      have:=hy (by simpa using e)
      simp
      omega
  · refine tot_bind.2 ((atoi_t _ (by omega)).mono fun z hz=>tot_cond.2 ⟨fun _=>tot_cond.2 ⟨fun e=>tot_cond.2 ⟨fun _=>tot_bind.2 ((itoa_t _ (hz e)).mono fun _ _=>by simp),fun _=>by simp⟩,fun _=>by simp⟩,fun _=>by simp⟩)
theorem pstep_t (h:Pt n L):Tot (ddl_parser_step.F (L,())) (Tl fun y=>Pt (n-1) y.2.2.2.2.2.1∧0<n):=by
  rw [ddl_parser_step.eq];unfold ddl_parser_step.B ddl_parser_step.b
  refine tot_bind.2 ((ptake_t _ (by simp) (by simp) h).mono fun y hy=>tot_cond.2 ⟨fun e=>tot_some.2 (hy.2 e),fun _=>?_⟩)
  refine tot_m _ (pnext_t hy.1) (fun y hy=>?_) fun _=>tlr
  refine tot_cond.2 ⟨fun _=>tot_some.2 ⟨hy.1,hy.2.1⟩,fun _=>?_⟩
  refine tot_j (fun _=>True) (tot_agI.2 (tot_il.2 trivial)) fun x _=>tot_cond.2 ⟨fun _=>tot_some.2 ⟨hy.1,hy.2.1⟩,fun _=>?_⟩
  refine tot_j (fun _=>True) (tot_agI.2 (tot_il.2 trivial)) fun x _=>tot_cond.2 ⟨fun _=>tot_some.2 ⟨hy.1,hy.2.1⟩,fun _=>?_⟩
  refine tot_bind.2 ((pcolumn_t _ hy.2.2).mono fun z _=>tot_m _ (pneed_t _) (fun _ _=>tot_some.2 ⟨hy.1,hy.2.1⟩) fun _=>tlr)
theorem pexprP_t (h:Pt n L):Tot (ddl_parser_expr.F (L,())) (Tl fun y=>Pt n y.1):=by
  rw [ddl_parser_expr.eq];unfold ddl_parser_expr.B
  have:=h.2.1
  refine tot_bind.2 ((ptake_t _ (by simp) (by simp) h).mono fun y hy=>tot_m _ (pneed_t _) (fun _ _=>?_) fun _=>tlr)
  refine tot_l (fun x=>x.2.1.length) (fun x=>Pt n x.2.1∧x.1.length≤100) ⟨hy.1,by simp⟩ ?_
  rintro ⟨e,o,_⟩ ⟨i1,i2⟩
  dsimp only at i1 i2 ⊢
  have:=i1.1
  refine tot_bind.2 ((ptake_t _ (by simp) (by simp) i1.own).mono fun z hz=>tot_cond.2 ⟨fun _=>?_,fun _=>tot_ir.2 (hz.1.le (by omega) (by omega))⟩)
  refine tot_m _ (pstep_t hz.1) (fun u hu=>?_) fun _=>tot_ir.2 trivial
  refine tot_ck.2 ⟨by simp;omega,tot_m _ (pneed_t _) (fun _ h6=>?_) fun _=>tot_ir.2 trivial⟩
  have:=hu.1.1
  refine tot_il.2 ⟨⟨hu.1.le (by omega) (by omega),by simp at h6 ⊢;omega⟩,by dsimp only;omega⟩
end Go.Proofs.Ytnhiifengimfgaa
end
