import Derived.Test.YtpoffnlnhdbpmaaGreatDoorTB
import Derived.Test.YtpoffnlnhdbpmaaGreatDoorT3
import Derived.Lib.ItoaLen
import Derived.Lib.AtoiAll
set_option linter.all false
set_option linter.unusedVariables false
set_option linter.unusedSimpArgs false
set_option linter.unusedSectionVars false
section
set_option maxRecDepth 100000
namespace Go.Proofs.Ytpoffnlnhdbpmaa
open Go Lv Go.Proofs Go.RowKit Go.Shelf
variable [Lk]
abbrev I64 (n:Int):Prop:=-9223372036854775808≤n∧n≤9223372036854775807
theorem pw (a b:Int) (s:ByteArray):Tot (dQ.F (a,b,s,())) fun _=>True:=by
 rw [dQ.eq];unfold dQ.B
 simp [jC]
theorem uA (n:Int) (l:List ByteArray) (h:∀x∈l,x.size≤20):Tot (fg.F (n,l,())) fun y=>y.1.size≤20:=by
 rw [fg.eq];unfold fg.B
 simp
 exact fun h1 h2=>⟨⟨h1,h2⟩,h _ (d9 h1 h2)⟩
theorem sU (n:Int) (h0:0≤n) (h:n<18446744073709551616):Tot (dT.F (n,())) fun y=>y.1.size≤20:=by
 rw [dT.eq];unfold dT.B
 refine aY (fun s=>0≤s.1∧s.1≤9∧s.2.1.size≤19) ?_ ?_
 ·refine dk (fun s=>s.1.toNat) (fun s=>0≤s.1∧∃k:Nat,k+s.2.1.size=19∧s.1<10^(k+1)) ⟨h0,19,rfl,by simp;omega⟩ ?_
  rintro ⟨x,t,_⟩ ⟨h1,k,h2,h3⟩
  have:x.tdiv 10=x/10:=Int.tdiv_eq_ediv_of_nonneg h1
  have:x.tmod 10=x%10:=Int.tmod_eq_emod_of_nonneg h1
  simp_all [ou]
  refine ⟨fun h=>?_,fun h=>by omega⟩
  cases k with
  |zero=>omega
  |succ k=>
   have:(10:Int)^(k+1+1)=10*10^(k+1):=by rw [Int.pow_succ];omega
   refine ⟨by omega,by omega,⟨by omega,k,by omega,by omega⟩,by omega⟩
 ·rintro ⟨x,t,_⟩ ⟨h1,h2,h3⟩
  simp [ou] at*
  omega
theorem jE (n:Int) (h:I64 n):Tot (de.F (n,())) fun y=>y.1.size≤21:=by
 obtain ⟨h,h2⟩:=h
 rw [de.eq];unfold de.B
 simp [ou,eo]
 refine ⟨fun h=>(sU _ ?_ ?_).mono fun y hy=>?_,fun h=>(sU _ ?_ ?_).mono fun y hy=>?_⟩<;>omega
theorem yJ (l:List ak) (h:l.length<1000000000000000):Tot (gI.F (l,())) fun y=>y.1=false→l.length≤120∧∀n∈l,n.2.2.2.2.size≤1000:=by
 rw [gI.eq];unfold gI.B
 refine aY (fun _=>∀n∈l,n.2.2.2.2.size≤1000) ?_ (fun _ hq=>by simp;exact fun h=>⟨by omega,fun _ _ _ _ s hn=>hq _ hn⟩)
 refine jd (l:=l) (fun n:ak=>n.2.2.2.2.size≤1000) (fun i hi=>?_) ?_
 ·simp [cD hi,eo,hi];omega
 ·simp
theorem AC (k n:Int) (s:ByteArray) (h:I64 n) (hs:s.size≤1000000):Tot (eD.F (k,n,s,())) fun y=>y.1.size≤2*s.size+30:=by
 rw [eD.eq];unfold eD.B
 simp
 refine fun _ _=>⟨fun _=>(jE n h).mono fun y hy=>by omega,fun _ _=>?_⟩
 refine aY (fun x=>x.1.size≤2*s.size+1) ?_ (by simp;omega)
 refine dk (fun x=>s.size-x.2.1.toNat) (fun x=>0≤x.2.1∧x.2.1≤(s.size:Int)∧(x.1.size:Int)≤2*x.2.1+1) (by simp) ?_
 rintro ⟨t,i,_⟩ ⟨h1,h2,h3⟩
 simp [eo] at*
 omega
def Nd (n:ak):Prop:=I64 n.2.1∧I64 n.2.2.2.1∧n.2.2.2.2.size≤1000
theorem AD (n:ak) (h:Nd n):Tot (ff.F ([n],())) fun y=>y.1.size≤2100:=by
 rw [ff.eq];unfold ff.B
 refine dk (fun x=>1-x.2.1.toNat) (fun x=>(x.2.1=0∧x.1.size=0)∨(x.2.1=1∧x.1.size≤2100)) (by simp) ?_
 rintro ⟨t,i,_⟩ h0
 rcases h0 with ⟨h1,h2⟩|⟨h1,h2⟩
 ·have h1:i=0:=h1
  have h2:t.size=0:=h2
  subst h1
  obtain ⟨op,k,a,b,s⟩:=n
  obtain ⟨g1,g2,g3⟩:=h
  simp at g1 g2 g3
  simp [jC,gt,eo]
  refine ⟨fun _=>(jE k g1).mono fun y hy=>by omega,fun _=>⟨fun _=>(AC a b s g2 (by omega)).mono fun y hy=>by omega,fun _=>⟨fun _=>by omega,fun h3=>⟨fun _=>by omega,fun h4=>?_⟩⟩⟩⟩
  have hm:∀z∈ [(⟨#[]⟩:ByteArray),⟨#[]⟩,⟨#[43]⟩,⟨#[45]⟩,⟨#[42]⟩,⟨#[61]⟩,⟨#[60]⟩,⟨#[97,110,100]⟩,⟨#[111,114]⟩,⟨#[110,111,116]⟩,⟨#[110,117,108,108,63]⟩],z.size≤5:=by simp
  have hg:=hm _ (d9 (xs:=[(⟨#[]⟩:ByteArray),⟨#[]⟩,⟨#[43]⟩,⟨#[45]⟩,⟨#[42]⟩,⟨#[61]⟩,⟨#[60]⟩,⟨#[97,110,100]⟩,⟨#[111,114]⟩,⟨#[110,111,116]⟩,⟨#[110,117,108,108,63]⟩]) (i:=op) (z:=⟨#[]⟩) h3 (by simp;omega))
  simp [gt] at hg
  omega
 ·simp at h1 h2
  subst h1
  simp
  exact h2
theorem Cs (n:ak) (h:Nd n):Tot (dp.F (n.1,n.2.1,n.2.2.1,n.2.2.2.1,n.2.2.2.2,())) fun y=>y.1.size≤2100:=by
 rw [dp.eq];unfold dp.B
 have h3:=AD n h
 simp
 refine fun _=>⟨fun _=>⟨fun _=>(pw _ _ _).mono fun y _=>?_,fun _=>h3⟩,fun _=>h3⟩
 exact fun _=>h3
def Ex (e:List ak):Prop:=e.length≤120∧∀n∈e,Nd n
theorem yK (e:List ak) (h:Ex e):Tot (dg.F (e,())) fun y=>y.1.size≤300000:=by
 rw [dg.eq];unfold dg.B
 obtain ⟨h,hn⟩:=h
 refine aY (fun x=>x.1.size≤2+2200*120) ?_ (by simp;omega)
 refine dk (fun x=>e.length-x.2.1.toNat) (fun x=>0≤x.2.1∧x.2.1≤(e.length:Int)∧(x.1.size:Int)≤2+2200*x.2.1) (by simp) ?_
 rintro ⟨t,i,_⟩ ⟨h1,h2,h3⟩
 simp at h1 h2 h3
 simp [eo]
 refine ⟨fun h4=>⟨⟨h1,h4⟩,(Cs _ (hn _ (d9 h1 h4))).mono fun y hy=>by omega⟩,by omega⟩
theorem vD (n f w:ByteArray) (a b:Int) (e:List ak) (pk:List Int) (g:Bool) (ag:List cU) (hn:n.size≤100) (hf:f.size≤100) (hw:w.size≤100) (ha:I64 a) (hb:I64 b) (he:Ex e)
 (hp:pk.length≤400) (hp2:∀x∈pk,I64 x) (hg:ag.length≤400) (hg2:∀x∈ag,I64 x.2):Tot (dq.F (n,f,w,a,b,e,pk,g,ag,())) fun y=>y.1.size≤1000000:=by
 rw [dq.eq];unfold dq.B
 refine ah.2 ⟨by simp;omega,ah.2 ⟨by simp;omega,ah.2 ⟨by simp;omega,?_⟩⟩⟩
 refine aY (fun s=>s.1.size≤1000) ?_ ?_
 ·simp
  refine ⟨fun _=>by omega,fun _=>⟨by omega,by omega,(jE a ha).mono fun y hy=>⟨by omega,by omega,(jE b hb).mono fun z hz=>by omega⟩⟩⟩
 rintro ⟨s1,_⟩ h1
 refine aY (fun s=>s.1.size≤301100) ?_ ?_
 ·simp at h1 ⊢
  refine ⟨fun _=>(yK e he).mono fun y hy=>by omega,fun _=>by omega⟩
 rintro ⟨s2,_⟩ h2
 simp at h2
 refine ah.2 ⟨by simp;omega,?_⟩
 refine aY (fun s=>s.1.size≤320000) ?_ ?_
 ·refine dk (fun x=>pk.length-x.2.1.toNat) (fun x=>0≤x.2.1∧x.2.1≤(pk.length:Int)∧(x.1.size:Int)≤301200+30*x.2.1) (by simp;omega) ?_
  rintro ⟨t,i,_⟩ ⟨i1,i2,i3⟩
  simp at i1 i2 i3
  simp [eo]
  refine ⟨fun h4=>⟨fun _=>⟨by omega,⟨i1,h4⟩,(jE _ (hp2 _ (d9 i1 h4))).mono fun y hy=>by omega⟩,fun _=>⟨⟨i1,h4⟩,(jE _ (hp2 _ (d9 i1 h4))).mono fun y hy=>by omega⟩⟩,by omega⟩
 rintro ⟨s3,_⟩ h3
 simp at h3
 refine aY (fun s=>s.1.size≤320010) ?_ ?_
 ·simp;exact ⟨fun _=>by omega,fun _=>by omega⟩
 rintro ⟨s4,_⟩ h4
 simp at h4
 refine dk (fun x=>ag.length-x.2.1.toNat) (fun x=>0≤x.2.1∧x.2.1≤(ag.length:Int)∧(x.1.size:Int)≤320010+60*x.2.1) (by simp;omega) ?_
 rintro ⟨t,i,_⟩ ⟨i1,i2,i3⟩
 simp at i1 i2 i3
 refine ac.2 ⟨fun h5=>?_,fun h5=>by simp at h5 ⊢;omega⟩
 simp at h5
 have hs:=hg2 _ (d9 (z:=ep.z) i1 h5)
 refine aY (fun s=>(s.1.size:Int)≤320020+60*i) (by simp;omega) ?_
 rintro ⟨u,_⟩ h6
 simp at h6
 simp [eo]
 refine ⟨⟨i1,h5⟩,(uA _ _ (by simp)).mono fun y hy=>⟨by omega,by omega,⟨i1,h5⟩,fun _=>⟨⟨i1,h5⟩,(jE _ hs).mono fun z hz=>by omega⟩,fun _=>by omega⟩⟩
theorem sV (n:ByteArray) (cs:List aB) (es:List (List ak)) (hn:n.size≤100) (hc:cs.length≤400) (hc2:∀c∈cs,c.1.size≤100∧c.2.2.2.2.1.size≤100) (he:es.length≤400) (he2:∀e∈es,Ex e):
 Tot (cQ.F (n,cs,es,())) fun y=>y.1.size≤1000000000:=by
 rw [cQ.eq];unfold cQ.B
 refine ah.2 ⟨by simp;omega,ah.2 ⟨by simp;omega,?_⟩⟩
 refine aY (fun s=>s.1.size≤1000000) ?_ ?_
 ·refine dk (fun x=>cs.length-x.2.1.toNat) (fun x=>0≤x.2.1∧x.2.1≤(cs.length:Int)∧(x.1.size:Int)≤1000+400*x.2.1) (by simp;omega) ?_
  rintro ⟨t,i,_⟩ ⟨i1,i2,i3⟩
  simp at i1 i2 i3
  refine ac.2 ⟨fun h5=>?_,fun h5=>by simp at h5 ⊢;omega⟩
  simp at h5
  obtain ⟨g1,g2⟩:=hc2 _ (d9 (z:=aV.z) i1 h5)
  refine ah.2 ⟨by simp;omega,?_⟩
  refine aY (fun s=>(s.1.size:Int)≤1002+400*i) (by simp;omega) ?_
  rintro ⟨u,_⟩ h6
  simp at h6
  refine ah.2 ⟨by simp;omega,ah.2 ⟨by simp;omega,?_⟩⟩
  refine af.2 ((uA _ _ (by simp)).mono fun y hy=>?_)
  refine ah.2 ⟨by simp;omega,ah.2 ⟨by simp;omega,?_⟩⟩
  refine aY (fun s=>(s.1.size:Int)≤1140+400*i) (by simp;exact ⟨fun _=>by omega,fun _=>by omega⟩) ?_
  rintro ⟨u2,_⟩ h7
  simp at h7
  refine aY (fun s=>(s.1.size:Int)≤1150+400*i) (by simp;exact ⟨fun _=>by omega,fun _=>by omega⟩) ?_
  rintro ⟨u3,_⟩ h8
  simp at h8
  simp [eo]
  refine ⟨fun _=>by omega,fun _=>⟨by omega,by omega,(uA _ _ (by simp)).mono fun z hz=>by omega⟩⟩
 rintro ⟨s1,_⟩ h1
 simp at h1
 refine ah.2 ⟨by simp;omega,?_⟩
 refine dk (fun x=>es.length-x.2.1.toNat) (fun x=>0≤x.2.1∧x.2.1≤(es.length:Int)∧(x.1.size:Int)≤1000100+301000*x.2.1) (by simp;omega) ?_
 rintro ⟨t,i,_⟩ ⟨i1,i2,i3⟩
 simp at i1 i2 i3
 simp [eo]
 refine ⟨fun h5=>⟨⟨i1,h5⟩,(yK _ (he2 _ (d9 i1 h5))).mono fun y hy=>by omega⟩,by omega⟩
@[simp] theorem px (c : Int) : eu.F (c,()) = some (decide (97 ≤ c) && decide (c ≤ 122),()) := by
 rw [eu.eq];unfold eu.B
 by_cases h:97≤c<;>simp [h]
@[simp] theorem AE (c : Int) : eR.F (c,()) = some (decide (48 ≤ c) && decide (c ≤ 57),()) := by
 rw [eR.eq];unfold eR.B
 by_cases h:48≤c<;>simp [h]
theorem vF (c:Int):Tot (eI.F (c,())) fun _=>True:=by
 rw [eI.eq];unfold eI.B
 simp
theorem Ct (c:Int):Tot (fP.F (c,())) fun _=>True:=by
 rw [fP.eq];unfold fP.B
 refine ic 11 fun i h0 h1=>?_
 simp [eo];omega
theorem yL (s:ByteArray) (h:s.size<1000000000000000):Tot (fm.F (s,())) fun _=>True:=by
 rw [fm.eq];unfold fm.B
 refine aY (fun _=>True) (ic s.size fun i h0 h1=>?_) ?_
 ·simp [eo]
  exact fun h2=>⟨⟨h0,h2⟩,(vF _).mono fun _ _ _=>by omega⟩
 ·simp;omega
@[simp] theorem sW (n : Int) : d8.F (n,()) = some (2,n,⟨#[]⟩,()) := by
 rw [d8.eq];rfl
@[simp] theorem nh (a b : Int) (s : ByteArray) (c d : Int) (t : ByteArray) : eS.F (a,b,s,c,d,t,()) = some (a == 0 || c == 0,()) := by
 rw [eS.eq];unfold eS.B
 cases h:(a==0)<;>simp [h]
@[simp] theorem uB (a b : Int) (s : ByteArray) (c d : Int) (t : ByteArray) : fQ.F (a,b,s,c,d,t,()) = some (a == 2 && c == 2,()) := by
 rw [fQ.eq];unfold fQ.B
 cases h:(a==2)<;>simp [h]
@[simp] theorem qZ : ez.F () = some (-9223372036854775808,()) := by rw [ez.eq]; rfl
@[simp] theorem uC : gi.F () = some (9223372036854775807,()) := by rw [gi.eq]; rfl
@[simp] theorem jU (b : Bool) : cY.F (b,()) = some (1,(bif b then 1 else 0),⟨#[]⟩,()) := by
 rw [cY.eq];unfold cY.B
 cases b<;>rfl
theorem BM (a b:Int) (s:ByteArray) (c d:Int) (t:ByteArray):Tot (fB.F (a,b,s,c,d,t,())) fun _=>True:=by
 rw [fB.eq];unfold fB.B
 simp [jC]
 grind
theorem yM (a b:Int) (s:ByteArray) (c d:Int) (t:ByteArray):Tot (fC.F (a,b,s,c,d,t,())) fun y=>I64 y.2.1:=by
 rw [fC.eq];unfold fC.B
 simp [jC,eo]
 grind
theorem BN (a b:Int) (s:ByteArray) (c d:Int) (t:ByteArray):Tot (fD.F (a,b,s,c,d,t,())) fun y=>I64 y.2.1:=by
 rw [fD.eq];unfold fD.B
 simp [jC,eo]
 grind
theorem yN (s:ByteArray) (h:0<s.size) (h2:s.size<1000000000000000):Tot (dD.F (s,())) fun _=>True:=by
 rw [dD.eq];unfold dD.B
 refine ah.2 ⟨by simp;omega,?_⟩
 refine aY (fun x=>I64 x.2.2.1) ?_ ?_
 ·refine dk (fun x=>s.size-x.2.1.toNat) (fun x=>0≤x.2.1∧x.2.1≤(s.size:Int)∧I64 x.2.2.2.1) (by simp [I64]) ?_
  rintro ⟨ok,i,a,b,t,_⟩ ⟨i1,i2,i3⟩
  simp at i1 i2 i3
  refine ac.2 ⟨fun h5=>?_,fun h5=>by simp;exact i3⟩
  simp at h5
  refine aY (fun x=>I64 x.2.2.1) ?_ (by rintro ⟨o,c,d,u,_⟩ h6;simp at h6;simp [eo];omega)
  simp
  refine ⟨⟨i1,h5⟩,fun _=>i3,fun _=>⟨⟨i1,h5⟩,(BM _ _ _ _ _ _).mono fun y _=>(yM _ _ _ _ _ _).mono fun z hz=>⟨fun _=>(BN _ _ _ _ _ _).mono fun u hu=>?_,fun _=>?_⟩⟩⟩
  ·exact ⟨fun _=>⟨fun _=>hu,fun _=>hu⟩,fun _=>hu⟩
  ·exact ⟨fun _=>⟨fun _=>hz,fun _=>hz⟩,fun _=>hz⟩
 ·rintro ⟨ok,a,b,t,_⟩ h3
  simp at h3
  simp
  exact fun _=>(jE _ h3).mono fun _ _=>trivial
theorem AF (s:ByteArray) (i:Int) (h0:0≤i) (h:i<(s.size:Int)) (h2:s.size≤20000):Tot (fF.F (s,i,())) fun y=>y.2.2.1=true→i<y.2.1∧y.2.1≤(s.size:Int):=by
 rw [fF.eq];unfold fF.B
 refine dk (fun x=>s.size+1-x.2.1.toNat) (fun x=>i+1≤x.2.1∧x.2.1≤(s.size:Int)+1∧(x.1.size:Int)≤x.2.1) (by simp [eo];omega) ?_
 rintro ⟨t,j,_⟩ ⟨i1,i2,i3⟩
 simp at i1 i2 i3
 simp [eo]
 omega
theorem lex_t (s : ByteArray) : Tot (gg.F (s,())) fun y => y.2.1.length ≤ 20000 ∧ ∀ t ∈ y.2.1,t.2.1.size ≤ 20000 := by
  rw [gg.eq];unfold gg.B
  refine ac.2 ⟨fun _=>by simp,fun h=>?_⟩
  simp at h
  refine dk (fun x=>s.size-x.1.toNat) (fun x=>0≤x.1∧x.1≤(s.size:Int)∧(x.2.1.length:Int)≤x.1∧∀t∈x.2.1,t.2.1.size≤20000) (by simp) ?_
  rintro ⟨i,l,_⟩ ⟨i1,i2,i3,i4⟩
  dsimp only at i1 i2 i3 i4 ⊢
  refine ac.2 ⟨fun h5=>?_,fun h5=>by simp only [aH];exact ⟨by omega,i4⟩⟩
  simp at h5
  have hw:wr (i+1)=i+1:=bB (by omega) (by omega)
  refine ah.2 ⟨by simp;omega,ah.2 ⟨by simp [hw];omega,af.2 ((Ct _).mono fun y4 _=>?_)⟩⟩
  refine ac.2 ⟨fun _=>by simp only [hw,av];exact ⟨⟨by omega,by omega,by omega,i4⟩,by omega⟩,fun _=>?_⟩
  refine aY (fun x=>(x.2.1=true→i<x.1∧x.1≤(s.size:Int))∧x.2.2.2.1.size≤20000) ?_ ?_
  · simp only [px,Qa]
    refine ac.2 ⟨fun _=>?_,fun _=>?_⟩
    · refine aY (fun x=>i<x.1∧x.1≤(s.size:Int)) ?_ ?_
      · refine dk (fun x=>s.size-x.1.toNat) (fun x=>i<x.1∧x.1≤(s.size:Int)) (by simp [hw];omega) ?_
        rintro ⟨j,_⟩ ⟨j1,j2⟩
        simp at j1 j2
        simp [eo]
        refine ⟨fun h6=>⟨by omega,(vF _).mono fun _ _=>by omega⟩,by omega⟩
      · rintro ⟨j,_⟩ ⟨j1,j2⟩
        simp at j1 j2
        simp
        refine ⟨by omega,(yL _ (by simp;omega)).mono fun _ _=>⟨by omega,by omega⟩⟩
    · refine aY (fun _=>True) (by simp [hw];omega) ?_
      rintro ⟨b,_⟩ _
      refine ac.2 ⟨fun _=>?_,fun _=>ac.2 ⟨fun _=>?_,fun _=>by simp [hw];omega⟩⟩
      · refine aY (fun x=>i<x.1∧x.1≤(s.size:Int)) ?_ ?_
        · refine dk (fun x=>s.size-x.1.toNat) (fun x=>i<x.1∧x.1≤(s.size:Int)) (by simp [hw];omega) ?_
          rintro ⟨j,_⟩ ⟨j1,j2⟩
          simp at j1 j2
          simp [eo]
          omega
        · rintro ⟨j,_⟩ ⟨j1,j2⟩
          simp at j1 j2
          simp
          refine ⟨by omega,(yN _ (by simp;omega) (by simp;omega)).mono fun _ _=>by omega⟩
      · refine af.2 ((AF s i i1 h5 (by omega)).mono fun y hy=>?_)
        simp
        exact hy
  · rintro ⟨j,ok,a,t,b,c,u,_⟩ ⟨h6,h7⟩
    dsimp only at h6 h7 ⊢
    cases ok with
    |false=>simp
    |true=>
      have h6:=h6 rfl
      refine ac.2 ⟨fun h=>(by cases h),fun _=>ah.2 ⟨by simp;omega,?_⟩⟩
      simp only [av]
      refine ⟨⟨by omega,by omega,by simp;omega,fun x hx=>?_⟩,by omega⟩
      rcases List.mem_append.1 hx with hx|hx
      · exact i4 x hx
      · cases List.mem_singleton.1 hx;exact h7
def Ps (G:Prop) (n:Int) (L:List aX) (a:Int) (ok:Bool):Prop:=0≤a∧a≤(L.length:Int)∧(L.length:Int)-a≤n∧L.length≤20000∧(∀t∈L,t.2.1.size≤20000)∧(ok=true→G)
theorem Ps.le {G:Prop} {n m:Int} {L:List aX} {a:Int} {ok:Bool} (h:Ps G n L a ok) (hm:n≤m):Ps G m L a ok:=⟨h.1,h.2.1,by have:=h.2.2.1;omega,h.2.2.2⟩
theorem Ps.own {G:Prop} {n:Int} {L:List aX} {a:Int} {ok:Bool} (h:Ps G n L a ok):Ps G ((L.length:Int)-a) L a ok:=⟨h.1,h.2.1,by omega,h.2.2.2⟩
theorem Ps.f {G H:Prop} {n:Int} {L:List aX} {a:Int} {ok:Bool} (h:Ps G n L a ok):Ps H n L a false:=⟨h.1,h.2.1,h.2.2.1,h.2.2.2.1,h.2.2.2.2.1,fun h=>by cases h⟩
theorem Ps.to {G H:Prop} {n:Int} {L:List aX} {a:Int} {ok:Bool} (h:Ps G n L a ok) (k:ok=true→G→H):Ps H n L a ok:=⟨h.1,h.2.1,h.2.2.1,h.2.2.2.1,h.2.2.2.2.1,fun e=>k e (h.2.2.2.2.2 e)⟩
theorem is_t {G:Prop} {n:Int} {L:List aX} {a:Int} (p:ByteArray) (ok:Bool) (h:Ps G n L a ok):Tot (cH.F (p,L,a,ok,())) fun y=>Ps G n y.2.1 y.2.2.1 y.2.2.2.1∧(y.1=true→y.2.2.1<(y.2.1.length:Int)):=by
 rw [cH.eq];unfold cH.B
 have h1:=h.1
 simp
 exact ⟨fun h2=>⟨⟨h1,h2⟩,fun _=>⟨⟨h1,h2⟩,h,fun _=>h2⟩,fun _=>h⟩,fun _=>h⟩
theorem iO {G:Prop} {n:Int} {L:List aX} {a:Int} (p:ByteArray) (ok:Bool) (h:Ps G n L a ok):Tot (aR.F (p,L,a,ok,())) fun y=>Ps G n y.2.1 y.2.2.1 y.2.2.2.1∧(y.1=true→Ps G (n-1) y.2.1 y.2.2.1 y.2.2.2.1):=by
 rw [aR.eq];unfold aR.B
 refine af.2 ((is_t p ok h).mono ?_)
 rintro ⟨b,L1,a1,o1,_⟩ ⟨h1,h2⟩
 dsimp only at h1 h2 ⊢
 cases b with
 |false=>simpa using h1
 |true=>
  have h2:=h2 rfl
  obtain ⟨g1,g2,g3,g4⟩:=h1
  have hw:wr (a1+1)=a1+1:=bB (by omega) (by omega)
  simp only [Qc,ai,hw]
  exact ⟨⟨by omega,by omega,by omega,g4⟩,fun _=>⟨by omega,by omega,by omega,g4⟩⟩
theorem vG {G:Prop} {n:Int} {L:List aX} {a:Int} (l:List ByteArray) (hl:l.length≤100) (ok:Bool) (h:Ps G n L a ok):Tot (cq.F (l,L,a,ok,())) fun y=>Ps G n y.2.1 y.2.2.1 y.2.2.2.1∧0≤y.1∧y.1≤100∧(y.1=0∨y.1<(l.length:Int)):=by
 rw [cq.eq];unfold cq.B
 refine aY (fun x=>Ps G n x.1 x.2.1 x.2.2.1) ?_ (by rintro ⟨L1,a1,o1,_⟩ h1;simp;exact h1.f)
 refine dk (fun x=>l.length-x.1.toNat) (fun x=>0≤x.1∧x.1≤(l.length:Int)∧Ps G n x.2.1 x.2.2.1 x.2.2.2.1) ⟨by simp,by simp,h⟩ ?_
 rintro ⟨i,L1,a1,o1,_⟩ ⟨i1,i2,i3⟩
 dsimp only at i1 i2 i3 ⊢
 refine ac.2 ⟨fun h5=>?_,fun h5=>by simp;exact i3⟩
 simp at h5
 refine ah.2 ⟨by simp;omega,af.2 ((iO _ o1 i3).mono ?_)⟩
 rintro ⟨b,L2,a2,o2,_⟩ ⟨h1,h2⟩
 dsimp only at h1 h2 ⊢
 have hw:wr (i+1)=i+1:=bB (by omega) (by omega)
 cases b with
 |true=>simp;exact ⟨h1,i1,by omega,by omega⟩
 |false=>simp [hw];exact ⟨⟨by omega,by omega,h1⟩,by omega⟩
theorem uD {G:Prop} {n:Int} {L:List aX} {a:Int} (ok:Bool) (h:Ps G n L a ok):Tot (bC.F (L,a,ok,())) fun y=>Ps G n y.2.2.2.2.2.1 y.2.2.2.2.2.2.1 y.2.2.2.2.2.2.2.1∧y.2.1.size≤20000:=by
 rw [bC.eq];unfold bC.B
 obtain ⟨g1,g2,g3,g4⟩:=h
 refine ac.2 ⟨fun _=>by simp;exact ⟨g1,g2,g3,g4.1,g4.2.1,by simp⟩,fun h5=>?_⟩
 simp at h5
 have hw:wr (a+1)=a+1:=bB (by omega) (by omega)
 have hw2:wr (a+1-1)=a:=by rw [bB]<;>omega
 simp only [hw,hw2]
 refine ah.2 ⟨by simp;omega,?_⟩
 simp only [ai]
 exact ⟨⟨by omega,by omega,by omega,g4⟩,g4.2.1 _ (d9 g1 (by omega))⟩
theorem xe (s:ByteArray):Tot (dG.F (s,())) fun _=>True:=by
 rw [dG.eq];unfold dG.B
 refine ic 27 fun i h0 h1=>?_
 simp [eo];omega
theorem AG (s:ByteArray) (h:s.size<1000000000000000):Tot (fG.F (s,())) fun _=>True:=by
 rw [fG.eq];unfold fG.B
 refine af.2 ((yL _ h).mono fun y _=>?_)
 simp
 exact fun _=>xe _
variable {G:Prop} {n:Int} {L:List aX} {a:Int}
theorem nT (ok:Bool) (h:Ps G n L a ok):Tot (bV.F (L,a,ok,())) fun y=>Ps G n y.2.1 y.2.2.1 y.2.2.2.1:=by
 rw [bV.eq];unfold bV.B
 refine af.2 ((uD ok h).mono ?_)
 rintro ⟨k,t,b,c,s,L1,a1,o1,_⟩ ⟨h1,h2⟩
 dsimp only at h1 h2 ⊢
 refine ac.2 ⟨fun _=>by simp;first|exact h1|exact h1.f,fun _=>af.2 ((AG t (by omega)).mono fun y _=>?_)⟩
 exact ac.2 ⟨fun _=>by simp;first|exact h1|exact h1.f,fun _=>by simp;first|exact h1|exact h1.f⟩
theorem mK (p:ByteArray) (ok:Bool) (h:Ps G n L a ok):Tot (bP.F (p,L,a,ok,())) fun y=>Ps G n y.1 y.2.1 y.2.2.1:=by
 rw [bP.eq];unfold bP.B
 refine af.2 ((iO p ok h).mono ?_)
 rintro ⟨b,L1,a1,o1,_⟩ ⟨h1,_⟩
 dsimp only at h1 ⊢
 exact ac.2 ⟨fun _=>by simp;first|exact h1|exact h1.f,fun _=>by simp;first|exact h1|exact h1.f⟩
theorem sX (ok:Bool) (h:Ps G n L a ok):Tot (ci.F (L,a,ok,())) fun y=>Ps (G∧0≤y.1∧y.1≤99) n y.2.1 y.2.2.1 y.2.2.2.1:=by
 rw [ci.eq];unfold ci.B
 refine af.2 ((uD ok h).mono ?_)
 rintro ⟨k,t,b,c,s,L1,a1,o1,_⟩ ⟨h1,_⟩
 dsimp only at h1 ⊢
 refine aY (fun x=>x.1=false→0≤c∧c≤99) ?_ fun x hx=>?_
 ·refine ac.2 ⟨fun _=>by simp,fun _=>ac.2 ⟨fun _=>by simp,fun _=>ac.2 ⟨fun _=>by simp,fun h3=>?_⟩⟩⟩
  simp at h3
  simp [h3]
 ·exact ac.2 ⟨fun _=>by simp only [ai];exact h1.f,fun e=>by simp only [ai];exact h1.to fun _ g=>⟨g,hx e⟩⟩
theorem AH (ok:Bool) (h:Ps G n L a ok):Tot (ct.F (L,a,ok,())) fun y=>Ps G n y.2.2.2.2.2.1 y.2.2.2.2.2.2.1 y.2.2.2.2.2.2.2.1:=by
 rw [ct.eq];unfold ct.B
 refine af.2 ((iO _ ok h).mono ?_)
 rintro ⟨b,L1,a1,o1,_⟩ ⟨h1,_⟩
 dsimp only at h1 ⊢
 refine ac.2 ⟨fun _=>af.2 ((iO _ o1 h1).mono ?_),fun _=>af.2 ((iO _ o1 h1).mono ?_)⟩
 ·rintro ⟨b,L2,a2,o2,_⟩ ⟨h2,_⟩
  exact ac.2 ⟨fun _=>by simp;first|exact h2|exact h2.f,fun _=>by simp;first|exact h2|exact h2.f⟩
 rintro ⟨b,L2,a2,o2,_⟩ ⟨h2,_⟩
 dsimp only at h2 ⊢
 refine ac.2 ⟨fun _=>by simp;first|exact h2|exact h2.f,fun _=>af.2 ((iO _ o2 h2).mono ?_)⟩
 rintro ⟨b,L3,a3,o3,_⟩ ⟨h3,_⟩
 dsimp only at h3 ⊢
 refine ac.2 ⟨fun _=>by simp;first|exact h3|exact h3.f,fun _=>?_⟩
 refine aY (fun x=>Ps G n x.1 x.2.1 x.2.2.1) ?_ ?_
 ·refine dk (fun x=>8-x.1.toNat) (fun x=>0≤x.1∧x.1≤8∧Ps G n x.2.1 x.2.2.1 x.2.2.2.1) ⟨by simp,by simp,h3⟩ ?_
  rintro ⟨i,L4,a4,o4,_⟩ ⟨i1,i2,i3⟩
  dsimp only at i1 i2 i3 ⊢
  refine ac.2 ⟨fun h5=>?_,fun _=>by simpa using i3⟩
  simp at h5
  refine ah.2 ⟨by simp;omega,af.2 ((iO _ o4 i3).mono ?_)⟩
  rintro ⟨b,L5,a5,o5,_⟩ ⟨h6,_⟩
  dsimp only at h6 ⊢
  have hw:wr (i+1)=i+1:=bB (by omega) (by omega)
  refine ac.2 ⟨fun _=>by simp;first|exact h6|exact h6.f,fun _=>?_⟩
  simp only [hw,av]
  exact ⟨⟨by omega,by omega,h6⟩,by omega⟩
 rintro ⟨L4,a4,o4,_⟩ h4
 refine af.2 ((uD o4 h4).mono ?_)
 rintro ⟨k,t,b,c,s,L5,a5,o5,_⟩ ⟨h5,_⟩
 dsimp only at h5 ⊢
 refine ac.2 ⟨fun _=>by simp;first|exact h5|exact h5.f,fun _=>?_⟩
 refine aY (fun _=>True) ?_ fun _ _=>by simp;first|exact h5|exact h5.f
 refine ic 100 fun i h0 h1=>?_
 refine ac.2 ⟨fun h6=>?_,fun _=>by simp⟩
 simp at h6
 have hw:wr (i+1)=i+1:=bB (by omega) (by omega)
 refine ac.2 ⟨fun _=>af.2 ((jE i ⟨by omega,by omega⟩).mono fun y hy=>ah.2 ⟨by simp;omega,?_⟩),fun _=>by simp [hw];omega⟩
 refine ac.2 ⟨fun _=>by simp;first|exact h5|exact h5.f,fun _=>by simp [hw];omega⟩
theorem vI (ok:Bool) (h:Ps G n L a ok):Tot (cf.F (L,a,ok,())) fun y=>Ps G n y.1 y.2.1 y.2.2.1∧y.2.2.2.1.length≤101:=by
 rw [cf.eq];unfold cf.B
 refine af.2 ((mK _ ok h).mono ?_)
 rintro ⟨L1,a1,o1,_⟩ h1
 dsimp only at h1 ⊢
 refine dk (fun x=>102-x.1.length) (fun x=>x.1.length≤101∧(x.2.2.2.1=true→x.1.length≤100)∧Ps G n x.2.1 x.2.2.1 x.2.2.2.1) ⟨by simp,by simp,h1⟩ ?_
 rintro ⟨l,L2,a2,o2,_⟩ ⟨i1,i2,i3⟩
 dsimp only at i1 i2 i3 ⊢
 refine ac.2 ⟨fun h5=>af.2 ((iO _ o2 i3).mono ?_),fun _=>by simp;exact ⟨i3,i1⟩⟩
 rintro ⟨b,L3,a3,o3,_⟩ ⟨h3,_⟩
 dsimp only at h3 ⊢
 have i2:=i2 h5
 refine ac.2 ⟨fun _=>af.2 ((AH o3 h3).mono ?_),fun _=>by simp;exact ⟨h3,i1⟩⟩
 rintro ⟨p,q,r,s,t,L4,a4,o4,_⟩ h4
 dsimp only at h4 ⊢
 refine ah.2 ⟨by simp;omega,ac.2 ⟨fun _=>?_,fun h6=>?_⟩⟩
 ·simp only [av,List.length_append,List.length_singleton]
  exact ⟨⟨by omega,by simp,h4.f⟩,by omega⟩
 ·simp at h6
  simp only [av,List.length_append,List.length_singleton]
  exact ⟨⟨by omega,fun _=>by omega,h4⟩,by omega⟩
theorem sY (ok:Bool) (h:Ps G n L a ok):Tot (bQ.F (L,a,ok,())) fun y=>Ps G n y.2.2.2.2.2.2.1 y.2.2.2.2.2.2.2.1 y.2.2.2.2.2.2.2.2.1:=by
 rw [bQ.eq];unfold bQ.B
 refine af.2 ((nT ok h).mono ?_)
 rintro ⟨s1,L1,a1,o1,_⟩ h1
 refine af.2 ((vG _ (by simp) o1 h1).mono ?_)
 rintro ⟨s2,L2,a2,o2,_⟩ ⟨h2,_⟩
 refine af.2 ((iO _ o2 h2).mono ?_)
 rintro ⟨s3,L3,a3,o3,_⟩ ⟨h3,_⟩
 refine af.2 ((iO _ o3 h3).mono ?_)
 rintro ⟨s4,L4,a4,o4,_⟩ ⟨h4,_⟩
 refine af.2 ((iO _ o4 h4).mono ?_)
 rintro ⟨s5,L5,a5,o5,_⟩ ⟨h5,_⟩
 dsimp only at h5 ⊢
 refine ac.2 ⟨fun _=>af.2 ((nT o5 h5).mono ?_),fun _=>by simp;first|exact h5|exact h5.f⟩
 rintro ⟨s6,L6,a6,o6,_⟩ h6
 refine af.2 ((vG _ (by simp) o6 h6).mono ?_)
 rintro ⟨s7,L7,a7,o7,_⟩ ⟨h7,_⟩
 simpa using h7
theorem BO (ok:Bool) (h:Ps G n L a ok):Tot (cz.F (L,a,ok,())) fun y=>Ps (G∧0≤y.2.1∧y.1≤3) n y.2.2.1 y.2.2.2.1 y.2.2.2.2.1:=by
 rw [cz.eq];unfold cz.B
 refine af.2 ((vG _ (by simp) ok h).mono ?_)
 rintro ⟨s1,L1,a1,o1,_⟩ ⟨h1,_,_,hk⟩
 simp at hk
 dsimp only at h1 hk ⊢
 refine ac.2 ⟨fun _=>af.2 ((sX o1 h1).mono ?_),fun _=>by simp only [ai];exact h1.to fun _ g=>⟨g,by omega,by omega⟩⟩
 rintro ⟨s2,L2,a2,o2,_⟩ h2
 simp only [ai]
 exact h2.to fun _ g=>⟨g.1,g.2.1,by omega⟩
end Go.Proofs.Ytpoffnlnhdbpmaa
end
section
set_option maxRecDepth 100000
namespace Go.Proofs.Ytpoffnlnhdbpmaa
open Go Lv Go.Proofs Go.RowKit Go.Shelf
variable [Lk]
variable {G:Prop} {n:Int} {L:List aX} {a:Int}
theorem Ps.lt {L1:List aX} {a1:Int} {o:Bool} (h:Ps G ((L.length:Int)-a-1) L1 a1 o):((L1.length:Int)-a1).toNat<((L.length:Int)-a).toNat∧(L1.length:Int)-a1+1≤(L.length:Int)-a:=by
 obtain ⟨h1,h2,h3,h4⟩:=h
 omega
theorem yO (ok:Bool) (h:Ps G n L a ok):Tot (b8.F (L,a,ok,())) fun y=>Ps G n y.2.1 y.2.2.1 y.2.2.2.1∧1≤y.2.2.2.2.1.length:=by
 rw [b8.eq];unfold b8.B
 refine af.2 ((nT ok h).mono ?_)
 rintro ⟨s1,L1,a1,o1,_⟩ h1
 refine af.2 ((mK _ o1 h1).mono ?_)
 rintro ⟨L2,a2,o2,_⟩ h2
 refine af.2 ((sY o2 h2).mono ?_)
 rintro ⟨c1,c2,c3,c4,c5,c6,L3,a3,o3,_⟩ h3
 dsimp only at h3 ⊢
 have g3:=h3.2.2.2.1
 have g4:=h3.1
 refine ah.2 ⟨by simp,?_⟩
 refine aY (fun x=>Ps G n x.1 x.2.1 x.2.2.1∧x.2.2.2.2.2.1.length=0∧1≤x.2.2.2.2.1.length) ?_ ?_
 ·refine dk (fun x=>((x.1.length:Int)-x.2.1).toNat) (fun x=>Ps G n x.1 x.2.1 x.2.2.1∧(x.2.2.2.2.1.length:Int)+((x.1.length:Int)-x.2.1)≤20001∧x.2.2.2.2.2.1.length=0∧1≤x.2.2.2.2.1.length) ⟨h3,by simp;omega,by simp,by simp⟩ ?_
  rintro ⟨L4,a4,o4,s4,cs,es,_⟩ ⟨i1,i2,i3⟩
  dsimp only at i1 i2 i3 ⊢
  refine ac.2 ⟨fun _=>af.2 ((iO _ o4 i1.own).mono ?_),fun _=>by simp only [aH];exact ⟨i1,i3⟩⟩
  rintro ⟨b,L5,a5,o5,_⟩ ⟨h5,h6⟩
  dsimp only at h5 h6 ⊢
  refine ac.2 ⟨fun hb=>af.2 ((sY o5 (h6 hb)).mono ?_),fun _=>by simp only [aH];exact ⟨h5.le i1.2.2.1,i3⟩⟩
  rintro ⟨c1,c2,c3,c4,c5,c6,L6,a6,o6,_⟩ h7
  dsimp only at h7 ⊢
  obtain ⟨l1,l2⟩:=h7.lt
  have:=i1.2.2.1
  refine ah.2 ⟨by simp;have:=h7.2.1;omega,?_⟩
  simp only [av,List.length_append,List.length_singleton]
  exact ⟨⟨h7.le (by omega),by omega,i3.1,by omega⟩,l1⟩
 rintro ⟨L4,a4,o4,s4,cs,es,_⟩ ⟨h4,h5,hc⟩
 refine af.2 ((mK _ o4 h4).mono ?_)
 rintro ⟨L5,a5,o5,_⟩ h6
 dsimp only at h5 h6 hc ⊢
 have g5:=h6.2.2.2.1
 have g6:=h6.1
 refine aY (fun x=>Ps G n x.1 x.2.1 x.2.2.1∧1≤x.2.2.2.2.1.length) ?_ ?_
 ·refine dk (fun x=>((x.1.length:Int)-x.2.1).toNat) (fun x=>Ps G n x.1 x.2.1 x.2.2.1∧(x.2.2.2.2.2.1.length:Int)+((x.1.length:Int)-x.2.1)≤20001∧1≤x.2.2.2.2.1.length) ⟨h6,by simp only;omega,hc⟩ ?_
  rintro ⟨L6,a6,o6,s6,cs,es,_⟩ ⟨i1,i2,i3⟩
  dsimp only at i1 i2 i3 ⊢
  refine ac.2 ⟨fun _=>af.2 ((iO _ o6 i1.own).mono ?_),fun _=>by simp only [aH];exact ⟨i1,i3⟩⟩
  rintro ⟨b,L7,a7,o7,_⟩ ⟨h7,h8⟩
  dsimp only at h7 h8 ⊢
  refine ac.2 ⟨fun hb=>af.2 ((vI o7 (h8 hb)).mono ?_),fun _=>by simp only [aH];exact ⟨h7.le i1.2.2.1,i3⟩⟩
  rintro ⟨L8,a8,o8,e,_⟩ ⟨h9,_⟩
  dsimp only at h9 ⊢
  obtain ⟨l1,l2⟩:=h9.lt
  have:=i1.2.2.1
  refine ah.2 ⟨by simp;have:=h9.2.1;omega,?_⟩
  simp only [av,List.length_append,List.length_singleton]
  exact ⟨⟨h9.le (by omega),by omega,i3⟩,l1⟩
 rintro ⟨L6,a6,o6,s6,cs,es,_⟩ ⟨h7,h8⟩
 dsimp only at h7 h8 ⊢
 exact ac.2 ⟨fun _=>by simp only [ai];exact ⟨h7.f,h8⟩,fun _=>ac.2 ⟨fun _=>by simp only [ai];exact ⟨h7.f,h8⟩,fun _=>by simp only [ai];exact ⟨h7,h8⟩⟩⟩
end Go.Proofs.Ytpoffnlnhdbpmaa
end
section
set_option maxRecDepth 100000
namespace Go.Proofs.Ytpoffnlnhdbpmaa
open Go Lv Go.Proofs Go.RowKit Go.Shelf
variable [Lk]
variable {G:Prop} {n:Int} {L:List aX} {a:Int}
def Vg (o1 o2:Int) (pk:List Int) (ag:List cU):Prop:=(0≤o1∧o1≤99)∧(0≤o2∧o2≤99)∧(∀m∈pk,0≤m∧m≤99)∧∀x∈ag,0≤x.2∧x.1≤3
theorem Vg.pk {o1 o2:Int} {pk:List Int} {ag:List cU} (h:Vg o1 o2 pk ag) {m:Int} (hm:0≤m∧m≤99):Vg o1 o2 (pk++ [m]) ag:=
 ⟨h.1,h.2.1,fun x hx=>(List.mem_append.1 hx).elim (h.2.2.1 x) fun e=>by cases List.mem_singleton.1 e;exact hm,h.2.2.2⟩
theorem Vg.ag {o1 o2:Int} {pk:List Int} {ag:List cU} (h:Vg o1 o2 pk ag) {m:cU} (hm:0≤m.2∧m.1≤3):Vg o1 o2 pk (ag++ [m]):=
 ⟨h.1,h.2.1,h.2.2.1,fun x hx=>(List.mem_append.1 hx).elim (h.2.2.2 x) fun e=>by cases List.mem_singleton.1 e;exact hm⟩
theorem AI (ok:Bool) (h:Ps G n L a ok):Tot (cu.F (L,a,ok,())) fun y=>Ps (Vg y.2.2.2.1 y.2.2.2.2.1 y.2.2.2.2.2.2.2.2.2.2.1 y.2.2.2.2.2.2.2.2.2.2.2.1) n y.2.2.2.2.2.2.1 y.2.2.2.2.2.2.2.1 y.2.2.2.2.2.2.2.2.1:=by
 rw [cu.eq];unfold cu.B
 refine af.2 ((nT ok h).mono ?_)
 rintro ⟨s1,L1,a1,o1,_⟩ h1
 refine af.2 ((mK _ o1 h1).mono ?_)
 rintro ⟨L2,a2,o2,_⟩ h2
 refine af.2 ((nT o2 h2).mono ?_)
 rintro ⟨s3,L3,a3,o3,_⟩ h3
 refine aY (fun x=>Ps (Vg x.2.2.2.2.2.2.1 x.2.2.2.2.2.2.2.1 x.2.2.2.2.2.2.2.2.2.2.1 x.2.2.2.2.2.2.2.2.2.2.2.1) n x.1 x.2.1 x.2.2.1∧x.2.2.2.2.2.2.2.2.2.2.1.length=0∧x.2.2.2.2.2.2.2.2.2.2.2.1.length=0) ?_ ?_
 ·refine af.2 ((iO _ o3 h3).mono ?_)
  rintro ⟨b,L4,a4,o4,_⟩ ⟨h4,_⟩
  dsimp only at h4 ⊢
  refine ac.2 ⟨fun _=>af.2 ((nT o4 h4).mono ?_),fun _=>by simp only [av];exact ⟨h4.to fun _ _=>by simp [Vg],rfl,rfl⟩⟩
  rintro ⟨s5,L5,a5,o5,_⟩ h5
  refine af.2 ((mK _ o5 h5).mono ?_)
  rintro ⟨L6,a6,o6,_⟩ h6
  refine af.2 ((sX o6 h6).mono ?_)
  rintro ⟨s7,L7,a7,o7,_⟩ h7
  refine af.2 ((mK _ o7 h7).mono ?_)
  rintro ⟨L8,a8,o8,_⟩ h8
  refine af.2 ((sX o8 h8).mono ?_)
  rintro ⟨s9,L9,a9,o9,_⟩ h9
  simp only [av]
  exact ⟨h9.to fun _ g=>⟨g.1.2,g.2,by simp,by simp⟩,rfl,rfl⟩
 rintro ⟨L4,a4,o4,t1,t2,t3,t4,t5,t6,t7,t8,t9,_⟩ ⟨h4,k1,k2⟩
 refine aY (fun x=>Ps (Vg x.2.2.2.2.2.2.1 x.2.2.2.2.2.2.2.1 x.2.2.2.2.2.2.2.2.2.2.1 x.2.2.2.2.2.2.2.2.2.2.2.1) n x.1 x.2.1 x.2.2.1∧x.2.2.2.2.2.2.2.2.2.2.1.length=0∧x.2.2.2.2.2.2.2.2.2.2.2.1.length=0) ?_ ?_
 ·refine af.2 ((iO _ o4 h4).mono ?_)
  rintro ⟨b,L5,a5,o5,_⟩ ⟨h5,_⟩
  dsimp only at h5 k1 k2 ⊢
  refine ac.2 ⟨fun _=>af.2 ((vI o5 h5).mono ?_),fun _=>by simp only [av];exact ⟨h5,k1,k2⟩⟩
  rintro ⟨L6,a6,o6,e,_⟩ ⟨h6,_⟩
  simp only [av]
  exact ⟨h6,k1,k2⟩
 rintro ⟨L5,a5,o5,t1,t2,t3,t4,t5,t6,t7,t8,t9,_⟩ ⟨h5,k1,k2⟩
 refine af.2 ((mK _ o5 h5).mono ?_)
 rintro ⟨L6,a6,o6,_⟩ h6
 dsimp only at h6 k1 k2 ⊢
 have g1:=h6.2.2.2.1
 have g2:=h6.1
 refine aY (fun x=>Ps (Vg x.2.2.2.2.2.2.1 x.2.2.2.2.2.2.2.1 x.2.2.2.2.2.2.2.2.2.2.1 x.2.2.2.2.2.2.2.2.2.2.2.1) n x.1 x.2.1 x.2.2.1∧x.2.2.2.2.2.2.2.2.2.2.2.1.length=0) ?_ ?_
 ·refine aY (fun x=>Ps (Vg t4 t5 t8 t9) n x.2.1 x.2.2.1 x.2.2.2.1) ?_ ?_
  ·refine ac.2 ⟨fun _=>af.2 ((is_t _ o6 h6).mono ?_),fun _=>by simp;exact h6⟩
   rintro ⟨b,L7,a7,o7,_⟩ ⟨h7,_⟩
   simp only [av]
   exact h7
  rintro ⟨b,L7,a7,o7,_⟩ h7
  dsimp only at h7 ⊢
  refine ac.2 ⟨fun _=>af.2 ((sX o7 h7).mono ?_),fun _=>by simp only [av];exact ⟨h7,k2⟩⟩
  rintro ⟨s8,L8,a8,o8,_⟩ h8
  dsimp only at h8 ⊢
  have g3:=h8.2.2.2.1
  have g4:=h8.1
  refine ah.2 ⟨by simp;omega,?_⟩
  refine dk (fun x=>((x.1.length:Int)-x.2.1).toNat) (fun x=>Ps (Vg x.2.2.2.2.2.2.1 x.2.2.2.2.2.2.2.1 x.2.2.2.2.2.2.2.2.2.2.1 x.2.2.2.2.2.2.2.2.2.2.2.1) n x.1 x.2.1 x.2.2.1∧(x.2.2.2.2.2.2.2.2.2.2.1.length:Int)+((x.1.length:Int)-x.2.1)≤20001∧x.2.2.2.2.2.2.2.2.2.2.2.1.length=0) ⟨h8.to fun _ g=>g.1.pk g.2,by simp;omega,k2⟩ ?_
  rintro ⟨L9,a9,o9,t1,t2,t3,t4,t5,t6,t7,t8,t9,_⟩ ⟨i1,i2,i3⟩
  dsimp only at i1 i2 i3 ⊢
  refine ac.2 ⟨fun _=>af.2 ((iO _ o9 i1.own).mono ?_),fun _=>by simp only [aH];exact ⟨i1,i3⟩⟩
  rintro ⟨b,La,aa,oa,_⟩ ⟨ha,hb⟩
  dsimp only at ha hb ⊢
  refine ac.2 ⟨fun hc=>af.2 ((sX oa (hb hc)).mono ?_),fun _=>by simp only [aH];exact ⟨ha.le i1.2.2.1,i3⟩⟩
  rintro ⟨sb,Lb,ab,ob,_⟩ hd
  dsimp only at hd ⊢
  obtain ⟨l1,l2⟩:=hd.lt
  have:=i1.2.2.1
  refine ah.2 ⟨by simp;have:=hd.2.1;omega,?_⟩
  simp only [av,List.length_append,List.length_singleton]
  exact ⟨⟨(hd.le (by omega)).to fun _ g=>g.1.pk g.2,by omega,i3⟩,l1⟩
 rintro ⟨L7,a7,o7,t1,t2,t3,t4,t5,t6,t7,t8,t9,_⟩ ⟨h7,k3⟩
 refine af.2 ((iO _ o7 h7).mono ?_)
 rintro ⟨b,L8,a8,o8,_⟩ ⟨h8,_⟩
 dsimp only at h8 k3 ⊢
 refine aY (fun x=>Ps (Vg x.2.2.2.2.2.2.1 x.2.2.2.2.2.2.2.1 x.2.2.2.2.2.2.2.2.2.2.1 x.2.2.2.2.2.2.2.2.2.2.2.1) n x.1 x.2.1 x.2.2.1) ?_ ?_
 ·refine aY (fun _=>True) (by simp) fun x _=>?_
  refine ac.2 ⟨fun _=>af.2 ((BO o8 h8).mono ?_),fun _=>by simp;exact h8⟩
  rintro ⟨s1,s2,L9,a9,o9,_⟩ h9
  dsimp only at h9 ⊢
  have g3:=h9.2.2.2.1
  have g4:=h9.1
  refine ah.2 ⟨by simp;omega,?_⟩
  refine dk (fun x=>((x.1.length:Int)-x.2.1).toNat) (fun x=>Ps (Vg x.2.2.2.2.2.2.1 x.2.2.2.2.2.2.2.1 x.2.2.2.2.2.2.2.2.2.2.1 x.2.2.2.2.2.2.2.2.2.2.2.1) n x.1 x.2.1 x.2.2.1∧(x.2.2.2.2.2.2.2.2.2.2.2.1.length:Int)+((x.1.length:Int)-x.2.1)≤20001) ⟨h9.to fun _ g=>g.1.ag g.2,by simp;omega⟩ ?_
  rintro ⟨L9,a9,o9,t1,t2,t3,t4,t5,t6,t7,t8,t9,_⟩ ⟨i1,i2⟩
  dsimp only at i1 i2 ⊢
  refine ac.2 ⟨fun _=>af.2 ((iO _ o9 i1.own).mono ?_),fun _=>by simp only [aH];exact i1⟩
  rintro ⟨b,La,aa,oa,_⟩ ⟨ha,hb⟩
  dsimp only at ha hb ⊢
  refine ac.2 ⟨fun hc=>af.2 ((BO oa (hb hc)).mono ?_),fun _=>by simp only [aH];exact ha.le i1.2.2.1⟩
  rintro ⟨sa,sb,Lb,ab,ob,_⟩ hd
  dsimp only at hd ⊢
  obtain ⟨l1,l2⟩:=hd.lt
  have:=i1.2.2.1
  refine ah.2 ⟨by simp;have:=hd.2.1;omega,?_⟩
  simp only [av,List.length_append,List.length_singleton]
  exact ⟨⟨(hd.le (by omega)).to fun _ g=>g.1.ag g.2,by omega⟩,l1⟩
 rintro ⟨L9,a9,o9,t1,t2,t3,t4,t5,t6,t7,t8,t9,_⟩ h9
 dsimp only at h9 ⊢
 exact ac.2 ⟨fun _=>by simp only [ai];exact h9.f,fun _=>ac.2 ⟨fun _=>by simp only [ai];exact h9.f,fun _=>by simp only [ai];exact h9⟩⟩
theorem AJ (s : ByteArray) : Tot (eJ.F (s,())) fun y => y.2.2.2.2.2.2.2.2.1 = 0 → (y.1 = 0 → 1 ≤ y.2.2.2.2.2.2.2.2.2.1.length) ∧ (y.1 ≠ 0 → Vg y.2.2.2.2.2.1 y.2.2.2.2.2.2.1 y.2.2.2.2.2.2.2.2.2.2.2.2.1 y.2.2.2.2.2.2.2.2.2.2.2.2.2.1) := by
  rw [eJ.eq];unfold eJ.B
  refine af.2 ((lex_t s).mono ?_)
  rintro ⟨e,l,_⟩ ⟨h1,h2⟩
  dsimp only at h1 h2 ⊢
  refine ac.2 ⟨fun he=>by simp at he ⊢;exact fun h=>absurd h he,fun _=>?_⟩
  refine af.2 ((vG (G:=True) (n:=l.length) _ (by simp) true ⟨by omega,by omega,by omega,h1,h2,fun _=>trivial⟩).mono ?_)
  rintro ⟨k,L1,a1,o1,_⟩ ⟨h3,_⟩
  dsimp only at h3 ⊢
  refine aY (fun x=>x.2.2.1=true→(x.2.2.2.1=0→1≤x.2.2.2.2.2.2.2.2.2.2.2.1.length)∧(x.2.2.2.1≠0→Vg x.2.2.2.2.2.2.2.2.1 x.2.2.2.2.2.2.2.2.2.1 x.2.2.2.2.2.2.2.2.2.2.2.2.2.2.1 x.2.2.2.2.2.2.2.2.2.2.2.2.2.2.2.1)) ?_ ?_
  · refine aY (fun x=>x.1=(o1&&k==0)) (by cases o1<;>simp) ?_
    rintro ⟨x,_⟩ hx
    dsimp only at hx ⊢
    refine ac.2 ⟨fun hb=>af.2 ((yO o1 h3).mono ?_),fun hb=>ac.2 ⟨fun hc=>af.2 ((AI o1 h3).mono ?_),fun hc=>by simp [hc]⟩⟩
    · rintro ⟨z1,L2,a2,o2,z3,z4,_⟩ ⟨h4,h5⟩
      rw [hb] at hx
      have hk:k=0:=by
        cases o1 with
        |false=>cases hx
        |true=>exact eq_of_beq (by simpa using hx.symm)
      simp only [av]
      exact fun _=>⟨fun _=>h5,fun h=>absurd hk h⟩
    · rintro ⟨z1,z2,z3,z4,z5,z6,L2,a2,o2,z7,z8,z9,_⟩ h4
      rw [hb,hc] at hx
      have hk:k≠0:=by simpa using hx
      simp only [av]
      exact fun ho=>⟨fun h=>absurd h hk,fun _=>h4.2.2.2.2.2 ho⟩
  · rintro ⟨x1,x2,ok,x4,x5,x6,x7,x8,x9,x10,x11,x12,x13,x14,x15,x16,_⟩ hx
    dsimp only at hx ⊢
    refine ac.2 ⟨fun _=>by simp,fun ho=>ac.2 ⟨fun _=>by simp,fun _=>by simp only [ai];exact fun _=>hx (by simpa using ho)⟩⟩
theorem vJ (p q:List ak) (h:p.length<1000000000000000):Tot (fp.F (p,q,())) fun _=>True:=by
 rw [fp.eq];unfold fp.B
 refine ac.2 ⟨fun _=>by simp,fun h1=>ic p.length fun i h0 h2=>?_⟩
 simp at h1
 simp [eo];omega
end Go.Proofs.Ytpoffnlnhdbpmaa
end
section
set_option maxRecDepth 100000
namespace Go.Proofs.Ytpoffnlnhdbpmaa
open Go Lv Go.Proofs Go.RowKit Go.Shelf
variable [Lk]
theorem AL (n:ByteArray) (cs:List aB) (es:List (List ak)) (m:ByteArray) (ds:List aB) (fs:List (List ak)) (h1:cs.length<1000000000000000) (h2:es.length<1000000000000000) (h3:∀e∈es,e.length<1000000000000000):
 Tot (cR.F (n,cs,es,m,ds,fs,())) fun y=>y.1=true→cs.length=ds.length:=by
 rw [cR.eq];unfold cR.B
 refine aY (fun _=>cs.length=ds.length∧es.length=fs.length) (by simp;omega) ?_
 rintro _ ⟨g1,g2⟩
 refine aY (fun _=>True) ?_ fun _ _=>?_
 ·refine ic cs.length fun i h0 h1=>?_
  simp [eo];omega
 ·refine ic es.length fun i h0 h1=>?_
  refine ac.2 ⟨fun h5=>?_,fun _=>by simp [g1]⟩
  simp at h5
  refine ah.2 ⟨by simp;omega,ah.2 ⟨by simp;omega,af.2 ((vJ _ _ (h3 _ (d9 h0 h5))).mono fun y _=>?_)⟩⟩
  simp [eo];omega
theorem Cu (p q:List Int) (h:p.length<1000000000000000):Tot (fR.F (p,q,())) fun y=>y.1=true→p=q:=by
 rw [fR.eq];unfold fR.B
 refine ac.2 ⟨fun _=>by simp,fun h1=>kh p.length (fun i=>p[i]?=q[i]?) (fun i hi=>?_) fun hq=>?_⟩
 ·simp at h1
  have hi':i<q.length:=by omega
  simp [cD hi,cD hi',eo,hi,hi']
  omega
 ·simp at h1
  simp
  refine List.ext_getElem? fun i=>?_
  by_cases hi:i<p.length
  ·exact hq i hi
  ·rw [List.getElem?_eq_none (by omega),List.getElem?_eq_none (by omega)]
theorem eqA {x y:cU} (h:Ty.eq ep x y=true):x=y:=by
 obtain ⟨a,b⟩:=x
 obtain ⟨c,d⟩:=y
 simp [Ty.eq] at h
 simp [h]
theorem AM (a b c:ByteArray) (d e:Int) (f:List ak) (g:List Int) (h:Bool) (i:List cU) (a' b' c':ByteArray) (d' e':Int) (f':List ak) (g':List Int) (h':Bool) (i':List cU)
 (h1:f.length<1000000000000000) (h2:g.length<1000000000000000) (h3:i.length<1000000000000000):Tot (du.F (a,b,c,d,e,f,g,h,i,a',b',c',d',e',f',g',h',i',())) fun y=>y.1=true→(d=d'∧e=e')∧g=g'∧i=i':=by
 rw [du.eq];unfold du.B
 refine aY (fun x=>x.1=false→i.length=i'.length∧(d=d'∧e=e')∧g=g') ?_ ?_
 ·refine ac.2 ⟨fun _=>by simp,fun _=>ac.2 ⟨fun _=>by simp,fun _=>ac.2 ⟨fun _=>by simp,fun _=>ac.2 ⟨fun _=>by simp,fun k1=>?_⟩⟩⟩⟩
  refine af.2 ((vJ _ _ h1).mono fun y _=>ac.2 ⟨fun _=>by simp,fun _=>?_⟩)
  refine af.2 ((Cu _ _ h2).mono fun y hy=>ac.2 ⟨fun _=>by simp,fun k2=>?_⟩)
  have k1:=eqA (x:=(d,e)) (y:=(d',e')) (by simpa using k1)
  have k2:=hy (by simpa using k2)
  cases k1
  exact ac.2 ⟨fun _=>by simp,fun _=>by simp [k2];omega⟩
 rintro ⟨b,_⟩ h4
 refine ac.2 ⟨fun _=>by simp,fun hb=>kh i.length (fun j=>i[j]?=i'[j]?) (fun j hj=>?_) fun hq=>?_⟩
 ·have h4:=(h4 hb).1
  have hj':j<i'.length:=by omega
  simp only [cD hj,cD hj']
  refine ac.2 ⟨fun _=>ah.2 ⟨by simp;omega,ah.2 ⟨by simp;omega,ac.2 ⟨fun _=>by simp,fun k=>?_⟩⟩⟩,fun k=>by simp [hj] at k⟩
  have k:=eqA (by simpa using k)
  simp [eo,hj,hj',k]
  omega
 ·obtain ⟨h4,h5,h6⟩:=h4 hb
  simp
  refine ⟨h5,h6,List.ext_getElem? fun j=>?_⟩
  by_cases hj:j<i.length
  ·exact hq j hj
  ·rw [List.getElem?_eq_none (by omega),List.getElem?_eq_none (by omega)]
structure Dn (d:bL):Prop where
 l1:d.2.1.2.1.length<1000000000000000
 l2:d.2.1.2.2.length<1000000000000000
 l3:∀e∈d.2.1.2.2,e.length<1000000000000000
 l4:d.2.2.2.2.2.2.1.length<1000000000000000
 l5:d.2.2.2.2.2.2.2.1.length<1000000000000000
 l6:d.2.2.2.2.2.2.2.2.2.length<1000000000000000
 e1:∀e∈d.2.1.2.2,∀n∈e,I64 n.2.1∧I64 n.2.2.2.1
 e2:∀n∈d.2.2.2.2.2.2.1,I64 n.2.1∧I64 n.2.2.2.1
 o1:I64 d.2.2.2.2.2.1.1
 o2:I64 d.2.2.2.2.2.1.2
 p:∀n∈d.2.2.2.2.2.2.2.1,I64 n
 g:∀x∈d.2.2.2.2.2.2.2.2.2,I64 x.2
structure Sd (d:bL):Prop extends Dn d where
 s1:d.2.1.2.1.length≤400
 s2:d.2.1.2.2.length≤400
 s3:∀e∈d.2.1.2.2,Ex e
 s4:Ex d.2.2.2.2.2.2.1
 s5:d.2.2.2.2.2.2.2.1.length≤400
 s6:d.2.2.2.2.2.2.2.2.2.length≤400
 c:∀c∈d.2.1.2.1,c.1.size≤100∧c.2.2.2.2.1.size≤100
 n1:d.2.1.1.size≤100
 n2:d.2.2.1.size≤100
 n3:d.2.2.2.1.size≤100
 n4:d.2.2.2.2.1.size≤100
theorem ra (d:bL) (h:Sd d):Tot (eK.F (d.1,d.2.1.1,d.2.1.2.1,d.2.1.2.2,d.2.2.1,d.2.2.2.1,d.2.2.2.2.1,d.2.2.2.2.2.1.1,d.2.2.2.2.2.1.2,d.2.2.2.2.2.2.1,d.2.2.2.2.2.2.2.1,d.2.2.2.2.2.2.2.2.1,d.2.2.2.2.2.2.2.2.2,())) fun y=>sq y.1 ⟨#[]⟩=false→(d.1=0→1≤d.2.1.2.1.length)∧(d.1≠0→Vg d.2.2.2.2.2.1.1 d.2.2.2.2.2.1.2 d.2.2.2.2.2.2.2.1 d.2.2.2.2.2.2.2.2.2):=by
 rw [eK.eq];unfold eK.B
 refine af.2 ((vD _ _ _ _ _ _ _ _ _ h.n2 h.n3 h.n4 h.o1 h.o2 h.s4 h.s5 h.p h.s6 h.g).mono fun y _=>?_)
 refine aY (fun _=>True) (ac.2 ⟨fun _=>af.2 ((sV _ _ _ h.n1 h.s1 h.c h.s2 h.s3).mono fun _ _=>by simp),fun _=>by simp⟩) ?_
 rintro ⟨s,_⟩ _
 have e0:∀(P:Prop),sq ⟨#[]⟩ ⟨#[]⟩=false→P:=fun P h=>by simp [sq] at h
 refine ac.2 ⟨fun _=>ai.2 (e0 _),fun _=>af.2 ((AJ s).mono fun q hq=>ac.2 ⟨fun _=>ai.2 (e0 _),fun he=>af.2 (Tot.mono (P:=fun y=>y.1=true→(d.1=q.1∧d.2.1.2.1.length=q.2.2.2.2.2.2.2.2.2.1.length)∧(d.2.2.2.2.2.1.1=q.2.2.2.2.2.1∧d.2.2.2.2.2.1.2=q.2.2.2.2.2.2.1)∧d.2.2.2.2.2.2.2.1=q.2.2.2.2.2.2.2.2.2.2.2.2.1∧d.2.2.2.2.2.2.2.2.2=q.2.2.2.2.2.2.2.2.2.2.2.2.2.1) ?_ fun r hr=>ac.2 ⟨fun _=>ai.2 (e0 _),fun hb=>ai.2 fun _=>?_⟩)⟩)⟩
 ·rw [fH.eq];unfold fH.B
  refine ac.2 ⟨fun hk=>af.2 ((AL _ _ _ _ _ _ h.l1 h.l2 h.l3).mono fun y hy=>ac.2 ⟨fun ht=>af.2 ((AM _ _ _ _ _ _ _ _ _ _ _ _ _ _ _ _ _ _ h.l4 h.l5 h.l6).mono fun z hz=>ai.2 fun e=>⟨⟨eq_of_beq hk,hy ht⟩,hz e⟩),fun _=>by simp⟩),fun _=>by simp⟩
 ·obtain ⟨⟨g1,g2⟩,⟨g3,g4⟩,g5,g6⟩:=hr (by simpa using hb)
  obtain ⟨q1,q2⟩:=hq (by simpa using he)
  rw [g1,g2,g3,g4,g5,g6]
  exact ⟨q1,q2⟩
theorem Cv (d:bL) (h:Dn d):Tot (gL.F (d.1,d.2.1.1,d.2.1.2.1,d.2.1.2.2,d.2.2.1,d.2.2.2.1,d.2.2.2.2.1,d.2.2.2.2.2.1.1,d.2.2.2.2.2.1.2,d.2.2.2.2.2.2.1,d.2.2.2.2.2.2.2.1,d.2.2.2.2.2.2.2.2.1,d.2.2.2.2.2.2.2.2.2,())) fun y=>y.1=false→Sd d:=by
 rw [gL.eq];unfold gL.B
 obtain ⟨k,⟨tn,cs,es⟩,vn,vf,vw,⟨o1,o2⟩,wh,pk,gr,ag⟩:=d
 have l1:cs.length<1000000000000000:=h.l1
 have l2:es.length<1000000000000000:=h.l2
 have l3:=h.l3
 have l4:wh.length<1000000000000000:=h.l4
 have l5:pk.length<1000000000000000:=h.l5
 have l6:ag.length<1000000000000000:=h.l6
 dsimp only at l3 ⊢
 have w1:wr ((cs.length:Int)+es.length)=cs.length+es.length:=bB (by omega) (by omega)
 have w2:wr ((cs.length:Int)+es.length+pk.length)=cs.length+es.length+pk.length:=bB (by omega) (by omega)
 have w3:wr ((cs.length:Int)+es.length+pk.length+ag.length)=cs.length+es.length+pk.length+ag.length:=bB (by omega) (by omega)
 have w4:wr ((cs.length:Int)+es.length+pk.length+ag.length+wh.length)=cs.length+es.length+pk.length+ag.length+wh.length:=bB (by omega) (by omega)
 simp only [w1,w2,w3,w4]
 refine aY (fun x=>(cs.length:Int)+es.length+pk.length+ag.length+wh.length≤x.1∧∀e∈es,e.length≤120∧∀n∈e,n.2.2.2.2.size≤1000) ?_ ?_
 ·refine dk (fun x=>es.length-x.2.1.toNat) (fun x=>∃i:Nat,x.2.1=(i:Int)∧i≤es.length∧(cs.length:Int)+es.length+pk.length+ag.length+wh.length≤x.1∧x.1≤(5000000000000000+120*(i:Int):Int)∧∀(j:Nat) (hj:j<es.length),j<i→es[j].length≤120∧∀n∈es[j],n.2.2.2.2.size≤1000) ⟨0,rfl,by omega,by simp,by simp;omega,fun j _ h=>by omega⟩ ?_
  rintro ⟨s,_,_⟩ ⟨i,rfl,i1,i2,i3,i4⟩
  dsimp only at i1 i2 i3 ⊢
  refine ac.2 ⟨fun h5=>?_,fun h5=>?_⟩
  ·simp at h5
   simp only [cD h5]
   have hl:=l3 _ (List.getElem_mem h5)
   have w5:wr (s+(es[i].length:Int))=s+es[i].length:=bB (by omega) (by omega)
   have w6:wr ((i:Int)+1)=((i+1:Nat):Int):=by rw [bB (by omega) (by omega)];omega
   simp only [w5,w6]
   refine ah.2 ⟨by simp;omega,ah.2 ⟨by simp;omega,af.2 ((yJ _ hl).mono fun y hy=>?_)⟩⟩
   refine ac.2 ⟨fun _=>by simp,fun hb=>?_⟩
   have hy:=hy hb
   simp only [av]
   refine ⟨⟨i+1,rfl,by omega,by omega,by omega,fun j hj hji=>?_⟩,by simp;omega⟩
   by_cases e:j=i
   ·subst e;exact hy
   ·exact i4 j hj (by omega)
  ·simp at h5
   simp only [aH]
   refine ⟨i2,fun e he=>?_⟩
   obtain ⟨j,hj,rfl⟩:=List.getElem_of_mem he
   exact i4 j hj (by omega)
 rintro ⟨s,_⟩ ⟨g1,g2⟩
 dsimp only at g1 g2 ⊢
 refine aY (fun _=>∀c∈cs,c.1.size≤100∧c.2.2.2.2.1.size≤100) ?_ ?_
 ·refine jd (l:=cs) (fun c:aB=>c.1.size≤100∧c.2.2.2.2.1.size≤100) (fun i hi=>?_) (by simp)
  simp [cD hi,eo,hi];omega
 rintro _ g3
 refine ac.2 ⟨fun _=>by simp,fun g4=>af.2 ((yJ _ l4).mono fun y hy=>ac.2 ⟨fun _=>by simp,fun g5=>?_⟩)⟩
 have hy:=hy g5
 simp at g4
 refine ac.2 ⟨fun _=>by simp,fun g6=>ac.2 ⟨fun _=>by simp,fun g7=>ac.2 ⟨fun _=>by simp,fun g8=>?_⟩⟩⟩
 simp at g6 g7 g8
 simp only [ai]
 intro g9
 simp at g9
 exact {h with s1:=by show cs.length≤400;omega,s2:=by show es.length≤400;omega,s3:=fun e he=>⟨(g2 e he).1,fun n hn=>⟨(h.e1 e he n hn).1,(h.e1 e he n hn).2,(g2 e he).2 n hn⟩⟩,s4:=⟨hy.1,fun n hn=>⟨(h.e2 n hn).1,(h.e2 n hn).2,hy.2 n hn⟩⟩,s5:=by show pk.length≤400;omega,s6:=by show ag.length≤400;omega,c:=g3,n1:=by show tn.size≤100;omega,n2:=by show vn.size≤100;omega,n3:=by show vf.size≤100;omega,n4:=by show vw.size≤100;omega}
abbrev dA (d:bL):Int×ByteArray×(List aB)×(List (List ak))×ByteArray×ByteArray×ByteArray×Int×Int×(List ak)×(List Int)×Bool×(List cU)×Unit:=(d.1,d.2.1.1,d.2.1.2.1,d.2.1.2.2,d.2.2.1,d.2.2.2.1,d.2.2.2.2.1,d.2.2.2.2.2.1.1,d.2.2.2.2.2.1.2,d.2.2.2.2.2.2.1,d.2.2.2.2.2.2.2.1,d.2.2.2.2.2.2.2.2.1,d.2.2.2.2.2.2.2.2.2,())
def nmD (d:bL):ByteArray:=bif d.1==0 then d.2.1.1 else d.2.2.1
def wD (d:bL):Nat:=bif d.1==0 then d.2.1.2.1.length else d.2.2.2.2.2.2.2.1.length+d.2.2.2.2.2.2.2.2.2.length
@[simp] theorem rb (d : bL) : fY.F (d.1,d.2.1.1,d.2.1.2.1,d.2.1.2.2,d.2.2.1,d.2.2.2.1,d.2.2.2.2.1,d.2.2.2.2.2.1.1,d.2.2.2.2.2.1.2,d.2.2.2.2.2.2.1,d.2.2.2.2.2.2.2.1,d.2.2.2.2.2.2.2.2.1,d.2.2.2.2.2.2.2.2.2,()) = some (nmD d,()) := by
 rw [fY.eq];unfold fY.B nmD
 dsimp only
 cases (d.1==0)<;>rfl
def fnd (c:List bL) (s:ByteArray):Option Nat:=c.findIdx? fun d=>sq (nmD d) s
def lV (c:List bL) (s:ByteArray):Int:=match fnd c s with
 |some i=>(i:Int)
 |none=>-1
theorem jJ {c:List bL} {s:ByteArray} {i:Nat} (h:fnd c s=some i):i<c.length:=by
 obtain ⟨h,_⟩:=List.findIdx?_eq_some_iff_getElem.1 h
 exact h
theorem kD (c : List bL) (s : ByteArray) (h : c.length < 1000000000000000) : eP.F (c,s,()) = some (lV c s,()) := by
  have:Tot (eP.F (c,s,())) fun y=>y.1=lV c s:=by
    rw [eP.eq];unfold eP.B
    refine dk (fun x=>c.length-x.1.toNat) (fun x=>∃i:Nat,x.1=(i:Int)∧i≤c.length∧∀(j:Nat) (hj:j<c.length),j<i→sq (nmD c[j]) s=false) ⟨0,rfl,by omega,fun j _ h=>by omega⟩ ?_
    rintro ⟨_,u⟩ ⟨i,rfl,h1,h2⟩
    refine ac.2 ⟨fun h5=>?_,fun h5=>?_⟩
    · simp at h5
      have hw:wr ((i:Int)+1)=((i+1:Nat):Int):=by rw [bB (by omega) (by omega)];omega
      simp only [cD h5,rb,Qa,hw]
      refine ah.2 ⟨by simp;omega,ac.2 ⟨fun h6=>?_,fun h6=>?_⟩⟩
      · simp only [aH]
        have:fnd c s=some i:=List.findIdx?_eq_some_iff_getElem.2 ⟨h5,h6,fun j hj=>by rw [h2 j (by omega) hj];simp⟩
        unfold lV
        rw [this]
      · simp only [av]
        refine ⟨⟨i+1,rfl,by omega,fun j hj hji=>?_⟩,by simp;omega⟩
        by_cases e:j=i
        · subst e;exact h6
        · exact h2 j hj (by omega)
    · simp at h5
      simp only [aH]
      have:fnd c s=none:=List.findIdx?_eq_none_iff.2 fun x hx=>by
        obtain ⟨j,hj,rfl⟩:=List.getElem_of_mem hx
        exact h2 j hj (by omega)
      unfold lV
      rw [this]
  obtain ⟨⟨y,_⟩,h1,h2⟩:=this
  rw [h1]
  simp at h2
  rw [h2]
theorem iB {c:List bL} {s:ByteArray} {i:Nat} (h:fnd c s=some i):lV c s=i:=by unfold lV;rw [h]
theorem yP {c:List bL} {s:ByteArray} (h:lV c s<0):fnd c s=none:=by
 unfold lV at h
 split at h
 ·omega
 ·assumption
theorem jj {c:List bL} {s:ByteArray} (h:¬lV c s<0):∃i,fnd c s=some i:=by
 unfold lV at h
 split at h
 ·exact ⟨_,by assumption⟩
 ·omega
def wN (c:List bL) (s:ByteArray):Nat:=match fnd c s with
 |some i=>wD (c.getD i gF.z)
 |none=>0
def wJ (c:List bL) (f w:ByteArray):Nat:=wN c f+(bif sq w ⟨#[]⟩ then 0 else wN c w)
structure Gd (p:List bL) (d:bL):Prop where
 nm:fnd p (nmD d)=none
 t:d.1=0→1≤d.2.1.2.1.length
 f:d.1≠0→∃i,fnd p d.2.2.2.1=some i
 w:d.1≠0→sq d.2.2.2.2.1 ⟨#[]⟩=false→∃i,fnd p d.2.2.2.2.1=some i
 pk:d.1≠0→∀n∈d.2.2.2.2.2.2.2.1,0≤n∧n<(wJ p d.2.2.2.1 d.2.2.2.2.1:Int)
 o:d.1≠0→(0≤d.2.2.2.2.2.1.1∧d.2.2.2.2.2.1.1≤99)∧0≤d.2.2.2.2.2.1.2∧d.2.2.2.2.2.1.2≤99
 a0:d.1≠0→∀a∈d.2.2.2.2.2.2.2.2.2,0≤a.2∧a.1≤3
 ag:d.1≠0→∀a∈d.2.2.2.2.2.2.2.2.2,a.1≥2→0≤a.2∧a.2<(wJ p d.2.2.2.1 d.2.2.2.2.1:Int)
structure Gc (c:List bL):Prop where
 len:c.length≤22
 s:∀d∈c,Sd d
 g:∀(j:Nat) (hj:j<c.length),Gd (c.take j) c[j]
theorem jF {c:List bL} {s:ByteArray} {i j:Nat} (h:fnd (c.take j) s=some i):fnd c s=some i∧i<j:=by
 obtain ⟨h1,h2,h3⟩:=List.findIdx?_eq_some_iff_getElem.1 h
 simp only [List.length_take] at h1
 refine ⟨List.findIdx?_eq_some_iff_getElem.2 ⟨by omega,by simpa using h2,fun k hk=>by simpa using h3 k hk⟩,by omega⟩
theorem vK {c:List bL} {s:ByteArray} {i j:Nat} (h:fnd (c.take j) s=some i):wN (c.take j) s=wN c s:=by
 obtain ⟨h1,h2⟩:=jF h
 have h3:=jJ h1
 unfold wN
 rw [h,h1]
 simp only [List.getD_eq_getElem?_getD,List.getElem?_take,if_pos h2]
theorem tk_t (n:ByteArray) (cs:List aB) (es:List (List ak)) (h:cs.length≤400):Tot (bZ.F (n,cs,es,())) fun y=>y.1.length=cs.length∧y.2.1.length=cs.length:=by
 rw [bZ.eq];unfold bZ.B
 refine dk (fun x=>cs.length-x.1.toNat) (fun x=>0≤x.1∧x.1≤(cs.length:Int)∧(x.2.1.length:Int)=x.1∧(x.2.2.1.length:Int)=x.1) (by simp) ?_
 rintro ⟨i,l,m,_⟩ ⟨i1,i2,i3,i4⟩
 dsimp only at i1 i2 i3 i4 ⊢
 simp [eo]
 omega
theorem sZ (c:List bL) (hc:c.length≤22) (f:TS cF.d.si→Option (TS cF.d.so)) (vn vf vw:ByteArray) (o1 o2:Int) (wh:List ak) (pk:List Int) (gr:Bool) (ag:List cU)
 (hw:∀d∈c,wD d≤800) (hf:∀s i,fnd c s=some i→(s=vf∨s=vw∧sq vw ⟨#[]⟩=false)→∀hi:i<c.length,Tot (f (c,dA c[i])) fun y=>y.1.length=wD c[i]) (h1:∃i,fnd c vf=some i) (h2:sq vw ⟨#[]⟩=false→∃i,fnd c vw=some i):
 Tot (bu.b f (c,vn,vf,vw,o1,o2,wh,pk,gr,ag,())) fun y=>y.1.length=wJ c vf vw:=by
 unfold bu.b
 obtain ⟨i,hi⟩:=h1
 have li:=jJ hi
 have hn:∀s j,fnd c s=some j→∀hj:j<c.length,wN c s=wD c[j]:=fun s j h hj=>by
  unfold wN
  rw [h]
  simp only [List.getD_eq_getElem?_getD,List.getElem?_eq_getElem hj,Option.getD_some]
 simp only [kD c _ (by omega),Qa,iB hi,cD li]
 refine ah.2 ⟨by simp;omega,af.2 ((hf _ _ hi (.inl rfl) li).mono fun y hy=>?_)⟩
 have g1:=hw _ (List.getElem_mem li)
 refine ac.2 ⟨fun e=>?_,fun e=>?_⟩
 ·simp only [ai]
  unfold wJ
  rw [e,hy,hn _ _ hi li,Qc,Nat.add_zero]
 ·obtain ⟨j,hj⟩:=h2 e
  have lj:=jJ hj
  have g2:=hw _ (List.getElem_mem lj)
  simp only [iB hj,cD lj]
  refine ah.2 ⟨by simp;omega,af.2 ((hf _ _ hj (.inr ⟨rfl,e⟩) lj).mono fun z hz=>?_)⟩
  refine ah.2 ⟨by simp;omega,ah.2 ⟨by simp;omega,?_⟩⟩
  simp only [ai]
  unfold wJ
  rw [e,hn _ _ hi li,hn _ _ hj lj,Qb]
  simp [hy,hz]
theorem ni {d:bL} (h:Sd d):wD d≤800:=by
 unfold wD
 cases (d.1==0) with
 |true=>have:=h.s1;simp;omega
 |false=>have:=h.s5;have:=h.s6;simp;omega
theorem ofv_t (c:List bL) (d:bL) (hk:d.1≠0) (hd:Sd d) (f:TS bu.d.si→Option (TS bu.d.so)) (hf:Tot (f (c,d.2.2.1,d.2.2.2.1,d.2.2.2.2.1,d.2.2.2.2.2.1.1,d.2.2.2.2.2.1.2,d.2.2.2.2.2.2.1,d.2.2.2.2.2.2.2.1,d.2.2.2.2.2.2.2.2.1,d.2.2.2.2.2.2.2.2.2,())) fun y=>y.1.length=wJ c d.2.2.2.1 d.2.2.2.2.1)
 (hp:∀n∈d.2.2.2.2.2.2.2.1,0≤n∧n<(wJ c d.2.2.2.1 d.2.2.2.2.1:Int)) (ha:∀a∈d.2.2.2.2.2.2.2.2.2,a.1≥2→0≤a.2∧a.2<(wJ c d.2.2.2.1 d.2.2.2.2.1:Int)):Tot (cF.b f (c,dA d)) fun y=>y.1.length=wD d∧y.2.1.length=wD d:=by
 unfold cF.b
 have e:(d.1==0)=false:=by simpa using hk
 have g1:=hd.s5
 have g2:=hd.s6
 have hw:wD d=d.2.2.2.2.2.2.2.1.length+d.2.2.2.2.2.2.2.2.2.length:=by unfold wD;rw [e,Qb]
 dsimp only [dA]
 rw [e,Qb]
 generalize d.2.2.2.2.2.2.2.1=pk at*
 generalize d.2.2.2.2.2.2.2.2.2=ag at*
 refine af.2 (hf.mono fun y hy=>?_)
 refine aY (fun x=>x.1.length=pk.length∧x.2.1.length=pk.length) ?_ ?_
 ·refine dk (fun x=>pk.length-x.1.toNat) (fun x=>0≤x.1∧x.1≤(pk.length:Int)∧(x.2.1.length:Int)=x.1∧(x.2.2.1.length:Int)=x.1) (by simp) ?_
  rintro ⟨i,l,m,_⟩ ⟨i1,i2,i3,i4⟩
  dsimp only at i1 i2 i3 i4 ⊢
  refine ac.2 ⟨fun h5=>?_,fun h5=>by simp at h5 ⊢;omega⟩
  simp at h5
  have:=hp _ (d9 (z:=(0:Int)) i1 h5)
  refine ah.2 ⟨by simp;omega,ah.2 ⟨by simp;omega,?_⟩⟩
  simp [eo]
  omega
 rintro ⟨l,m,_⟩ ⟨h1,h2⟩
 dsimp only at h1 h2 ⊢
 refine dk (fun x=>ag.length-x.1.toNat) (fun x=>0≤x.1∧x.1≤(ag.length:Int)∧(x.2.1.length:Int)=pk.length+x.1∧(x.2.2.1.length:Int)=pk.length+x.1) (by simp;omega) ?_
 rintro ⟨i,l,m,_⟩ ⟨i1,i2,i3,i4⟩
 dsimp only at i1 i2 i3 i4 ⊢
 refine ac.2 ⟨fun h5=>?_,fun h5=>by simp at h5;simp [hw];omega⟩
 simp at h5
 have:=ha _ (d9 (z:=ep.z) i1 h5)
 refine ah.2 ⟨by simp;omega,ac.2 ⟨fun h6=>?_,fun h6=>?_⟩⟩
 ·have:=this (by simpa using h6)
  refine ah.2 ⟨by simp;omega,?_⟩
  simp [eo]
  omega
 ·simp [eo]
  omega
theorem oft_t (c:List bL) (d:bL) (hk:d.1=0) (hd:Sd d) (f:TS bu.d.si→Option (TS bu.d.so)):Tot (cF.b f (c,dA d)) fun y=>y.1.length=wD d∧y.2.1.length=wD d:=by
 unfold cF.b
 have e:(d.1==0)=true:=by simpa using hk
 have hw:wD d=d.2.1.2.1.length:=by unfold wD;rw [e,Qc]
 dsimp only
 rw [e,Qc,hw]
 exact af.2 ((tk_t _ _ _ hd.s1).mono fun y hy=>by simp;exact hy)
theorem Gc.wj {c:List bL} (h:Gc c) {j:Nat} (hj:j<c.length) (hk:c[j].1≠0):wJ (c.take j) c[j].2.2.2.1 c[j].2.2.2.2.1=wJ c c[j].2.2.2.1 c[j].2.2.2.2.1:=by
 obtain ⟨i,hi⟩:=(h.g j hj).f hk
 unfold wJ
 rw [vK hi]
 cases e:sq c[j].2.2.2.2.1 ⟨#[]⟩ with
 |true=>rfl
 |false=>
  obtain ⟨k,hk'⟩:=(h.g j hj).w hk e
  rw [vK hk']
theorem r_t (c : List bL) (h : Gc c) : ∀ (n j : Nat),j < n → (hj : j < c.length) → Tot (cF.r n (c,dA c[j])) fun y => y.1.length = wD c[j] ∧ y.2.1.length = wD c[j]
  |0,_,h,_=>by omega
  | n + 1,j,hn,hj => by
    have hS:=h.s _ (List.getElem_mem hj)
    show Tot (cF.b (bu.b (cF.r n)) (c,dA c[j])) _
    by_cases hk:c[j].1=0
    · exact oft_t c _ hk hS _
    · have g:=h.g j hj
      obtain ⟨i,hi⟩:=g.f hk
      have e:=h.wj hj hk
      refine ofv_t c _ hk hS _ (sZ c h.len _ _ _ _ _ _ _ _ _ _ (fun d hd=>ni (h.s d hd)) (fun s k hs hor hk'=>?_) ⟨i,(jF hi).1⟩ fun e'=>?_) (by rw [←e];exact g.pk hk) (by rw [←e];exact g.ag hk)
      · have:k<j:=by
          rcases hor with rfl|⟨rfl,e'⟩
          · have:=jF hi
            rw [this.1] at hs
            cases hs
            exact this.2
          · obtain ⟨m,hm⟩:=g.w hk e'
            have:=jF hm
            rw [this.1] at hs
            cases hs
            exact this.2
        exact (r_t c h n k (by omega) hk').mono fun y hy=>hy.1
      · obtain ⟨m,hm⟩:=g.w hk e'
        exact ⟨m,(jF hm).1⟩
theorem AN (o:Int):Tot (eL.F (o,())) fun y=>y.1≤2:=by
 rw [eL.eq];unfold eL.B
 simp [jC]
theorem ki (o a b:Int):Tot (cL.F (o,a,b,())) fun _=>True:=by
 rw [cL.eq];unfold cL.B
 simp [jC]
theorem uE (e:List ak) (ks:List Int):Tot (fc.F (e,ks,())) fun _=>True:=by
 rw [fc.eq];unfold fc.B
 refine ac.2 ⟨fun _=>by simp,fun h=>?_⟩
 simp at h
 refine aY (fun _=>True) ?_ ?_
 ·refine dk (fun x=>e.length-x.1.toNat) (fun x=>0≤x.1∧x.1≤(e.length:Int)∧(x.2.1.length:Int)≤x.1) (by simp) ?_
  rintro ⟨i,l,_⟩ ⟨i1,i2,i3⟩
  dsimp only at i1 i2 i3 ⊢
  refine ac.2 ⟨fun h5=>?_,fun h5=>by simp⟩
  simp at h5
  refine ah.2 ⟨by simp;omega,af.2 ((AN _).mono fun y hy=>?_)⟩
  refine aY (fun _=>0≤y.1∧y.1≤(l.length:Int)) (by simp;omega) ?_
  rintro _ ⟨g1,g2⟩
  have w1:wr ((l.length:Int)-1)=l.length-1:=bB (by omega) (by omega)
  have w2:wr ((l.length:Int)-2)=l.length-2:=bB (by omega) (by omega)
  have w3:wr ((l.length:Int)-y.1)=l.length-y.1:=bB (by omega) (by omega)
  refine aY (fun _=>True) (by simp [w1];omega) ?_
  rintro ⟨a,_⟩ _
  refine aY (fun _=>True) (by simp [w2];omega) ?_
  rintro ⟨b,_⟩ _
  simp only [w3]
  refine ah.2 ⟨by simp;omega,ah.2 ⟨by simp;omega,af.2 ((ki _ _ _).mono fun z _=>?_)⟩⟩
  refine aY (fun _=>True) (by simp;grind) ?_
  rintro ⟨k,ok,_⟩ _
  have w4:wr (i+1)=i+1:=bB (by omega) (by omega)
  refine ac.2 ⟨fun _=>af.2 ((pw _ _ _).mono fun u _=>ac.2 ⟨fun _=>by simp,fun _=>?_⟩),fun _=>ac.2 ⟨fun _=>by simp,fun _=>?_⟩⟩
  ·simp [w4];omega
  ·simp [w4];omega
 ·rintro ⟨l,_⟩ _
  refine ac.2 ⟨fun _=>by simp,fun h=>?_⟩
  simp at h
  simp [h]
theorem rc (e:List ak) (ks:List Int):Tot (eA.F (e,ks,())) fun _=>True:=by
 rw [eA.eq];unfold eA.B
 exact af.2 ((uE e ks).mono fun y _=>ac.2 ⟨fun _=>by simp,fun _=>by simp⟩)
theorem Cw (n:ByteArray) (cs:List aB) (es:List (List ak)) (h:cs.length≤400) (h1:1≤cs.length):Tot (fq.F (n,cs,es,())) fun _=>True:=by
 rw [fq.eq];unfold fq.B
 refine aY (fun _=>True) ?_ fun _ _=>by simp;omega
 refine ic cs.length fun i h0 h1=>?_
 refine ac.2 ⟨fun h5=>?_,fun _=>by simp⟩
 simp at h5
 have w4:wr (i+1)=i+1:=bB (by omega) (by omega)
 refine aY (fun _=>True) ?_ fun _ _=>by simp [w4];omega
 refine ic i.toNat fun j j0 j1=>?_
 simp [eo]
 omega
theorem Cy (c:List bL) (n:ByteArray) (cs:List aB) (es:List (List ak)) (hc:Gc c) (h:cs.length≤400) (h1:1≤cs.length):Tot (fJ.F (c,n,cs,es,())) fun _=>True:=by
 rw [fJ.eq];unfold fJ.B
 refine ic cs.length fun i h0 h1'=>?_
 refine ac.2 ⟨fun h5=>?_,fun _=>by simp⟩
 simp at h5
 have w4:wr (i+1)=i+1:=bB (by omega) (by omega)
 have hl:=hc.len
 refine ah.2 ⟨by simp;omega,ac.2 ⟨fun _=>by simp [w4];omega,fun _=>ah.2 ⟨by simp;omega,?_⟩⟩⟩
 refine aY (fun _=>True) ?_ fun x _=>by simp [w4];omega
 refine ac.2 ⟨fun _=>?_,fun _=>by simp⟩
 simp only [kD c _ (by omega),Qa]
 refine ac.2 ⟨fun _=>by simp,fun hn=>?_⟩
 obtain ⟨k,hk⟩:=jj (c:=c) (by simpa using hn)
 have lk:=jJ hk
 simp only [iB hk,cD lk]
 refine ah.2 ⟨by simp;omega,ac.2 ⟨fun _=>by simp,fun h0=>ah.2 ⟨by simp;omega,?_⟩⟩⟩
 have:=(hc.g k lk).t (by simpa using h0)
 simp
 omega
theorem Cz (c:List bL) (hc:Gc c) (vn vf vw:ByteArray) (o1 o2:Int) (wh:List ak) (pk:List Int) (gr:Bool) (ag:List cU) (hp:pk.length≤400) (ha:ag.length≤400) (hv:Vg o1 o2 pk ag):
 Tot (fI.F (c,vn,vf,vw,o1,o2,wh,pk,gr,ag,())) fun y=>y.1=false→(∃i,fnd c vf=some i)∧(sq vw ⟨#[]⟩=false→∃i,fnd c vw=some i)∧(∀n∈pk,n<(wJ c vf vw:Int))∧∀a∈ag,a.1≥2→a.2<(wJ c vf vw:Int):=by
 rw [fI.eq];unfold fI.B
 have hl:=hc.len
 obtain ⟨⟨v1,v2⟩,⟨v3,v4⟩,v5,v6⟩:=hv
 simp only [kD c _ (by omega),Qa]
 refine aY (fun _=>(∃i,fnd c vf=some i)∧(sq vw ⟨#[]⟩=false→∃i,fnd c vw=some i)) ?_ ?_
 ·refine ac.2 ⟨fun _=>by simp,fun h1=>ac.2 ⟨fun h2=>ac.2 ⟨fun _=>by simp,fun h3=>?_⟩,fun h2=>?_⟩⟩
  ·simp only [av]
   exact ⟨jj (by simpa using h1),fun _=>jj (by simpa using h3)⟩
  ·simp only [av]
   exact ⟨jj (by simpa using h1),fun e=>by simp [e] at h2⟩
 rintro _ ⟨⟨i,hi⟩,g2⟩
 have li:=jJ hi
 have hrt:∀k (hk:k<c.length),Tot (cF.r 64 (c,dA c[k])) fun y=>y.1.length=wD c[k]∧y.2.1.length=wD c[k]:=fun k hk=>r_t c hc 64 k (by omega) hk
 refine af.2 (Tot.mono (P:=fun y=>y.1.length=wJ c vf vw) ?_ fun y hy=>?_)
 ·rw [bu.eq]
  exact sZ c hl _ _ _ _ _ _ _ _ _ _ (fun d hd=>ni (hc.s d hd)) (fun s k hs _ hk=>(hrt k hk).mono fun y hy=>hy.1) ⟨i,hi⟩ g2
 simp only [iB hi,cD li]
 have hwi:=ni (hc.s _ (List.getElem_mem li))
 have hwj:wD c[i]≤wJ c vf vw∧wJ c vf vw≤1600:=by
  have e1:wN c vf=wD c[i]:=by unfold wN;rw [hi];simp only [List.getD_eq_getElem?_getD,List.getElem?_eq_getElem li,Option.getD_some]
  unfold wJ
  rw [e1]
  refine ⟨by omega,?_⟩
  cases e:sq vw ⟨#[]⟩ with
  |true=>simp;omega
  |false=>
   obtain ⟨k,hk⟩:=g2 e
   have lk:=jJ hk
   have:=ni (hc.s _ (List.getElem_mem lk))
   have e2:wN c vw=wD c[k]:=by unfold wN;rw [hk];simp only [List.getD_eq_getElem?_getD,List.getElem?_eq_getElem lk,Option.getD_some]
   rw [e2]
   simp
   omega
 refine ah.2 ⟨by simp;omega,af.2 (Tot.mono (P:=fun y=>y.1.length=wD c[i]) (by rw [cF.eq];exact (hrt i li).mono fun y hy=>hy.1) fun z hz=>?_)⟩
 have w1:wr ((z.1.length:Int)+o2)=z.1.length+o2:=bB (by omega) (by omega)
 simp only [w1]
 refine aY (fun _=>True) ?_ fun _ _=>?_
 ·refine ac.2 ⟨fun _=>?_,fun _=>by simp⟩
  refine aY (fun _=>o1<(z.1.length:Int)∧(z.1.length:Int)+o2<y.1.length) ?_ ?_
  ·simp;omega
  ·rintro _ ⟨k1,k2⟩
   simp;omega
 refine aY (fun x=>x.1=y.1) ?_ ?_
 ·refine ac.2 ⟨fun _=>af.2 ((rc _ _).mono fun u _=>ac.2 ⟨fun _=>by simp,fun _=>by simp⟩),fun _=>by simp⟩
 rintro ⟨l,_⟩ rfl
 dsimp only
 refine aY (fun _=>∀n∈pk,n<(wJ c vf vw:Int)) ?_ fun _ q1=>?_
 ·refine jd (l:=pk) (fun n:Int=>n<(wJ c vf vw:Int)) (fun j hj=>?_) (by simp)
  simp [cD hj,hj,eo,hy]
  omega
 refine aY (fun _=>∀a∈ag,a.1≥2→a.2<(wJ c vf vw:Int)) ?_ fun _ q2=>?_
 ·refine jd (l:=ag) (fun a:cU=>a.1≥2→a.2<(wJ c vf vw:Int)) (fun j hj=>?_) (by simp)
  have:=v6 _ (List.getElem_mem hj)
  simp [cD hj,hj,eo,hy]
  omega
 have fin:∀b:Bool,Tot (some (b,())) fun y=>y.1=false→(∃i,fnd c vf=some i)∧(sq vw ⟨#[]⟩=false→∃i,fnd c vw=some i)∧(∀n∈pk,n<(wJ c vf vw:Int))∧∀a∈ag,a.1≥2→a.2<(wJ c vf vw:Int):=fun b=>ai.2 fun _=>⟨⟨i,hi⟩,g2,q1,q2⟩
 refine ac.2 ⟨fun _=>ac.2 ⟨fun _=>fin _,fun _=>ac.2 ⟨fun _=>fin _,fun _=>fin _⟩⟩,fun _=>ac.2 ⟨fun _=>fin _,fun _=>fin _⟩⟩
theorem re (c:List bL) (hc:Gc c) (d:bL) (hd:Sd d):Tot (eT.F (c,d.1,d.2.1.1,d.2.1.2.1,d.2.1.2.2,d.2.2.1,d.2.2.2.1,d.2.2.2.2.1,d.2.2.2.2.2.1.1,d.2.2.2.2.2.1.2,d.2.2.2.2.2.2.1,d.2.2.2.2.2.2.2.1,d.2.2.2.2.2.2.2.2.1,d.2.2.2.2.2.2.2.2.2,())) fun y=>y.1=0→Gd c d:=by
 rw [eT.eq];unfold eT.B
 have hl:=hc.len
 refine af.2 ((ra d hd).mono fun y hy=>ac.2 ⟨fun _=>by simp,fun he=>ac.2 ⟨fun _=>by simp,fun _=>?_⟩⟩)
 obtain ⟨p1,p2⟩:=hy he
 simp only [rb,Qa,kD c _ (show c.length<1000000000000000 by omega)]
 refine ac.2 ⟨fun _=>by simp,fun hn=>?_⟩
 have hn:fnd c (nmD d)=none:=yP (by simpa using hn)
 refine ac.2 ⟨fun hk=>?_,fun hk=>?_⟩
 ·have hk:d.1≠0:=by simpa using hk
  have hv:=p2 hk
  refine af.2 ((Cz c hc _ _ _ _ _ _ _ _ _ hd.s5 hd.s6 hv).mono fun z hz=>ac.2 ⟨fun _=>by simp,fun e=>ai.2 fun _=>?_⟩)
  obtain ⟨z1,z2,z3,z4⟩:=hz e
  exact ⟨hn,fun h=>absurd h hk,fun _=>z1,fun _=>z2,fun _ n hn=>⟨(hv.2.2.1 n hn).1,z3 n hn⟩,fun _=>⟨hv.1,hv.2.1⟩,fun _=>hv.2.2.2,fun _ a ha h2=>⟨(hv.2.2.2 a ha).1,z4 a ha h2⟩⟩
 ·have hk:d.1=0:=by simpa using hk
  have g1:=p1 hk
  have gd:Gd c d:=⟨hn,fun _=>g1,fun h=>absurd hk h,fun h=>absurd hk h,fun h=>absurd hk h,fun h=>absurd hk h,fun h=>absurd hk h,fun h=>absurd hk h⟩
  refine af.2 ((Cw _ _ _ hd.s1 g1).mono fun z _=>ac.2 ⟨fun _=>by simp,fun _=>af.2 ((Cy c _ _ _ hc hd.s1 g1).mono fun u _=>ac.2 ⟨fun _=>by simp,fun _=>af.2 ((tk_t _ _ _ hd.s1).mono fun k _=>?_)⟩)⟩)
  have h2:=hd.s2
  refine dk (fun x=>d.2.1.2.2.length-x.2.1.toNat) (fun x=>0≤x.2.1∧x.2.1≤(d.2.1.2.2.length:Int)) (by simp) ?_
  rintro ⟨ks,i,_⟩ ⟨i1,i2⟩
  dsimp only at i1 i2 ⊢
  refine ac.2 ⟨fun h5=>?_,fun h5=>aH.2 fun _=>gd⟩
  simp at h5
  refine ah.2 ⟨by simp;omega,af.2 ((rc _ _).mono fun u _=>ac.2 ⟨fun _=>by simp,fun _=>?_⟩)⟩
  simp [eo]
  omega
theorem uF (c:List bL) (hl:c.length≤22) (hs:∀d∈c,Sd d):Tot (gq.F (c,())) fun y=>y.1=true→Gc c:=by
 rw [gq.eq];unfold gq.B
 have fin:(∀j (hj:j<c.length),Gd (c.take j) c[j])→Gc c:=fun h=>⟨hl,hs,h⟩
 refine dk (fun x=>c.length-x.1.toNat) (fun x=>∃i:Nat,x.1=(i:Int)∧i≤c.length∧∀(j:Nat) (hj:j<c.length),j<i→Gd (c.take j) c[j]) ⟨0,rfl,by omega,fun j _ h=>by omega⟩ ?_
 rintro ⟨_,u⟩ ⟨i,rfl,h1,h2⟩
 dsimp only
 refine ac.2 ⟨fun h5=>?_,fun h5=>?_⟩
 ·simp at h5
  have hw:wr ((i:Int)+1)=((i+1:Nat):Int):=by rw [bB (by omega) (by omega)];omega
  have hp:Gc (c.take i):=⟨by simp;omega,fun d hd=>hs d (List.mem_of_mem_take hd),fun j hj=>by
   simp only [List.length_take] at hj
   have:=h2 j (by omega) (by omega)
   simp only [List.getElem_take]
   rw [List.take_take,show min j i=j by omega]
   exact this⟩
  simp only [cD h5,Int.toNat_zero,List.drop_zero,Int.toNat_natCast,hw]
  refine ah.2 ⟨by simp;omega,ah.2 ⟨by simp;omega,af.2 ((re _ hp _ (hs _ (List.getElem_mem h5))).mono fun y hy=>ac.2 ⟨fun _=>by simp,fun e=>?_⟩)⟩⟩
  have hy:=hy (by simpa using e)
  simp only [av]
  refine ⟨⟨i+1,rfl,by omega,fun j hj hji=>?_⟩,by simp;omega⟩
  by_cases e:j=i
  ·subst e;exact hy
  ·exact h2 j hj (by omega)
 ·simp at h5
  exact aH.2 fun _=>fin fun j hj=>h2 j hj (by omega)
theorem CA (c : List bL) (hl : c.length < 1000000000000000) (hd : ∀ d ∈ c,Dn d) : Tot (gM.F (c,())) fun y => y.1 = false → c.length ≤ 22 ∧ ∀ d ∈ c,Sd d := by
  rw [gM.eq];unfold gM.B
  refine aY (fun _=>∀d∈c,Sd d) ?_ fun _ hs=>?_
  · refine dk (fun x=>c.length-x.2.1.toNat) (fun x=>∃i:Nat,x.2.1=(i:Int)∧i≤c.length∧∀(j:Nat) (hj:j<c.length),j<i→Sd c[j]) ⟨0,rfl,by omega,fun j _ h=>by omega⟩ ?_
    rintro ⟨s,_,u⟩ ⟨i,rfl,h1,h2⟩
    dsimp only
    refine ac.2 ⟨fun h5=>?_,fun h5=>?_⟩
    · simp at h5
      have hw:wr ((i:Int)+1)=((i+1:Nat):Int):=by rw [bB (by omega) (by omega)];omega
      simp only [cD h5,hw]
      refine aY (fun _=>Sd c[i]) ?_ fun _ g=>?_
      · refine ah.2 ⟨by simp;omega,af.2 ((Cv _ (hd _ (List.getElem_mem h5))).mono fun y hy=>ac.2 ⟨fun _=>by simp,fun e=>?_⟩)⟩
        have g:=hy e
        refine ah.2 ⟨by simp;omega,af.2 ((ra _ g).mono fun z _=>ac.2 ⟨fun _=>by simp,fun _=>av.2 g⟩)⟩
      · refine ah.2 ⟨by simp;omega,ah.2 ⟨by simp;omega,?_⟩⟩
        simp only [av]
        refine ⟨⟨i+1,rfl,by omega,fun j hj hji=>?_⟩,by simp;omega⟩
        by_cases e:j=i
        · subst e;exact g
        · exact h2 j hj (by omega)
    · simp at h5
      exact aH.2 fun d hd=>by
        obtain ⟨j,hj,rfl⟩:=List.getElem_of_mem hd
        exact h2 j hj (by omega)
  refine aY (fun _=>True) ?_ fun x _=>?_
  · refine dk (fun x=>c.length-x.2.1.toNat) (fun x=>0≤x.2.1∧x.2.1≤(c.length:Int)) (by simp) ?_
    rintro ⟨s,i,u⟩ ⟨i1,i2⟩
    dsimp only at i1 i2 ⊢
    simp [eo]
    omega
  · refine ac.2 ⟨fun _=>by simp,fun e=>ac.2 ⟨fun _=>by simp,fun _=>ai.2 fun _=>⟨by simp at e;omega,hs⟩⟩⟩
theorem nU (n:Int) (h:I64 n):Tot (α:=ByteArray×Unit) (strconv_Itoa.F (n,())) fun y=>y.1.size≤21:=by
 rw [strconv_Itoa.eq]
 show Tot (α:=ByteArray×Unit) (if -9223372036854775808≤n∧n≤9223372036854775807 then some (dB n,()) else none) _
 rw [if_pos h]
 exact ai.2 (Lib.itoa_length_le n h.1 h.2)
theorem AO {w : List UInt8} {v : Int} (h : Lib.atoiAll w = .ok v) : I64 v := by
  unfold Lib.atoiAll at h
  split at h
  · cases h
  · simp only at h
    split at h
    · cases h
    · cases h
    · split at h
      · cases h
      · split at h
        · cases h
        · cases h
          constructor<;>split<;>omega
theorem uG (a b:ByteArray) (h:a.size≤1000000):Tot (α:=Bool×Unit) (strings_Contains.F (a,b,())) fun _=>True:=by
 rw [strings_Contains.eq]
 show Tot (α:=Bool×Unit) (if a.size<4294967281 then some (Lib.contains a.data.toList b.data.toList,()) else none) _
 rw [if_pos (by omega)]
 exact ai.2 trivial
theorem of_t (c:Int):Tot (gJ.F (c,())) fun _=>True:=by
 rw [gJ.eq];unfold gJ.B
 refine aY (fun _=>True) (by simp) fun x _=>ac.2 ⟨fun _=>by simp,fun _=>?_⟩
 refine aY (fun _=>True) (by simp) fun x _=>?_
 simp
theorem run_t (l:List Int) (s:ByteArray) (i:Int) (hl:l.length≤10) (h0:0≤i) (h:i≤(s.size:Int)) (hs:s.size≤100000):Tot (bT.F (l,s,i,())) fun y=>y.1.size≤s.size∧y.2.1=s∧i≤y.2.2.1∧y.2.2.1≤(s.size:Int):=by
 rw [bT.eq];unfold bT.B
 refine aY (fun x=>x.1=s∧i≤x.2.1∧x.2.1≤(s.size:Int)) ?_ ?_
 ·refine dk (fun x=>s.size-x.2.1.toNat) (fun x=>x.1=s∧i≤x.2.1∧x.2.1≤(s.size:Int)) ⟨rfl,by simp,h⟩ ?_
  rintro ⟨z,j,_⟩ ⟨e,j1,j2⟩
  dsimp only at e j1 j2 ⊢
  subst e
  refine ac.2 ⟨fun h5=>?_,fun _=>aH.2 ⟨rfl,j1,j2⟩⟩
  simp at h5
  have hw:wr (j+1)=j+1:=bB (by omega) (by omega)
  refine ah.2 ⟨by simp;omega,af.2 ((of_t _).mono fun y _=>?_)⟩
  refine aY (fun _=>True) ?_ fun x _=>ac.2 ⟨fun _=>aH.2 ⟨rfl,j1,j2⟩,fun _=>by simp [hw];omega⟩
  refine dk (fun x=>l.length-x.2.1.toNat) (fun x=>0≤x.2.1∧x.2.1≤(l.length:Int)) (by simp) ?_
  rintro ⟨b,k,_⟩ ⟨k1,k2⟩
  dsimp only at k1 k2 ⊢
  simp [eo]
  omega
 ·rintro ⟨z,j,_⟩ ⟨e,j1,j2⟩
  dsimp only at e j1 j2 ⊢
  subst e
  refine ah.2 ⟨by simp;omega,ai.2 ⟨by simp;omega,rfl,j1,j2⟩⟩
theorem AP (s:ByteArray) (h:s.size≤100000):Tot (ft.F (s,())) fun _=>True:=by
 rw [ft.eq];unfold ft.B
 refine aY (fun _=>True) ?_ fun _ _=>af.2 ((run_t _ s 0 (by simp) (by omega) (by omega) h).mono fun _ _=>by simp)
 refine ac.2 ⟨fun _=>by simp,fun h1=>ac.2 ⟨fun _=>by simp,fun _=>ah.2 ⟨?_,af.2 ((of_t _).mono fun _ _=>by simp)⟩⟩⟩
 have:s.size≠0:=fun e=>by
  have:s=⟨#[]⟩:=by
   obtain ⟨⟨l⟩⟩:=s
   cases l with
   |nil=>rfl
   |cons a r=>simp at e
  rw [this] at h1
  simp [sq] at h1
 simp
 omega
theorem ln (a b:Int) (s:ByteArray):Tot (dz.F (a,b,s,())) fun y=>y.1=true→a=3→s.size≤1000:=by
 rw [dz.eq];unfold dz.B
 simp
 omega
theorem vL (s:ByteArray) (k:Nat):0≤bM s k∧bM s k<256:=by
 unfold bM
 have:=(s.data.toList.getD k 0).toNat_lt
 omega
theorem yQ (d:Int) (s:ByteArray) (i:Int) (h0:0≤i) (h:i≤1000000) (hs:s.size≤100000) (hd:0≤d∧d≤1):∃b,aZ.F (d,s,i,())=some (b,s,i,())∧0≤b∧b<256∧(i+d<s.size→b=bM s (i+d).toNat):=by
 rw [aZ.eq];unfold aZ.B
 have hw:wr (i+d)=i+d:=bB (by omega) (by omega)
 dsimp only
 simp only [hw]
 by_cases h5:i+d≥s.size
 ·exact ⟨0,by simp [h5],by omega,by omega,by omega⟩
 ·have:ib (i+d) s.size=true:=by simp;omega
  refine ⟨bM s (i+d).toNat,by simp [h5,this,ck],(vL _ _).1,(vL _ _).2,fun _=>rfl⟩
theorem dl (s:ByteArray):s.data.toList.length=s.size:=Array.length_toList
theorem nj (a b:List UInt8):∀(k:Nat) (s:List UInt8),(Lib.replaceK a b k s).length≤s.length+k*b.length
  |0,s=>by simp [Lib.replaceK]
  | k + 1,s => by
    rw [Lib.replaceK]
    split
    · omega
    · have:=nj a b k (s.drop ((Lib.index s a).toNat+a.length))
      simp only [List.length_append,List.length_take,List.length_drop,Nat.succ_mul] at this ⊢
      omega
theorem xf (s:ByteArray) (h:s.size≤1000):Tot (α:=ByteArray×Unit) (strings_ReplaceAll.F (s,⟨#[39]⟩,⟨#[39,39]⟩,())) fun y=>y.1.size≤4000:=by
 rw [strings_ReplaceAll.eq]
 have hc:Lib.countB s ⟨#[39]⟩≤s.size+1:=by
  have:=Lib.count_le s.data.toList [39]
  rw [dl] at this
  exact this
 show Tot (α:=ByteArray×Unit) (if s.size<4294967281∧1≤(⟨#[39]⟩:ByteArray).size∧s.size+Lib.countB s ⟨#[39]⟩*(⟨#[39,39]⟩:ByteArray).size≤140737488355328 then some (lU s ⟨#[39]⟩ ⟨#[39,39]⟩,()) else none) _
 rw [if_pos ⟨by omega,by simp,by simp;omega⟩]
 refine ai.2 ?_
 have:=nj [39] [39,39] (Lib.replaceNum s.data.toList [39] (-1)) s.data.toList
 have h2:Lib.replaceNum s.data.toList [39] (-1)≤s.size+1:=by
  unfold Lib.replaceNum
  rw [if_pos (by omega)]
  exact hc
 have h3:=dl s
 simp only [lU,Lib.replaceAll,Lib.replace,bsz,List.size_toArray]
 rw [if_neg (by simp)]
 rw [h3] at this
 simp at this ⊢
 omega
theorem yR (sep : ByteArray) (m : Nat) : ∀ (l : List ByteArray),(∀ x ∈ l,x.size ≤ m) → (jr l sep).size ≤ l.length * (m + sep.size)
  | [],_=>by simp [jr,Lib.join]
  | x :: r,h => by
    simp only [jr,bsz,List.size_toArray,List.map_cons,Lib.join_cons,List.length_append,Lib.joinTail]
    have h1:x.data.toList.length≤m:=by rw [dl];exact h x (by simp)
    have h2:∀(r:List ByteArray),(∀x∈r,x.size≤m)→(((r.map (·.data.toList)).map (sep.data.toList++ ·)).flatten).length≤r.length*(m+sep.size):=by
      intro r hr
      induction r with
      |nil=>simp
      |cons y r ih=>
        have h1:y.data.toList.length≤m:=by rw [dl];exact hr y (by simp)
        have:=ih fun x hx=>hr x (by simp [hx])
        have h3:=dl sep
        simp only [List.map_cons,List.flatten_cons,List.length_append,List.length_cons,Nat.succ_mul]
        omega
    have:=h2 r fun x hx=>h x (by simp [hx])
    simp only [List.length_cons,Nat.succ_mul]
    omega
def Wd (n:Nat) (l:List ByteArray):Prop:=l.length≤n∧∀x∈l,x.size≤5000
theorem yS (l:List ByteArray) (n:Nat) (hn:n≤1000000) (h:Wd n l) (m:Nat) (hm:m≤5000) (h2:∀x∈l,x.size≤m):Tot (α:=ByteArray×Unit) (strings_Join.F (l,⟨#[32]⟩,())) fun y=>y.1.size≤l.length*(m+1):=by
 rw [strings_Join.eq]
 have:=yR ⟨#[32]⟩ m l h2
 have h3:l.length*(m+(⟨#[32]⟩:ByteArray).size)≤1000000*5001:=Nat.mul_le_mul (by have:=h.1;omega) (by simp;omega)
 have h4:=h.1
 show Tot (α:=ByteArray×Unit) (if l.length≤140737488355328∧(jr l ⟨#[32]⟩).size≤140737488355328 then some (jr l ⟨#[32]⟩,()) else none) _
 rw [if_pos ⟨by omega,by omega⟩]
 exact ai.2 (by simpa using this)
theorem ta (k:Int) (w:ByteArray) (a b:Int) (s:ByteArray) (hw:w.size≤100000):Tot (fj.F (k,w,a,b,s,())) fun _=>True:=by
 rw [fj.eq];unfold fj.B
 refine ac.2 ⟨fun _=>af.2 ((AP w hw).mono fun _ _=>by simp),fun _=>ac.2 ⟨fun _=>?_,fun _=>?_⟩⟩
 ·exact ac.2 ⟨fun _=>af.2 ((ln _ _ _).mono fun _ _=>by simp),fun _=>by simp⟩
 ·exact ac.2 ⟨fun _=>ac.2 ⟨fun _=>af.2 ((uG _ _ (by simp)).mono fun _ _=>by simp),fun _=>by simp⟩,fun _=>by simp⟩
theorem tb (a b:Int) (s:ByteArray) (hb:I64 b) (hs:s.size≤1000):Tot (dM.F (a,b,s,())) fun y=>y.1.size≤4002:=by
 rw [dM.eq];unfold dM.B
 refine ac.2 ⟨fun _=>by simp,fun _=>ac.2 ⟨fun _=>?_,fun _=>ac.2 ⟨fun _=>af.2 ((nU b hb).mono fun y hy=>ai.2 (by simp;omega)),fun _=>ac.2 ⟨fun _=>af.2 ((xf s hs).mono fun y hy=>?_),fun _=>by simp⟩⟩⟩⟩
 ·rw [cA.eq];unfold cA.B
  rw [bi.eq];unfold bi.B
  simp
 ·simp
  omega
theorem uH (t:aX) (h:I64 t.2.2.2.1∧t.2.2.2.2.size≤1000∧t.2.1.size≤1000):Tot (dZ.F ([t],())) fun y=>y.1.size≤5000:=by
  rw [dZ.eq];unfold dZ.B
  refine aY (fun x=>x.1.length≤1∧∀w∈x.1,w.size≤4002) ?_ fun x hx=>af.2 ((yS _ 1 (by omega) ⟨hx.1,fun w hw=>by have:=hx.2 w hw;omega⟩ 4002 (by omega) hx.2).mono fun y hy=>ai.2 ?_)
  · refine dk (fun x=>1-x.1.toNat) (   fun x=>0≤x.1∧x.1≤1∧(x.2.1.length:Int)≤x.1∧∀w∈x.2.1,w.size≤4002) (by simp) ?_
    rintro ⟨i,l,_⟩ ⟨i1,i2,i3,i4⟩
    dsimp only at i1 i2 i3 i4 ⊢
    refine ac.2 ⟨fun h5=>?_,fun h5=>aH.2 ⟨by dsimp only;omega,i4⟩⟩
    simp at h5
    have e : gt [t] i dS.z = t := by   have : i = 0 := by omega
                                       subst this;rfl
    have hw:wr (i+1)=i+1:=bB (by omega) (by omega)
    simp only [e,hw]
    refine ah.2 ⟨by simp;omega,af.2 ((ta _ _ _ _ _ (by omega)).mono fun y _=>ac.2 ⟨fun _=>aH.2 (by simp),fun _=>ac.2 ⟨fun _=>af.2 ((tb _ _ _ h.1 h.2.1).mono fun z hz=>?_),fun _=>?_⟩⟩)⟩
    · refine ah.2 ⟨by simp;omega,av.2 ⟨⟨by dsimp only;omega,by dsimp only;omega,by simp;omega,?_⟩,by dsimp only;omega⟩⟩
      intro w hw
      rcases List.mem_append.1 hw with hw|hw
      · exact i4 w hw
      · simp at hw;subst hw;exact hz
    · refine ah.2 ⟨by simp;omega,av.2 ⟨⟨by dsimp only;omega,by dsimp only;omega,by simp;omega,?_⟩,by dsimp only;omega⟩⟩
      intro w hw
      rcases List.mem_append.1 hw with hw|hw
      · exact i4 w hw
      · simp at hw;subst hw;have:=h.2.2;omega
  · have:=Nat.mul_le_mul_right (4002+1) hx.1
    dsimp only
    omega
theorem uI (a b:Int) (s:ByteArray) (hb:I64 b) (hs:s.size≤1000):Tot (α:=ByteArray×Unit) (cZ.F (a,b,s,())) fun y=>y.1.size≤5000:=by
 rw [cZ.eq]
 show Tot (α:=ByteArray×Unit) (bif (a==(0:Int))&&(b==(0:Int))&&(s==(⟨#[]⟩:ByteArray)) then some ((⟨#[110,117,108,108]⟩:ByteArray),())
  else bif (a==(1:Int))&&(b==(0:Int))&&(s==(⟨#[]⟩:ByteArray)) then some ((⟨#[102,97,108,115,101]⟩:ByteArray),())
  else bif (a==(1:Int))&&(b==(1:Int))&&(s==(⟨#[]⟩:ByteArray)) then some ((⟨#[116,114,117,101]⟩:ByteArray),())
  else Option.bind (fj.F ((1:Int),(⟨#[]⟩:ByteArray),a,b,s,())) fun y=>
  bif (!y.1) then some ((⟨#[33]⟩:ByteArray),()) else Option.bind (dZ.F ([((1:Int),(⟨#[]⟩:ByteArray),a,b,s)],())) fun z=>some (z.1,())) _
 refine ac.2 ⟨fun _=>by simp,fun _=>ac.2 ⟨fun _=>by simp,fun _=>ac.2 ⟨fun _=>by simp,fun _=>af.2 ((ta _ _ _ _ _ (by simp)).mono fun y _=>ac.2 ⟨fun _=>by simp,fun _=>af.2 ((uH _ ⟨hb,hs,by simp⟩).mono fun z hz=>ai.2 hz)⟩)⟩⟩⟩
theorem Wd.app {n k:Nat} {l p:List ByteArray} (h:Wd n l) (h2:Wd k p):Wd (n+k) (l++p):=⟨by have:=h.1;have:=h2.1;simp;omega,fun x hx=>by
 rcases List.mem_append.1 hx with hx|hx
 ·exact h.2 x hx
 ·exact h2.2 x hx⟩
theorem Wd.le {n m:Nat} {l:List ByteArray} (h:Wd n l) (hm:n≤m):Wd m l:=⟨by have:=h.1;omega,h.2⟩
theorem kN {n k:Nat} {l p:List ByteArray} (hn:n+k≤1000000) (h:Wd n l) (hp:Wd k p):Tot (bm.F (p,l,())) fun y=>Wd (n+k) y.1:=by
 rw [bm.eq];unfold bm.B
 exact ah.2 ⟨by have:=h.1;have:=hp.1;simp;omega,ai.2 (h.app hp)⟩
theorem jV {n k:Nat} {l p:List ByteArray} (b:Bool) (hn:n+k≤1000000) (h:Wd n l) (hp:Wd k p):Tot (bq.F (b,p,l,())) fun y=>Wd (n+k) y.1:=by
 rw [bq.eq];unfold bq.B
 exact ac.2 ⟨fun _=>af.2 ((kN hn h hp).mono fun y hy=>ai.2 hy),fun _=>ai.2 (h.le (by omega))⟩
theorem w1 {x:ByteArray} (h:x.size≤5000):Wd 1 [x]:=⟨by simp,by simp;exact h⟩
theorem w0:Wd 0 []:=⟨by simp,by simp⟩
theorem Wd.c {n:Nat} {x:ByteArray} {l:List ByteArray} (h:x.size≤5000) (hl:Wd n l):Wd (n+1) (x::l):=⟨by have:=hl.1;simp;omega,fun y hy=>by
 rcases List.mem_cons.1 hy with rfl|hy
 ·exact h
 ·exact hl.2 y hy⟩
theorem oD (n:Int) (l:List ByteArray) (h:∀x∈l,x.size≤100):Tot (fd.F (n,l,())) fun y=>y.1.size≤100:=by
 rw [fd.eq];unfold fd.B
 refine ac.2 ⟨fun _=>by simp,fun h1=>ac.2 ⟨fun _=>by simp,fun h2=>?_⟩⟩
 simp at h1 h2
 exact ah.2 ⟨by simp;omega,ai.2 (h _ (d9 h1 h2))⟩
theorem vM (e:List ak) (he:Ex e) {n:Nat} {l:List ByteArray} (hn:n≤900000) (h:Wd n l):Tot (b9.F (e,l,())) fun y=>Wd (n+130) y.1:=by
 rw [b9.eq];unfold b9.B
 have hl:=he.1
 refine af.2 ((kN (by omega) h (w1 (by simp))).mono fun y hy=>?_)
 refine aY (fun x=>Wd (n+121) x.1) ?_ fun x hx=>af.2 ((kN (by omega) hx (w1 (by simp))).mono fun z hz=>ai.2 (hz.le (by omega)))
 refine dk (fun x=>e.length-x.1.toNat) (fun x=>0≤x.1∧x.1≤(e.length:Int)∧Wd (n+1+x.1.toNat) x.2.1) ⟨by simp,by simp,by simpa using hy⟩ ?_
 rintro ⟨i,o,_⟩ ⟨i1,i2,i3⟩
 dsimp only at i1 i2 i3 ⊢
 refine ac.2 ⟨fun h5=>?_,fun h5=>aH.2 (i3.le (by simp at h5;omega))⟩
 simp at h5
 have hw:wr (i+1)=i+1:=bB (by omega) (by omega)
 have hN:=he.2 _ (d9 (z:=bN.z) i1 h5)
 simp only [hw]
 have fin:∀(x:ByteArray),x.size≤5000→Tot (bm.F ([x],o,())) fun y=>(0≤i+1∧i+1≤(e.length:Int)∧Wd (n+1+(i+1).toNat) y.1)∧e.length-(i+1).toNat<e.length-i.toNat:=fun x hx=>
  (kN (by omega) i3 (w1 hx)).mono fun y hy=>⟨⟨by omega,by omega,hy.le (by omega)⟩,by omega⟩
 refine ah.2 ⟨by simp;omega,ac.2 ⟨fun _=>af.2 ((nU _ hN.1).mono fun y hy=>ah.2 ⟨by simp;omega,af.2 ((fin _ (by simp;omega)).mono fun z hz=>av.2 hz)⟩),fun _=>ac.2 ⟨fun _=>af.2 ((uI _ _ _ hN.2.1 hN.2.2).mono fun y hy=>af.2 ((fin _ hy).mono fun z hz=>av.2 hz)),fun _=>
  af.2 ((oD _ _ (by simp)).mono fun y hy=>af.2 ((fin _ (by omega)).mono fun z hz=>av.2 hz))⟩⟩⟩
theorem iC {S R:Type} {x:Option R} {P:S⊕R→Prop}:Tot (Option.map Sum.inr x) P↔Tot x fun y=>P (.inr y):=by
 cases x<;>simp
theorem yT (nm:ByteArray) (cs:List aB) (es:List (List ak)) (hn:nm.size≤100) (hc:cs.length≤400) (hc2:∀c∈cs,c.1.size≤100∧c.2.2.2.2.1.size≤100) (he:es.length≤400) (he2:∀e∈es,Ex e):
 Tot (bR.F (nm,cs,es,[],())) fun y=>Wd 100000 y.1:=by
 rw [bR.eq];unfold bR.B
 refine af.2 ((kN (by omega) w0 (Wd.c (by simp) (Wd.c (by omega) (w1 (by simp))))).mono fun y hy=>?_)
 refine dk (fun x=>cs.length-x.1.toNat) (fun x=>0≤x.1∧x.1≤(cs.length:Int)∧Wd (3+10*x.1.toNat) x.2.1) ⟨by simp,by simp,by simpa using hy⟩ ?_
 rintro ⟨i,o,_⟩ ⟨i1,i2,i3⟩
 dsimp only at i1 i2 i3 ⊢
 refine ac.2 ⟨fun h5=>?_,fun h5=>?_⟩
 ·simp at h5
  have hw:wr (i+1)=i+1:=bB (by omega) (by omega)
  have hC:=hc2 _ (d9 (z:=aV.z) i1 h5)
  refine aY (fun x=>Wd (3+10*i.toNat+8) x.1) ?_ fun x hx=>?_
  ·refine af.2 ((jV _ (by omega) i3 (w1 (by simp))).mono fun a ha=>ah.2 ⟨by simp;omega,af.2 ((oD _ _ (by simp)).mono fun b hb=>af.2 ((kN (by omega) ha (Wd.c (by omega) (w1 (by omega)))).mono fun c hc=>?_))⟩)
   refine af.2 ((jV _ (by omega) hc (w1 (by simp))).mono fun d hd=>af.2 ((jV _ (by omega) hd (w1 (by simp))).mono fun f hf=>?_))
   refine af.2 ((oD _ _ (by simp)).mono fun g hg=>af.2 ((jV _ (by omega) hf (Wd.c (by simp) (Wd.c (by omega) (w1 (by omega))))).mono fun k hk=>av.2 (hk.le (by omega))))
  ·simp only [av,hw]
   exact ⟨⟨by omega,by omega,hx.le (by omega)⟩,by omega⟩
 ·simp at h5
  refine iC.2 (af.2 ((kN (by omega) i3 (w1 (by simp))).mono fun z hz=>?_))
  refine dk (fun x=>es.length-x.1.toNat) (fun x=>0≤x.1∧x.1≤(es.length:Int)∧Wd (4004+131*x.1.toNat) x.2.1) ⟨by simp,by simp,hz.le (by omega)⟩ ?_
  rintro ⟨j,q,_⟩ ⟨j1,j2,j3⟩
  dsimp only at j1 j2 j3 ⊢
  refine ac.2 ⟨fun h6=>?_,fun h6=>aH.2 (j3.le (by simp at h6;omega))⟩
  simp at h6
  have hw:wr (j+1)=j+1:=bB (by omega) (by omega)
  simp only [hw]
  refine ah.2 ⟨by simp;omega,af.2 ((kN (by omega) j3 (w1 (by simp))).mono fun a ha=>af.2 ((vM _ (he2 _ (d9 j1 h6)) (by omega) ha).mono fun b hb=>av.2 ⟨⟨by dsimp only;omega,by dsimp only;omega,hb.le (by dsimp only;omega)⟩,by dsimp only;omega⟩))⟩
theorem AQ (n f w:ByteArray) (a b:Int) (e:List ak) (pk:List Int) (g:Bool) (ag:List cU) (hn:n.size≤100) (hf:f.size≤100) (hw:w.size≤100) (ha:I64 a) (hb:I64 b) (he:Ex e)
 (hp:pk.length≤400) (hp2:∀x∈pk,I64 x) (hg:ag.length≤400) (hg2:∀x∈ag,I64 x.2):Tot (bW.F (n,f,w,a,b,e,pk,g,ag,[],())) fun y=>Wd 100000 y.1:=by
 rw [bW.eq];unfold bW.B
 refine af.2 ((kN (by omega) w0 (Wd.c (by simp) (Wd.c (by omega) (Wd.c (by simp) (w1 (by omega)))))).mono fun y hy=>?_)
 refine aY (fun x=>Wd 10 x.1) ?_ ?_
 ·refine ah.2 ⟨by decide,af.2 ((nU a ha).mono fun u hu=>ah.2 ⟨by decide,af.2 ((nU b hb).mono fun v hv=>?_)⟩)⟩
  exact af.2 ((jV _ (by omega) hy (Wd.c (by simp) (Wd.c (by omega) (Wd.c (by simp) (Wd.c (by omega) (Wd.c (by simp) (w1 (by omega)))))))).mono fun z hz=>av.2 (hz.le (by omega)))
 rintro ⟨o,_⟩ ho
 refine aY (fun x=>Wd 200 x.1) ?_ ?_
 ·refine ac.2 ⟨fun _=>af.2 ((kN (by omega) ho (w1 (by simp))).mono fun z hz=>af.2 ((vM e he (by omega) hz).mono fun u hu=>av.2 (hu.le (by omega)))),fun _=>av.2 (ho.le (by omega))⟩
 rintro ⟨o,_⟩ ho
 refine af.2 ((kN (by omega) ho (w1 (by simp))).mono fun y hy=>?_)
 refine dk (fun x=>pk.length-x.1.toNat) (fun x=>0≤x.1∧x.1≤(pk.length:Int)∧Wd (201+2*x.1.toNat) x.2.1) ⟨by simp,by simp,hy.le (by omega)⟩ ?_
 rintro ⟨i,o,_⟩ ⟨i1,i2,i3⟩
 dsimp only at i1 i2 i3 ⊢
 refine ac.2 ⟨fun h5=>?_,fun h5=>?_⟩
 ·simp at h5
  have hw:wr (i+1)=i+1:=bB (by omega) (by omega)
  refine aY (fun x=>Wd (203+2*i.toNat) x.1) ?_ fun x hx=>?_
  ·exact af.2 ((jV _ (by omega) i3 (w1 (by simp))).mono fun c hc=>ah.2 ⟨by simp;omega,af.2 ((nU _ (hp2 _ (d9 i1 h5))).mono fun d hd=>af.2 ((kN (by omega) hc (w1 (by omega))).mono fun k hk=>av.2 (hk.le (by omega))))⟩)
  ·simp only [av,hw]
   exact ⟨⟨by omega,by omega,hx.le (by omega)⟩,by omega⟩
 ·simp at h5
  refine iC.2 (af.2 ((jV _ (by omega) i3 (w1 (by simp))).mono fun z hz=>?_))
  refine dk (fun x=>ag.length-x.1.toNat) (fun x=>0≤x.1∧x.1≤(ag.length:Int)∧Wd (1002+3*x.1.toNat) x.2.1) ⟨by simp,by simp,hz.le (by omega)⟩ ?_
  rintro ⟨j,q,_⟩ ⟨j1,j2,j3⟩
  dsimp only at j1 j2 j3 ⊢
  refine ac.2 ⟨fun h6=>?_,fun h6=>aH.2 (j3.le (by simp at h6;omega))⟩
  simp at h6
  have hw:wr (j+1)=j+1:=bB (by omega) (by omega)
  have hs:=hg2 _ (d9 (z:=ep.z) j1 h6)
  refine aY (fun x=>Wd (1005+3*j.toNat) x.1) ?_ fun x hx=>?_
  ·refine af.2 ((jV _ (by omega) j3 (w1 (by simp))).mono fun c hc=>ah.2 ⟨by simp;omega,af.2 ((oD _ _ (by simp)).mono fun d hd=>af.2 ((kN (by omega) hc (w1 (by omega))).mono fun k hk=>?_))⟩)
   exact af.2 ((nU _ hs).mono fun d hd=>af.2 ((jV _ (by omega) hk (w1 (by omega))).mono fun k hk=>av.2 (hk.le (by omega))))
  ·simp only [av,hw]
   exact ⟨⟨by omega,by omega,hx.le (by omega)⟩,by omega⟩
variable {n:Nat} {L:List aX}
end Go.Proofs.Ytpoffnlnhdbpmaa
end
