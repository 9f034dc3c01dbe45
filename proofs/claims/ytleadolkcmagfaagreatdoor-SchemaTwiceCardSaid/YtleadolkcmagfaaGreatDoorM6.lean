import Derived.Test.YtleadolkcmagfaaGreatDoorM5
import Derived.Test.YtleadolkcmagfaaGreatDoorDC
import Derived.KernelRfl
import Derived.Test.YtleadolkcmagfaaGreatDoorM3
import Derived.Lay
import Derived.SevenTiedAt
import Derived.Stop.LaidErr
import Derived.Lib.LaidTab
import Derived.Test.YtleadolkcmagfaaGreatDoorCards
import Derived.Test.YtleadolkcmagfaaGreatDoorTie
import Derived.Test.YtleadolkcmagfaaGreatDoorChecked
set_option linter.all false
set_option linter.unusedVariables false
set_option linter.unusedSimpArgs false
set_option linter.unusedSectionVars false
section
set_option maxRecDepth 100000
namespace Go.Proofs.Ytleadolkcmagfaa
open Go Lv Go.Proofs Go.RowKit Go.Shelf Dl
def nameP (d:Dl.Def):ByteArray:=if d.1=0 then d.2.1.1 else d.2.2.1
theorem E5 (k:Int) (tn:ByteArray) (c:List Col) (ck:List (List ae)) (vn vf vw:ByteArray) (o1 o2:Int) (wh:List ae) (pk:List Int) (gr:Bool) (ag:List Agg):cn.F (k,tn,c,ck,vn,vf,vw,o1,o2,wh,pk,gr,ag,())=some (nameP (k,((tn,(c,ck)),(vn,(vf,(vw,((o1,o2),(wh,(pk,(gr,ag))))))))),()):=by
 rw [cn.eq];unfold cn.B;by_cases h:k=0<;>simp [nameP,b_eq,h]
theorem E6 (k:Int) (tn:ByteArray) (c:List Col) (ck:List (List ae)) (vn vf vw:ByteArray) (o1 o2:Int) (wh:List ae) (pk:List Int) (gr:Bool) (ag:List Agg):dI.F (k,tn,c,ck,vn,vf,vw,o1,o2,wh,pk,gr,ag,())=some (nameP (k,((tn,(c,ck)),(vn,(vf,(vw,((o1,o2),(wh,(pk,(gr,ag))))))))),()):=by
 rw [dI.eq];unfold dI.B;by_cases h:k=0<;>simp [nameP,b_eq,h]
def lx (nm:ByteArray):List Dl.Def→Nat→Int
 | [],_=>-1
 |d::r,i=>if nameP d=nm then i else lx nm r (i+1)
def ez (l:List Dl.Def) (nm:ByteArray):Int:=lx nm l 0
theorem qa (l:List Dl.Def) (nm:ByteArray) (hl:Ln l):bn.F (l,nm,())=some (ez l nm,()):=by
 rw [bn.eq]
 unfold bn.B
 have hf:∀(l:List Dl.Def) (i:Nat),iQ (fun (d:Dl.Def) (i:Nat)=>if nameP d=nm then (.inr ((i:Int),()):Nat⊕(Int×Unit)) else .inl (i+1)) (fun _=>((-1:Int),())) l i=(lx nm l i,()):=by
  intro l
  induction l with
  |nil=>intro i;rfl
  |cons d r ih=>
   intro i
   simp only [iQ,lx]
   by_cases h:nameP d=nm
   ·rw [if_pos h,if_pos h]
   ·rw [if_neg h,if_neg h];exact ih _
 refine (AR (fun i (_:Nat)=>(i,())) l (fun i st=>st=i) (fun (d:Dl.Def) (i:Nat)=>if nameP d=nm then (.inr ((i:Int),()):Nat⊕(Int×Unit)) else .inl (i+1)) (fun _=>((-1:Int),())) ?_ ?_ 0 rfl).trans (congrArg some (hf l 0))
 ·intro i hi st hst
  rw [hst]
  have d1:decide ((i:Int)<(l.length:Int))=true:=by simp;omega
  have d0:decide (0≤(i:Int))=true:=by simp
  simp only [d1,d0,Bool.and_self,cond_true,Int.toNat_natCast,bV hi,cz hi (show l.length<9223372036854775808 by have:l.length<1000000000000000:=hl;omega),E5,Option.bind_some,dZ]
  rw [show nameP (l[i].1,((l[i].2.1.1,(l[i].2.1.2.1,l[i].2.1.2.2)),(l[i].2.2.1,(l[i].2.2.2.1,(l[i].2.2.2.2.1,((l[i].2.2.2.2.2.1.1,l[i].2.2.2.2.2.1.2),(l[i].2.2.2.2.2.2.1,(l[i].2.2.2.2.2.2.2.1,(l[i].2.2.2.2.2.2.2.2.1,l[i].2.2.2.2.2.2.2.2.2)))))))))=nameP l[i] from rfl]
  by_cases h:nameP l[i]=nm
  ·simp [h]
  ·simp [h]
 ·intro st hst
  have d1:decide ((l.length:Int)<(l.length:Int))=false:=by simp
  simp only [d1,cond_false]
theorem JY (a b:List Bool) (ha:Ln a):db.F (a,b,())=some (decide (a=b),()):=by
 rw [db.eq]
 unfold db.B
 simp only [mM]
 by_cases hl:a.length=b.length
 ·simp only [hl,decide_true,Bool.not_true,cond_false]
  rw [jr a b hl (by have:a.length<1000000000000000:=ha;omega) (true,()) (false,()) ?_ ?_,kH]
  ·intro i hi
   have d1:decide ((i:Int)<(b.length:Int))=true:=by simp;omega
   have d0:decide (0≤(i:Int))=true:=by simp
   simp only [d1,d0,Bool.and_self,cond_true,Int.toNat_natCast,bV hi,bV (show i<b.length by omega),cz hi (show a.length<9223372036854775808 by have:a.length<1000000000000000:=ha;omega)]
   have hb:(a[i]==b[i]'(by omega))=decide (a[i]=b[i]'(by omega)):=by cases a[i]<;>cases (b[i]'(by omega))<;>rfl
   rw [hb]
   by_cases he:a[i]=b[i]'(by omega)
   ·rw [if_pos he,decide_eq_true he];rfl
   ·rw [if_neg he,decide_eq_false he];rfl
  ·have d1:decide ((a.length:Int)<(b.length:Int))=false:=by simp;omega
   simp only [d1,cond_false]
 ·simp only [hl,decide_false,Bool.not_false,cond_true,oo hl]
instance instDef:DecidableEq Dl.Def:=fun a b=>decidable_of_iff (oQ a b=true) (nI a b)
noncomputable def K0:Bool:=(List.range 1001).all fun n=>decide (bC.B (1,(n:Int),())=some (0,(n:Int),()))
theorem Gi:K0=true:=by kernel_rfl
theorem mul_s (n:Nat) (h:n≤1000):bQ.F (1,(n:Int),())=some (0,(n:Int),()):=by
 rw [bQ.eq]
 unfold bQ.B
 rw [bC.eq]
 have:=List.all_eq_true.1 Gi n (List.mem_range.2 (by omega))
 simp only [decide_eq_true_eq] at this
 simp only [this,Option.bind_some]
theorem Gj {n:Int} (h0:0≤n) (h:n≤1000000):IntKind.u64.wrap n=n:=by rw [IntKind.wrap_u64];omega
theorem Ix (n : Nat) (h : n ≤ 1000) : ar.F ([true],(n : Int),()) = some (List.replicate n true,()) := by
  rw [ar.eq]
  unfold ar.B
  have d0:decide ((n:Int)<0)=false:=by simp
  have w1:IntKind.u64.wrap ((([true]:List Bool).length:Int))=1:=by decide
  have d1:decide ((0:Int)>0)=false:=by decide
  have d2:decide ((n:Int)>9223372036854775807)=false:=by simp;omega
  have w2:IntKind.i64.wrap (n:Int)=n:=dn (by omega) (by omega)
  have d3:(decide (0≤(n:Int))&&(decide True&&Nat.ble n 140737488355328))=true:=by simp;omega
  simp only [d0,cond_false,Option.bind_some,w1,Gj (show (0:Int)≤n by omega) (show (n:Int)≤1000000 by omega),mul_s n h,d1,d2,w2,Int.toNat_natCast,d3,cond_true]
  refine fd (m:=fun (s:Int×List Bool×Unit)=>n-s.1.toNat) (I:=fun (s:Int×List Bool×Unit)=>s.2.1.length=n∧∃x:Nat,s.1=(x:Int)∧x≤n∧(1≤x∨n=0)∧s.2.1.take x=List.replicate x true) (f:=fun _=>(List.replicate n true,())) ?_ _ ?_
  · rintro ⟨x,l,⟨⟩⟩ ⟨hl,k,hx,hk,h1,ht⟩
    simp only at hl hx ht
    subst hx
    by_cases hlt:k<n
    · have e1:decide ((k:Int)<(l.length:Int))=true:=by simp;omega
      have e2:(decide (0≤(k:Int))&&(decide ((k:Int)≤(l.length:Int))&&decide ((l.length:Int)≤(l.length:Int))))=true:=by simp;omega
      have e3:(decide (0≤(0:Int))&&(decide ((0:Int)≤(k:Int))&&decide ((k:Int)≤(l.length:Int))))=true:=by simp;omega
      have hm0:Nat.min k (n-k)=min k (n-k):=rfl
      refine .inl ⟨(((k+Nat.min k (n-k):Nat):Int),(List.replicate k true++List.take (Nat.min k (n-k)) (List.replicate k true)++List.drop (k+Nat.min k (n-k)) l),()),?_,⟨?_,k+Nat.min k (n-k),rfl,by omega,by omega,?_⟩,by show n-Int.toNat _<n-Int.toNat _;rw [Int.toNat_natCast,Int.toNat_natCast];omega,rfl⟩
      · simp only [e1,cond_true]
        rw [e2,cond_true,e3,cond_true]
        simp only [Int.toNat_natCast,Int.toNat_zero,List.drop_zero,Nat.sub_zero,ht,List.length_replicate,hl]
        have w:IntKind.i64.wrap ((k:Int)+((Nat.min k (n-k):Nat):Int))=((k+Nat.min k (n-k):Nat):Int):=by rw [dn]<;>omega
        rw [w]
      · simp;omega
      · have t1:(List.replicate k true).take (Nat.min k (n-k))=List.replicate (Nat.min k (n-k)) true:=by rw [List.take_replicate];congr 1;omega
        rw [t1,List.replicate_append_replicate,List.take_left' (by simp)]
    · refine .inr ?_
      have e1:decide ((k:Int)<(l.length:Int))=false:=by simp;omega
      have hkn:k=n:=by omega
      rw [List.take_of_length_le (by omega),hkn] at ht
      simp only [e1,cond_false]
      rw [ht]
  · cases n with
    |zero=>exact ⟨rfl,0,rfl,by omega,.inr rfl,rfl⟩
    |succ n=>
      have hm:Nat.min ([true]:List Bool).length (List.replicate (n+1) false).length=1:=by
        show min _ _=_
        simp
      simp only [hm]
      exact ⟨by simp,1,rfl,by omega,.inl (by omega),by simp⟩
theorem Gk {R:Type} (p:Bool→Option R) (r:Option R) (h1:p true=r) (h0:p false=r):th p=r:=by
 unfold th;rw [h1,h0,if_pos rfl]
theorem nM {α:Type} (l:List α) (n:Nat) (hl:Ln l) (hn:1000000000000000≤n*1000000) (hn2:1000000000≤n) (hs:l.length≤1000000):
 (bif l.isEmpty then th (fun b1=>(bif b1 then some ([],()) else bif (Nat.ble (([]:List α).length+l.length) n) then some ((([]:List α)++l),()) else none)) else bif (Nat.ble (([]:List α).length+l.length) n) then some ((([]:List α)++l),()) else none)=some (l,()):=by
 have hb:Nat.ble (([]:List α).length+l.length) n=true:=Nat.ble_eq_true_of_le (by simp;omega)
 rw [hb]
 cases l with
 |nil=>
  rw [show ([]:List α).isEmpty=true from rfl,cond_true]
  apply Gk<;>rfl
 |cons a r=>rfl
theorem D9 (l:List Col) (h:l.length≤1000):ac.F (l,())=some (l,()):=by
 rw [ac.eq];exact nM l _ (by show _<_;omega) (by decide) (by decide) (by omega)
theorem Bc (l:List (List ae)) (h:l.length≤1000):ai.F (l,())=some (l,()):=by
 rw [ai.eq];exact nM l _ (by show _<_;omega) (by decide) (by decide) (by omega)
theorem uV (l:List ae) (h:l.length≤1000):ak.F (l,())=some (l,()):=by
 rw [ak.eq];exact nM l _ (by show _<_;omega) (by decide) (by decide) (by omega)
theorem Ea (l:List Int) (h:l.length≤1000):aE.F (l,())=some (l,()):=by
 rw [aE.eq];exact nM l _ (by show _<_;omega) (by decide) (by decide) (by omega)
theorem Eb (l:List Agg) (h:l.length≤1000):al.F (l,())=some (l,()):=by
 rw [al.eq];exact nM l _ (by show _<_;omega) (by decide) (by decide) (by omega)
theorem CV (k : Int) (tn : ByteArray) (c : List Col) (ck : List (List ae)) (vn vf vw : ByteArray) (o1 o2 : Int) (wh : List ae) (pk : List Int) (gr : Bool) (ag : List Agg) (h : Fit (k,((tn,(c,ck)),(vn,(vf,(vw,((o1,o2),(wh,(pk,(gr,ag)))))))))) : bK.F (k,tn,c,ck,vn,vf,vw,o1,o2,wh,pk,gr,ag,()) = some (k,tn,vn,vf,vw,o1,o2,gr,c,ck,wh,pk,ag,()) := by
  rw [bK.eq]
  unfold bK.B
  have h1:c.length≤400:=h.cols
  have h2:ck.length≤400:=h.checks
  have h3:wh.length≤120:=h.whr.1
  have h4:pk.length≤400:=h.pick
  have h5:ag.length≤400:=h.aggs
  have h6:∀e∈ck,e.length≤120:=fun e he=>(h.each e he).1
  simp only [D9 c (by omega),Bc ck (by omega),Option.bind_some]
  have hl:=fd (body:=fun ((x21:Int),(o1_0_0:Int),(o1_0_1:ByteArray),(o1_0_4:ByteArray),(o1_0_5:ByteArray),(o1_0_6:ByteArray),(o1_0_7:Int),(o1_0_8:Int),(o1_0_9:List ae),(o1_0_10:List Int),(o1_0_11:Bool),(o1_0_12:List ct),(o1_0_2:List ba),(o1_0_3:List (List ae)),(_:Unit))=>
      (bif (decide (x21<(ck.length:Int))) then
      bif (decide (0≤x21)&&decide (x21<(o1_0_3.length:Int))) then
      let e3:(List ae):=(List.getD o1_0_3 (Int.toNat x21) [])
      Option.bind (ak.F (e3,())) fun y4=>
      bif (decide (0≤x21)&&decide (x21<(o1_0_3.length:Int))) then
      let e5:Int:=(IntKind.i64.wrap (x21+(1:Int)))
      some (.inl (e5,o1_0_0,o1_0_1,o1_0_4,o1_0_5,o1_0_6,o1_0_7,o1_0_8,o1_0_9,o1_0_10,o1_0_11,o1_0_12,o1_0_2,(List.set o1_0_3 (Int.toNat x21) y4.1),()))
      else none
      else none
      else
      some (.inr (.inl (o1_0_0,o1_0_1,o1_0_4,o1_0_5,o1_0_6,o1_0_7,o1_0_8,o1_0_9,o1_0_10,o1_0_11,o1_0_12,o1_0_2,o1_0_3,()))):Option (_⊕((Int×ByteArray×ByteArray×ByteArray×ByteArray×Int×Int×(List ae)×(List Int)×Bool×(List ct)×(List ba)×(List (List ae))×Unit)⊕(Int×ByteArray×ByteArray×ByteArray×ByteArray×Int×Int×Bool×(List ba)×(List (List ae))×(List ae)×(List Int)×(List ct)×Unit)))))
    (m:=fun s=>ck.length-s.1.toNat) (I:=fun s=>∃x:Nat,x≤ck.length∧s=((x:Int),k,tn,vn,vf,vw,o1,o2,wh,pk,gr,ag,c,ck,())) (f:=fun _=> .inl (k,tn,vn,vf,vw,o1,o2,wh,pk,gr,ag,c,ck,())) (by
      rintro _ ⟨x,hx,rfl⟩
      by_cases hlt:x<ck.length
      · refine .inl ⟨(((x+1:Nat):Int),k,tn,vn,vf,vw,o1,o2,wh,pk,gr,ag,c,ck,()),?_,⟨x+1,by omega,rfl⟩,by simp only [Int.toNat_natCast];omega,rfl⟩
        have d1:decide ((x:Int)<(ck.length:Int))=true:=by simp;omega
        have d0:decide (0≤(x:Int))=true:=by simp
        simp only [d1,d0,Bool.and_self,cond_true,Int.toNat_natCast,bV hlt,uV ck[x] (by have:=h6 _ (List.getElem_mem hlt);omega),Option.bind_some,List.set_getElem_self,cz hlt (show ck.length<9223372036854775808 by omega)]
      · right
        have d1:decide ((x:Int)<(ck.length:Int))=false:=by simp;omega
        simp only [d1,cond_false]) _ ⟨0,by omega,rfl⟩
  refine (cv _ hl).trans ?_
  simp only [uV wh (by omega),Ea pk (by omega),Eb ag (by omega),Option.bind_some]
end Go.Proofs.Ytleadolkcmagfaa
end
section
set_option maxRecDepth 100000
namespace Go.Proofs.Ytleadolkcmagfaa
open Go Lv Go.Proofs Go.RowKit Go.Shelf Dl
theorem JZ (op:Int):∃v,cK.F (op,())=some (v,())∧v≤2∧((op=5∨op=6)→v=2):=by
 rw [cK.eq]
 unfold cK.B
 simp only [b_eq]
 by_cases h0:op=0
 ·subst h0;exact ⟨0,rfl,by omega,by omega⟩
 by_cases h1:op=1
 ·subst h1;exact ⟨0,rfl,by omega,by omega⟩
 by_cases h9:op=9
 ·subst h9;exact ⟨1,rfl,by omega,by omega⟩
 by_cases h10:op=10
 ·subst h10;exact ⟨1,rfl,by omega,by omega⟩
 by_cases h2:op=2
 ·subst h2;exact ⟨2,rfl,by omega,by omega⟩
 by_cases h3:op=3
 ·subst h3;exact ⟨2,rfl,by omega,by omega⟩
 by_cases h4:op=4
 ·subst h4;exact ⟨2,rfl,by omega,by omega⟩
 by_cases h5:op=5
 ·subst h5;exact ⟨2,rfl,by omega,by omega⟩
 by_cases h6:op=6
 ·subst h6;exact ⟨2,rfl,by omega,by omega⟩
 by_cases h7:op=7
 ·subst h7;exact ⟨2,rfl,by omega,by omega⟩
 by_cases h8:op=8
 ·subst h8;exact ⟨2,rfl,by omega,by omega⟩
 simp only [h0,h1,h2,h3,h4,h5,h6,h7,h8,h9,h10,decide_false,cond_false,Option.bind_some]
 exact ⟨-1,rfl,by omega,fun h=>by simp at h⟩
theorem pop_t (ok:Bool) (cs st:List Int) (hs:st.length≤1000):∃x ok' st',aW.F (ok,cs,st,())=some (x,ok',cs,st',())∧st'.length≤st.length:=by
 rw [aW.eq]
 unfold aW.B
 simp only [b_eq]
 by_cases h:st=[]
 ·subst h;exact ⟨0,false,[],rfl,Nat.le_refl _⟩
 ·have hp:0<st.length:=List.length_pos_iff.2 h
  have d0:decide ((st.length:Int)=0)=false:=by simp;omega
  have w:IntKind.i64.wrap ((st.length:Int)-1)=((st.length-1:Nat):Int):=by rw [dn]<;>omega
  have d1:(decide (0≤((st.length-1:Nat):Int))&&decide (((st.length-1:Nat):Int)<(st.length:Int)))=true:=by simp;omega
  have d2:(decide (0≤(0:Int))&&(decide ((0:Int)≤((st.length-1:Nat):Int))&&decide (((st.length-1:Nat):Int)≤(st.length:Int))))=true:=by simp
  simp only [d0,cond_false,w]
  rw [d1,cond_true,d2,cond_true]
  exact ⟨_,_,_,rfl,by rw [List.length_take];omega⟩
theorem Ec (x:Int) (ok:Bool) (cs st:List Int) (hs:st.length≤1000):aO.F (x,ok,cs,st,())=some (ok,cs,st++ [x],()):=by
 rw [aO.eq]
 unfold aO.B
 have:Nat.ble (st.length+([x]:List Int).length) 17592186044416=true:=Nat.ble_eq_true_of_le (by simp;omega)
 show (bif Nat.ble (st.length+([x]:List Int).length) 17592186044416 then _ else _)=_
 rw [this];rfl
theorem Kn (kd : Int) (l : List Int) (hl : l.length ≤ 1000) : ∃ b,dl.F (kd,l,()) = some (b,()) := by
  rw [dl.eq]
  unfold dl.B
  obtain ⟨r,h,_⟩:=rx (body:=fun ((x9:Int),(_:Unit))=>
    (bif (decide (x9<(l.length:Int))) then
    bif (decide (0≤x9)&&decide (x9<(l.length:Int))) then
    let e1:Int:=(List.getD l (Int.toNat x9) (0:Int))
    (bif (e1 !=kd) then
    (bif (e1 !=(0:Int)) then
    some (.inr (false,()))
    else
    let e2:Int:=(IntKind.i64.wrap (x9+(1:Int)))
    some (.inl (e2,())))
    else
    let e3:Int:=(IntKind.i64.wrap (x9+(1:Int)))
    some (.inl (e3,())))
    else none
    else
    some (.inr (true,())) : Option ((Int × Unit) ⊕ (Bool × Unit)))) (m := fun s => l.length - s.1.toNat) (I := fun s => ∃ x : Nat,s = ((x : Int),()) ∧ x ≤ l.length) (Q := fun _ _ => True) (by
      rintro _ ⟨x,rfl,hx⟩
      by_cases hlt:x<l.length
      · have d1:decide ((x:Int)<(l.length:Int))=true:=by simp;omega
        have d0:decide (0≤(x:Int))=true:=by simp
        simp only [d1,d0,Bool.and_self,cond_true,cz hlt (show l.length<9223372036854775808 by omega)]
        have go:(∃s',some (.inl (((x+1:Nat):Int),()))=some (.inl s':(Int×Unit)⊕(Bool×Unit))∧(∃x:Nat,s'=((x:Int),())∧x≤l.length)∧l.length-s'.1.toNat<l.length-x∧True):=
          ⟨_,rfl,⟨x+1,rfl,by omega⟩,by show l.length-Int.toNat _<_;rw [Int.toNat_natCast];omega,trivial⟩
        obtain ⟨s',g1,g2,g3,_⟩:=go
        cases ((l.getD (Int.toNat (x:Int)) 0) !=kd)
        · exact .inl ⟨s',g1,g2,by rw [Int.toNat_natCast];exact g3,fun _ _=>trivial⟩
        · cases ((l.getD (Int.toNat (x:Int)) 0) !=0)
          · exact .inl ⟨s',g1,g2,by rw [Int.toNat_natCast];exact g3,fun _ _=>trivial⟩
          · exact .inr ⟨_,rfl,trivial⟩
      · have d1:decide ((x:Int)<(l.length:Int))=false:=by simp;omega
        simp only [d1,cond_false]
        exact .inr ⟨_,rfl,trivial⟩) ((0:Int),()) ⟨0,rfl,by omega⟩
  obtain ⟨b,u⟩:=r
  exact ⟨b,h⟩
theorem Iy (op:Int) (l:List Int) (hl:l.length≤1000) (h2:(op=5∨op=6)→l.length=2):∃k b,cw.F (op,l,())=some (k,b,()):=by
 rw [cw.eq]
 unfold cw.B
 obtain ⟨b1,a1⟩:=Kn 1 l hl
 obtain ⟨b2,a2⟩:=Kn 2 l hl
 simp only [a1,a2,b_eq,Option.bind_some]
 by_cases e2:op=2
 ·subst e2;exact ⟨_,_,rfl⟩
 by_cases e3:op=3
 ·subst e3;exact ⟨_,_,rfl⟩
 by_cases e4:op=4
 ·subst e4;exact ⟨_,_,rfl⟩
 have key:op=5∨op=6→∃x y,l=[x,y]:=fun h=>by
  have:=h2 h
  match l,this with
  | [x,y],_=>exact ⟨x,y,rfl⟩
 by_cases e5:op=5
 ·obtain ⟨x,y,rfl⟩:=key (.inl e5)
  subst e5
  simp
  refine ⟨1,?_⟩
  cases decide (x=y)<;>cases decide (x=0)<;>cases decide (y=0)<;>simp
 by_cases e6:op=6
 ·obtain ⟨x,y,rfl⟩:=key (.inr e6)
  subst e6
  simp
  refine ⟨1,?_⟩
  cases decide (x=y)<;>cases decide (x=0)<;>cases decide (y=0)<;>simp
 simp only [e2,e3,e4,e5,e6,decide_false,cond_false,Option.bind_some]
 cases decide (op=7)
 ·cases decide (op=8)
  ·cases decide (op=9)<;>exact ⟨_,_,rfl⟩
  ·exact ⟨_,_,rfl⟩
 ·exact ⟨_,_,rfl⟩
theorem K1 (a b:Int) (s:ByteArray):∃r,cA.F (a,b,s,())=some (r,()):=by
 rw [cA.eq]
 unfold cA.B
 simp only []
 generalize (a==(0:Int))=x0,(a==(1:Int))=x1,(a==(2:Int))=x2,(a==(3:Int))=x3,(b==(0:Int))=y0,(b==(1:Int))=y1
 cases x0<;>cases x1<;>cases x2<;>cases x3<;>cases y0<;>cases y1<;>exact ⟨_,rfl⟩
theorem K2 (op n a b : Int) (s : ByteArray) (ok : Bool) (cs st : List Int) (hs : st.length ≤ 500) : ∃ r ok' st',bw.F (op,n,a,b,s,ok,cs,st,()) = some (r,ok',cs,st',()) ∧ st'.length ≤ st.length + 1 := by
  rw [bw.eq]
  unfold bw.B
  obtain ⟨v,ht,hv,hv5⟩:=JZ op
  simp only [ht,Option.bind_some]
  obtain ⟨r,hl,hr⟩:=rx (body:=fun ((x11:Int),(o5_0:List Int),(o0_0_1:Bool),(o0_0_2:List Int),(o0_0_0:List Int),(_:Unit))=>
    (bif (decide (x11<v)) then
    Option.bind (aW.F (o0_0_1,o0_0_2,o0_0_0,())) fun y2=>
    bif (Nat.ble (o5_0.length+ [y2.1].length) 17592186044416) then
    let e3:Int:=(IntKind.i64.wrap (x11+(1:Int)))
    some (.inl (e3,(o5_0++ [y2.1]),y2.2.1,y2.2.2.1,y2.2.2.2.1,()))
    else none
    else
    some (.inr (.inl (o5_0,o0_0_1,o0_0_2,o0_0_0,()))):Option ((Int×(List Int)×Bool×(List Int)×(List Int)×Unit)⊕(((List Int)×Bool×(List Int)×(List Int)×Unit)⊕(Bool×Bool×(List Int)×(List Int)×Unit)))))
    (m:=fun x=>3-x.1.toNat) (I:=fun x=>∃(i:Nat) (l:List Int) (ok:Bool) (st':List Int),x=((i:Int),l,ok,cs,st',())∧l.length=i∧i≤2∧((i:Int)≤v∨i=0)∧st'.length≤st.length)
    (Q:=fun _ r=>∃(l:List Int) (ok:Bool) (st':List Int),r=.inl (l,ok,cs,st',())∧l.length≤2∧(v=2→l.length=2)∧st'.length≤st.length) (by
      rintro _ ⟨i,l,ok,st',rfl,h1,h2,h3,h4⟩
      by_cases hlt:(i:Int)<v
      · obtain ⟨x,ok',st'',hp,hle⟩:=pop_t ok cs st' (by omega)
        have d1:decide ((i:Int)<v)=true:=by simpa using hlt
        have hb:Nat.ble (l.length+([x]:List Int).length) 17592186044416=true:=Nat.ble_eq_true_of_le (by simp;omega)
        have w:IntKind.i64.wrap ((i:Int)+1)=((i+1:Nat):Int):=by rw [dn]<;>omega
        refine .inl ⟨(((i+1:Nat):Int),l++ [x],ok',cs,st'',()),?_,⟨i+1,_,_,_,rfl,by simp;omega,by omega,.inl (by omega),by omega⟩,by show 3-Int.toNat _<3-Int.toNat _;rw [Int.toNat_natCast,Int.toNat_natCast];omega,fun _ h=>h⟩
        simp only [d1,cond_true,hp,Option.bind_some,hb,w]
      · have d1:decide ((i:Int)<v)=false:=by simpa using hlt
        refine .inr ⟨.inl (l,ok,cs,st',()),?_,l,ok,st',rfl,by omega,fun h=>by omega,h4⟩
        simp only [d1,cond_false]) ((0:Int),[],ok,cs,st,()) ⟨0,[],ok,st,rfl,rfl,by omega,.inr rfl,Nat.le_refl _⟩
  obtain ⟨l,ok1,st1,rfl,g1,g2,g3⟩:=hr
  refine (exists_congr fun _=>exists_congr fun _=>exists_congr fun _=>and_congr_left fun _=>by rw [cv _ hl]).2 ?_
  simp only []
  cases ok1 with
  |false=>exact ⟨_,_,_,rfl,by omega⟩
  |true=>
    simp only [Bool.not_true,cond_false,Option.bind_some]
    by_cases hv0:v<0
    · have d:decide (v<0)=true:=by simpa using hv0
      rw [d]
      exact ⟨_,_,_,rfl,by omega⟩
    · have d:decide (v<0)=false:=by simpa using hv0
      simp only [d,cond_false,b_eq]
      have p1:(st1++ [0]).length≤st.length+1:=by simp;omega
      by_cases e0:op=0
      · simp only [e0,decide_true,cond_true]
        by_cases n0:n<0
        · have d:decide (n<0)=true:=by simpa using n0
          simp only [d,cond_true,Option.bind_some]
          exact ⟨_,_,_,rfl,by omega⟩
        have d:decide (n<0)=false:=by simpa using n0
        simp only [d,cond_false]
        by_cases n1:n≥(cs.length:Int)
        · have d:decide (n≥(cs.length:Int))=true:=by simpa using n1
          simp only [d,cond_true,Option.bind_some]
          exact ⟨_,_,_,rfl,by omega⟩
        have d:decide (n≥(cs.length:Int))=false:=by simpa using n1
        have d2:(decide (0≤n)&&decide (n<(cs.length:Int)))=true:=by simp;omega
        simp only [d,cond_false,d2,cond_true]
        cases decide (List.getD cs n.toNat 0<1) with
        |true=>exact ⟨_,_,_,rfl,by omega⟩
        |false=>
          simp only [cond_false,Option.bind_some]
          cases decide (List.getD cs n.toNat 0>3) with
          |true=>exact ⟨_,_,_,rfl,by omega⟩
          |false=>
            simp only [cond_false,Option.bind_some,Ec _ true cs st1 (by omega)]
            exact ⟨_,_,_,rfl,by simp;omega⟩
      · simp only [e0,decide_false,cond_false]
        by_cases e1:op=1
        · obtain ⟨q,hq⟩:=K1 a b s
          simp only [e1,decide_true,cond_true,Ec _ true cs st1 (by omega),Option.bind_some,hq]
          exact ⟨_,_,_,rfl,by simp;omega⟩
        · obtain ⟨kk,q,hq⟩:=Iy op l (by omega) (fun h=>g2 (hv5 h))
          simp only [e1,decide_false,cond_false,hq,Option.bind_some,Ec _ true cs st1 (by omega)]
          exact ⟨_,_,_,rfl,by simp;omega⟩
theorem one_t (ok:Bool) (cs st:List Int):∃x y ok' cs' st',aY.F (ok,cs,st,())=some (x,y,ok',cs',st',()):=by
 rw [aY.eq]
 unfold aY.B
 cases ok with
 |false=>exact ⟨_,_,_,_,_,rfl⟩
 |true=>
  simp only [Bool.not_true,cond_false]
  by_cases h:st.length=1
  ·have d1:((st.length:Int) !=1)=false:=by simp [h]
   have d2:(decide (0≤(0:Int))&&decide ((0:Int)<(st.length:Int)))=true:=by simp;omega
   simp only [d1,cond_false,d2,cond_true]
   exact ⟨_,_,_,_,_,rfl⟩
  ·have d1:((st.length:Int) !=1)=true:=by simp;omega
   simp only [d1,cond_true]
   exact ⟨_,_,_,_,_,rfl⟩
theorem K3 (e : List ae) (cs : List Int) : ∃ x y,dc.F (e,cs,()) = some (x,y,()) := by
  rw [dc.eq]
  unfold dc.B
  by_cases hb:e.length>100
  · have d:decide ((e.length:Int)>100)=true:=by simp;omega
    simp only [d,cond_true]
    exact ⟨_,_,rfl⟩
  have d:decide ((e.length:Int)>100)=false:=by simp;omega
  simp only [d,cond_false]
  obtain ⟨r,hl,hr⟩:=rx (body:=fun ((x23:Int),(o6_0_1:Bool),(o6_0_2:List Int),(o6_0_0:List Int),(_:Unit))=>
    (bif (decide (x23<(e.length:Int))) then
    bif (decide (0≤x23)&&decide (x23<(e.length:Int))) then
    let e1:ae:=(List.getD e (Int.toNat x23) bE.z)
    Option.bind (bw.F (e1.1,e1.2.1,e1.2.2.1,e1.2.2.2.1,e1.2.2.2.2,o6_0_1,o6_0_2,o6_0_0,())) fun y2=>
    (bif (!y2.1) then
    some (.inr (.inr ((0:Int),(30:Int),())))
    else
    let e3:Int:=(IntKind.i64.wrap (x23+(1:Int)))
    some (.inl (e3,y2.2.1,y2.2.2.1,y2.2.2.2.1,())))
    else none
    else
    some (.inr (.inl (o6_0_1,o6_0_2,o6_0_0,()))):Option ((Int×Bool×(List Int)×(List Int)×Unit)⊕((Bool×(List Int)×(List Int)×Unit)⊕(Int×Int×Unit)))))
    (m:=fun x=>e.length-x.1.toNat) (I:=fun x=>∃(i:Nat) (ok:Bool) (st:List Int),x=((i:Int),ok,cs,st,())∧i≤e.length∧st.length≤i)
    (Q := fun _ _ => True) (by
      rintro _ ⟨i,ok,st,rfl,h1,h2⟩
      by_cases hlt:i<e.length
      · have d1:decide ((i:Int)<(e.length:Int))=true:=by simp;omega
        have d0:decide (0≤(i:Int))=true:=by simp
        obtain ⟨q,ok',st',hs,hle⟩:=K2 e[i].1 e[i].2.1 e[i].2.2.1 e[i].2.2.2.1 e[i].2.2.2.2 ok cs st (by omega)
        cases q with
        |false=>
          refine .inr ⟨.inr ((0:Int),(30:Int),()),?_,trivial⟩
          simp only [d1,d0,Bool.and_self,cond_true,Int.toNat_natCast,bV hlt,hs,Option.bind_some,Bool.not_false]
        |true=>
          refine .inl ⟨(((i+1:Nat):Int),ok',cs,st',()),?_,⟨i+1,_,_,rfl,by omega,by omega⟩,by show e.length-Int.toNat _<e.length-Int.toNat _;rw [Int.toNat_natCast,Int.toNat_natCast];omega,fun _ h=>h⟩
          simp only [d1,d0,Bool.and_self,cond_true,Int.toNat_natCast,bV hlt,hs,Option.bind_some,Bool.not_true,cond_false,cz hlt (show e.length<9223372036854775808 by omega)]
      · have d1:decide ((i:Int)<(e.length:Int))=false:=by simp;omega
        refine .inr ⟨.inl (ok,cs,st,()),?_,trivial⟩
        simp only [d1,cond_false]) ((0:Int),true,cs,[],()) ⟨0,true,[],rfl,by omega,by simp⟩
  refine (exists_congr fun _=>exists_congr fun _=>by rw [cv _ hl]).2 ?_
  rcases r with ⟨ok,cs',st,⟨⟩⟩|⟨a,b,⟨⟩⟩
  · obtain ⟨x,y,ok',cs'',st',h⟩:=one_t ok cs' st
    simp only [h,Option.bind_some]
    cases y<;>exact ⟨_,_,rfl⟩
  · exact ⟨_,_,rfl⟩
theorem E7 (e:List ae) (cs:List Int):∃b,bR.F (e,cs,())=some (b,()):=by
 rw [bR.eq]
 unfold bR.B
 obtain ⟨x,y,h⟩:=K3 e cs
 simp only [h,Option.bind_some,b_eq]
 cases decide (y=0)
 ·exact ⟨_,rfl⟩
 ·cases decide (x=1)<;>exact ⟨_,rfl⟩
noncomputable def jt (e:List ae) (cs:List Int):Bool:=(E7 e cs).choose
theorem CW (e:List ae) (cs:List Int):bR.F (e,cs,())=some (jt e cs,()):=(E7 e cs).choose_spec
end Go.Proofs.Ytleadolkcmagfaa
end
section
set_option maxRecDepth 100000
namespace Go.Proofs.Ytleadolkcmagfaa
open Go Lv Go.Proofs Go.RowKit Go.Shelf Dl
def oW {α β:Type} (f:α→Option β):List α→Option (List β)
 | []=>some []
 |a::r=>(f a).bind fun x=>(oW f r).map (x:: ·)
theorem ly {α β:Type} {f:α→Option β}:∀{l:List α} {xs:List β},oW f l=some xs→xs.length=l.length
 | [],_,h=>by cases h;rfl
 |a::r,_,h=>by
  simp only [oW,Option.bind_eq_some_iff,Option.map_eq_some_iff] at h
  obtain ⟨x,_,ys,h2,rfl⟩:=h
  simp [ly h2]
theorem xR {α β:Type} {f:α→Option β}:∀{l:List α} {xs:List β},oW f l=some xs→∀x∈xs,∃a∈l,f a=some x
 | [],_,h=>by cases h;simp
 |a::r,_,h=>by
  simp only [oW,Option.bind_eq_some_iff,Option.map_eq_some_iff] at h
  obtain ⟨x,h1,ys,h2,rfl⟩:=h
  intro y hy
  rcases List.mem_cons.1 hy with rfl|hy
  ·exact ⟨a,by simp,h1⟩
  ·obtain ⟨b,hb,e⟩:=xR h2 y hy;exact ⟨b,by simp [hb],e⟩
theorem tS {α β:Type} {f:α→Option β}:∀{l:List α},(∀a∈l,∃x,f a=some x)→∃xs,oW f l=some xs
 | [],_=>⟨[],rfl⟩
 |a::r,h=>by
  obtain ⟨x,hx⟩:=h a (by simp)
  obtain ⟨xs,hxs⟩:=tS (l:=r) fun b hb=>h b (by simp [hb])
  exact ⟨x::xs,by simp [oW,hx,hxs]⟩
theorem xS {α β:Type} (f:α→β):∀l:List α,oW (fun a=>some (f a)) l=some (l.map f)
 | []=>rfl
 |a::r=>by simp [oW,xS f r]
theorem ta {α β S R : Type} {body : S → Option (S ⊕ R)} (l : List α) (hl : l.length ≤ 1000) (f : α → Option β) (mk : Int → List β → S) (fin : List β → Option R)
    (h:∀(i:Nat) (hi:i<l.length) o,o.length≤5000→body (mk i o)=(f l[i]).map fun x=> .inl (mk (i+1:Nat) (o++ [x])))
    (h':∀o,o.length≤5000→body (mk l.length o)=(fin o).map .inr) (o:List β) (ho:o.length≤3000):bF body (mk 0 o)=(oW f l).bind fun xs=>fin (o++xs):=by
  have go:∀(k i:Nat),l.length-i=k→i≤l.length→∀o:List β,o.length≤3000+i→bF body (mk i o)=(oW f (l.drop i)).bind fun xs=>fin (o++xs):=by
    intro k
    induction k with
    |zero=>
      intro i h1 h2 o ho
      have:i=l.length:=by omega
      subst this
      rw [ek,h' o (by omega),List.drop_length]
      simp only [oW,Option.bind_some,List.append_nil]
      cases fin o<;>rfl
    |succ k ih=>
      intro i h1 h2 o ho
      have hi:i<l.length:=by omega
      rw [ek,h i hi o (by omega),List.drop_eq_getElem_cons hi]
      simp only [oW]
      cases f l[i] with
      |none=>rfl
      |some x=>
        simp only [Option.map_some,Option.bind_some]
        rw [ih (i+1) (by omega) (by omega) (o++ [x]) (by simp;omega)]
        cases oW f (l.drop (i+1))<;>simp
  have:=go l.length 0 (by omega) (by omega) o (by omega)
  simpa using this
def atI (l:List Int) (n:Int):Option Int:=if 0≤n∧n<l.length then some (l.getD n.toNat 0) else none
def Ax (l:List Int) (a:Agg):Option Int:=if a.1=2∨a.1=3 then atI l a.2 else some 2
def mF (f:mJ→Option (List Int)) (d:Dl.Def):Option (List Int×List Bool):=
 if d.1=0 then some (d.2.1.2.1.map (·.2.1),d.2.1.2.1.map (·.2.2.1))
 else (f d.2.2).bind fun l=>(oW (atI l) d.2.2.2.2.2.2.2.1).bind fun a=>(oW (Ax l) d.2.2.2.2.2.2.2.2.2).bind fun b=>some (a++b,List.replicate (a++b).length true)
def nN (l:List Dl.Def) (i:Int):Option Dl.Def:=if 0≤i∧i<l.length then some (l.getD i.toNat fq.z) else none
def iV (l:List Dl.Def) (g:Dl.Def→Option (List Int×List Bool)) (v:mJ):Option (List Int):=
 (nN l (ez l v.2.1)).bind fun d=>(g d).bind fun x=>if v.2.2.1=e0 then some x.1 else (nN l (ez l v.2.2.1)).bind fun d'=>(g d').bind fun y=>some (x.1++y.1)
def colsN (l:List Dl.Def):Nat→Dl.Def→Option (List Int×List Bool)
 |0=>fun _=>none
 |n+1=>mF (iV l (colsN l n))
theorem Iz (n:Int) (m:Nat):(decide (0≤n)&&decide (n<(m:Int)))=decide (0≤n∧n<m):=by
 by_cases h1:0≤n<;>by_cases h2:n<m<;>simp [h1,h2]
theorem E8 {Q:Type} (l:List Int) (n:Int) (K:Int→Option Q):(bif (decide (0≤n)&&decide (n<(l.length:Int))) then K (List.getD l n.toNat 0) else none)=(atI l n).bind K:=by
 rw [Iz]
 unfold atI
 by_cases h:0≤n∧n<l.length<;>simp [h]
theorem lz (l:List Dl.Def) (n:Int):(nN l n=none∧(decide (0≤n)&&decide (n<(l.length:Int)))=false)∨∃d,nN l n=some d∧(decide (0≤n)&&decide (n<(l.length:Int)))=true∧List.getD l n.toNat fq.z=d∧d∈l:=by
 rw [Iz]
 unfold nN
 by_cases h:0≤n∧n<l.length
 ·refine .inr ⟨_,by rw [if_pos h],by simp [h],rfl,?_⟩
  have hi':n.toNat<l.length:=by omega
  rw [bV hi']
  exact List.getElem_mem hi'
 ·exact .inl ⟨by rw [if_neg h],by simpa using h⟩
theorem Gl {f:mJ→Option (List Int)} {d:Dl.Def} (hd:Fit d) {x:List Int×List Bool} (h:mF f d=some x):x.1.length≤800∧x.2.length=x.1.length:=by
 unfold mF at h
 split at h
 ·cases h;have:=hd.cols;simp;omega
 ·simp only [Option.bind_eq_some_iff] at h
  obtain ⟨l,_,a,h1,b,h2,h3⟩:=h
  cases h3
  have:=ly h1
  have:=ly h2
  have:=hd.pick
  have:=hd.aggs
  simp;omega
theorem K4 {f : TS aD.si → Option (TS aD.so)} {fj : mJ → Option (List Int)} (l : List Dl.Def) (k : Int) (tn : ByteArray) (c : List Col) (ck : List (List ae)) (vn vf vw : ByteArray) (o1 o2 : Int) (wh : List ae) (pk : List Int) (gr : Bool) (ag : List Agg) (h : Fit (k,((tn,(c,ck)),(vn,(vf,(vw,((o1,o2),(wh,(pk,(gr,ag))))))))))
    (hf:f (l,vn,vf,vw,o1,o2,wh,pk,gr,ag,())=(fj (vn,(vf,(vw,((o1,o2),(wh,(pk,(gr,ag)))))))).map fun x=>(x,())):
    aC.b f (l,k,tn,c,ck,vn,vf,vw,o1,o2,wh,pk,gr,ag,())=(mF fj (k,((tn,(c,ck)),(vn,(vf,(vw,((o1,o2),(wh,(pk,(gr,ag)))))))))).map fun x=>(x.1,x.2,()):=by
  have h1:c.length≤400:=h.cols
  have h4:pk.length≤400:=h.pick
  have h5:ag.length≤400:=h.aggs
  unfold aC.b mF
  simp only [b_eq]
  by_cases hk:k=0
  · simp only [hk,decide_true,cond_true,if_pos,Option.map_some]
    refine (cv (.inr (c.map (·.2.1),c.map (·.2.2.1),())) ?_).trans rfl
    refine (ta (β:=Int×Bool) c (by omega) (fun x=>some (x.2.1,x.2.2.1)) (fun i o=>(i,o.map Prod.fst,o.map Prod.snd,())) (fun o=>some (.inr (o.map Prod.fst,o.map Prod.snd,()))) ?_ ?_ [] (by simp)).trans ?_
    · intro i hi o ho
      have d1:decide ((i:Int)<(c.length:Int))=true:=by simp;omega
      have d0:decide (0≤(i:Int))=true:=by simp
      have b1:Nat.ble ((o.map Prod.fst).length+([c[i].2.1]:List Int).length) 17592186044416=true:=Nat.ble_eq_true_of_le (by simp;omega)
      have b2:Nat.ble ((o.map Prod.snd).length+([c[i].2.2.1]:List Bool).length) 140737488355328=true:=Nat.ble_eq_true_of_le (by simp;omega)
      simp only [d1,d0,Bool.and_self,cond_true,Int.toNat_natCast,bV hi,b1,b2,cz hi (show c.length<9223372036854775808 by omega),List.map_append,List.map_cons,List.map_nil,Option.map_some]
    · intro o ho
      have d1:decide ((c.length:Int)<(c.length:Int))=false:=by simp
      simp only [d1,cond_false,Option.map_some]
    · rw [xS]
      simp [Function.comp_def]
  · simp only [hk,decide_false,cond_false,if_neg,Option.bind_some,hf]
    cases hj:fj (vn,(vf,(vw,((o1,o2),(wh,(pk,(gr,ag))))))) with
    |none=>rfl
    |some y=>
      simp only [Option.map_some,Option.bind_some]
      have e1:=ta (R:=((List Int×Unit)⊕(List Int×List Bool×Unit))) (body:=fun ((x48:Int),(o6_0:List Int),(_:Unit))=>
          (bif (decide (x48<(pk.length:Int))) then
          bif (decide (0≤x48)&&decide (x48<(pk.length:Int))) then
          let e5:Int:=(List.getD pk (Int.toNat x48) (0:Int))
          bif (decide (0≤e5)&&decide (e5<(y.length:Int))) then
          let e6:Int:=(List.getD y (Int.toNat e5) (0:Int))
          bif (Nat.ble (o6_0.length+ [e6].length) 17592186044416) then
          let e7:Int:=(IntKind.i64.wrap (x48+(1:Int)))
          some (.inl (e7,(o6_0++ [e6]),()))
          else none
          else none
          else none
          else
          some (.inr (.inl (o6_0,())))))
        pk (by omega) (atI y) (fun i o=>(i,o,())) (fun o=>some (.inl (o,()))) (by
          intro i hi o ho
          have d1:decide ((i:Int)<(pk.length:Int))=true:=by simp;omega
          have d0:decide (0≤(i:Int))=true:=by simp
          have b1:∀z:Int,Nat.ble (o.length+([z]:List Int).length) 17592186044416=true:=fun z=>Nat.ble_eq_true_of_le (by simp;omega)
          simp only [d1,d0,Bool.and_self,cond_true,Int.toNat_natCast,bV hi,b1,cz hi (show pk.length<9223372036854775808 by omega)]
          rw [E8 y pk[i] fun e6=>(some (.inl (((i+1:Nat):Int),(o++ [e6]),())):Option ((Int×List Int×Unit)⊕((List Int×Unit)⊕(List Int×List Bool×Unit))))]
          cases atI y pk[i]<;>rfl) (by
          intro o ho
          have d1:decide ((pk.length:Int)<(pk.length:Int))=false:=by simp
          simp only [d1,cond_false,Option.map_some]) [] (by simp)
      refine (congrArg (fun z=>Option.bind z _) e1).trans ?_
      cases hp:oW (atI y) pk with
      |none=>rfl
      |some a=>
        simp only [Option.bind_some,List.nil_append]
        have ha:=ly hp
        have e2 := ta (R := ((List Int × Unit) ⊕ (List Int × List Bool × Unit))) (body := fun ((x64 : Int),(o6_0 : List Int),(_ : Unit)) =>
            (bif (decide (x64<(ag.length:Int))) then
            bif (decide (0≤x64)&&decide (x64<(ag.length:Int))) then
            let e9:ct:=(List.getD ag (Int.toNat x64) ej.z)
            (bif decide (e9.1=(2:Int)) then
            bif (decide (0≤e9.2)&&decide (e9.2<(y.length:Int))) then
            let e10:Int:=(List.getD y (Int.toNat e9.2) (0:Int))
            bif (Nat.ble (o6_0.length+ [e10].length) 17592186044416) then
            let e11:Int:=(IntKind.i64.wrap (x64+(1:Int)))
            some (.inl (e11,(o6_0++ [e10]),()))
            else none
            else none
            else
            (bif decide (e9.1=(3:Int)) then
            bif (decide (0≤e9.2)&&decide (e9.2<(y.length:Int))) then
            let e12:Int:=(List.getD y (Int.toNat e9.2) (0:Int))
            bif (Nat.ble (o6_0.length+ [e12].length) 17592186044416) then
            let e13:Int:=(IntKind.i64.wrap (x64+(1:Int)))
            some (.inl (e13,(o6_0++ [e12]),()))
            else none
            else none
            else
            bif (Nat.ble (o6_0.length+ [(2:Int)].length) 17592186044416) then
            let e14:Int:=(IntKind.i64.wrap (x64+(1:Int)))
            some (.inl (e14,(o6_0++ [(2:Int)]),()))
            else none))
            else none
            else
            some (.inr (.inl (o6_0,())))))
          ag (by omega) (Ax y) (fun i o => (i,o,())) (fun o => some (.inl (o,()))) (by
            intro i hi o ho
            have d1:decide ((i:Int)<(ag.length:Int))=true:=by simp;omega
            have d0:decide (0≤(i:Int))=true:=by simp
            have b1:∀z:Int,Nat.ble (o.length+([z]:List Int).length) 17592186044416=true:=fun z=>Nat.ble_eq_true_of_le (by simp;omega)
            have ga:ag.getD i ej.z=ag[i]:=bV hi _
            simp only [d1,d0,Bool.and_self,cond_true,Int.toNat_natCast,ga,b1,cz hi (show ag.length<9223372036854775808 by omega)]
            rw [E8 y ag[i].2 fun e6=>(some (.inl (((i+1:Nat):Int),(o++ [e6]),())):Option ((Int×List Int×Unit)⊕((List Int×Unit)⊕(List Int×List Bool×Unit))))]
            unfold Ax
            by_cases q2:ag[i].1=2
            · simp only [q2,decide_true,cond_true,true_or,if_true]
              cases atI y ag[i].2<;>rfl
            · by_cases q3:ag[i].1=3
              · simp only [q3,decide_true,cond_true,or_true,if_true]
                cases atI y ag[i].2<;>rfl
              · simp only [q2,q3,decide_false,cond_false,or_self,if_false];rfl) (by
            intro o ho
            have d1:decide ((ag.length:Int)<(ag.length:Int))=false:=by simp
            simp only [d1,cond_false,Option.map_some]) a (by omega)
        refine (congrArg (fun z=>Option.bind z _) e2).trans ?_
        cases hb:oW (Ax y) ag with
        |none=>rfl
        |some b=>
          have hb:=ly hb
          simp only [Option.bind_some,Ix (a++b).length (by simp;omega),Option.map_some]
          first|rfl|simp
theorem qu {α β:Type} {x:Option α} {K:α→Option β} (h:x=none):x.bind K=none:=by rw [h];rfl
theorem CX {g : TS aC.si → Option (TS aC.so)} {gp : Dl.Def → Option (List Int × List Bool)} (l : List Dl.Def) (hl : Ln l) (hl' : ∀ d ∈ l,Fit d) (vn vf vw : ByteArray) (o1 o2 : Int) (wh : List ae) (pk : List Int) (gr : Bool) (ag : List Agg)
    (hg:∀d,Fit d→g (l,d.1,d.2.1.1,d.2.1.2.1,d.2.1.2.2,d.2.2.1,d.2.2.2.1,d.2.2.2.2.1,d.2.2.2.2.2.1.1,d.2.2.2.2.2.1.2,d.2.2.2.2.2.2.1,d.2.2.2.2.2.2.2.1,d.2.2.2.2.2.2.2.2.1,d.2.2.2.2.2.2.2.2.2,())=(gp d).map fun x=>(x.1,x.2,())) (hn:∀d,Fit d→∀x,gp d=some x→x.1.length≤800):
    aD.b g (l,vn,vf,vw,o1,o2,wh,pk,gr,ag,())=(iV l gp (vn,(vf,(vw,((o1,o2),(wh,(pk,(gr,ag)))))))).map fun x=>(x,()):=by
  unfold aD.b iV
  simp only [qa l _ hl,Option.bind_some,dZ]
  rcases lz l (ez l vf) with ⟨h1,h2⟩|⟨d,h1,h2,h3,h4⟩
  · rw [h1,h2];rfl
  rw [h1,h2]
  simp only [cond_true,h3,Option.bind_some]
  have hgd:=hg d (hl' d h4)
  cases hx:gp d with
  |none=>rw [hx] at hgd;exact qu hgd
  |some x=>
    rw [hx] at hgd
    refine (cv _ hgd).trans ?_
    simp only [Option.bind_some]
    by_cases hw:vw=e0
    · simp [hw]
    · have:(!decide (vw=(⟨#[]⟩:ByteArray)))=true:=by simpa using hw
      rw [this,cond_true,if_neg hw]
      rcases lz l (ez l vw) with ⟨k1,k2⟩|⟨d',k1,k2,k3,k4⟩
      · rw [k1,k2];rfl
      rw [k1,k2]
      simp only [cond_true,k3,Option.bind_some]
      have hgd':=hg d' (hl' d' k4)
      cases hy:gp d' with
      |none=>rw [hy] at hgd';exact qu hgd'
      |some y=>
        rw [hy] at hgd'
        refine (cv _ hgd').trans ?_
        have hb:Nat.ble (x.1.length+y.1.length) 17592186044416=true:=Nat.ble_eq_true_of_le (by have:=hn d (hl' d h4) x hx;have:=hn d' (hl' d' k4) y hy;omega)
        simp only [Option.bind_some,Option.map_some,hb,cond_true]
theorem Ai {l:List Dl.Def}:∀{n:Nat} {d:Dl.Def},Fit d→∀x,colsN l n d=some x→x.1.length≤800
 |0,_,_,x,h=>by cases h
 |n+1,d,hd,x,h=>(Gl hd h).1
theorem Bd (l:List Dl.Def) (hl:Ln l) (hl':∀d∈l,Fit d):∀(n:Nat) (d:Dl.Def),Fit d→aC.r n (l,d.1,d.2.1.1,d.2.1.2.1,d.2.1.2.2,d.2.2.1,d.2.2.2.1,d.2.2.2.2.1,d.2.2.2.2.2.1.1,d.2.2.2.2.2.1.2,d.2.2.2.2.2.2.1,d.2.2.2.2.2.2.2.1,d.2.2.2.2.2.2.2.2.1,d.2.2.2.2.2.2.2.2.2,())=(colsN l n d).map fun x=>(x.1,x.2,())
 |0,_,_=>rfl
 |n+1,d,hd=>K4 l d.1 d.2.1.1 d.2.1.2.1 d.2.1.2.2 d.2.2.1 d.2.2.2.1 d.2.2.2.2.1 d.2.2.2.2.2.1.1 d.2.2.2.2.2.1.2 d.2.2.2.2.2.2.1 d.2.2.2.2.2.2.2.1 d.2.2.2.2.2.2.2.2.1 d.2.2.2.2.2.2.2.2.2 hd (CX l hl hl' d.2.2.1 d.2.2.2.1 d.2.2.2.2.1 d.2.2.2.2.2.1.1 d.2.2.2.2.2.1.2 d.2.2.2.2.2.2.1 d.2.2.2.2.2.2.2.1 d.2.2.2.2.2.2.2.2.1 d.2.2.2.2.2.2.2.2.2 (Bd l hl hl' n) (fun _=>Ai))
theorem Ed (l:List Dl.Def) (hl:Ln l) (hl':∀d∈l,Fit d) (k:Int) (tn:ByteArray) (c:List Col) (ck:List (List ae)) (vn vf vw:ByteArray) (o1 o2:Int) (wh:List ae) (pk:List Int) (gr:Bool) (ag:List Agg) (h:Fit (k,((tn,(c,ck)),(vn,(vf,(vw,((o1,o2),(wh,(pk,(gr,ag)))))))))):aC.F (l,k,tn,c,ck,vn,vf,vw,o1,o2,wh,pk,gr,ag,())=(colsN l 64 (k,((tn,(c,ck)),(vn,(vf,(vw,((o1,o2),(wh,(pk,(gr,ag)))))))))).map fun x=>(x.1,x.2,()):=by
 rw [aC.eq]
 exact Bd l hl hl' 64 (k,((tn,(c,ck)),(vn,(vf,(vw,((o1,o2),(wh,(pk,(gr,ag))))))))) h
theorem IA (l:List Dl.Def) (hl:Ln l) (hl':∀d∈l,Fit d) (vn vf vw:ByteArray) (o1 o2:Int) (wh:List ae) (pk:List Int) (gr:Bool) (ag:List Agg):aD.F (l,vn,vf,vw,o1,o2,wh,pk,gr,ag,())=(iV l (colsN l 64) (vn,(vf,(vw,((o1,o2),(wh,(pk,(gr,ag)))))))).map fun x=>(x,()):=by
 rw [aD.eq]
 exact CX l hl hl' vn vf vw o1 o2 wh pk gr ag (Bd l hl hl' 64) (fun _=>Ai)
end Go.Proofs.Ytleadolkcmagfaa
end
section
set_option maxRecDepth 100000
namespace Go.Proofs.Ytleadolkcmagfaa
open Go Lv Go.Proofs Go.RowKit Go.Shelf Dl
def Ee (nm:ByteArray):List Col→Nat→Int
 | [],_=>-1
 |x::r,i=>if x.1=nm then i else Ee nm r (i+1)
theorem IB {R:Type} (cols:List Col) (nm:ByteArray) (G:Int→R) {body:Int×Unit→Option ((Int×Unit)⊕R)}
 (h:∀(i:Nat) (hi:i<cols.length),body ((i:Int),())=some (if cols[i].1=nm then .inr (G i) else .inl (((i+1:Nat):Int),())))
 (h':body ((cols.length:Int),())=some (.inr (G (-1)))):bF body ((0:Int),())=some (G (Ee nm cols 0)):=by
 have hf:∀(l:List Col) (i:Nat),iQ (fun (x:Col) (i:Nat)=>if x.1=nm then (.inr (G i):Nat⊕R) else .inl (i+1)) (fun _=>G (-1)) l i=G (Ee nm l i):=by
  intro l
  induction l with
  |nil=>intro i;rfl
  |cons d r ih=>
   intro i
   simp only [iQ,Ee]
   by_cases h:d.1=nm
   ·rw [if_pos h,if_pos h]
   ·rw [if_neg h,if_neg h];exact ih _
 refine (AR (fun i (_:Nat)=>(i,())) cols (fun i st=>st=i) (fun (x:Col) (i:Nat)=>if x.1=nm then (.inr (G i):Nat⊕R) else .inl (i+1)) (fun _=>G (-1)) ?_ ?_ 0 rfl).trans (congrArg some (hf cols 0))
 ·intro i hi st hst
  rw [hst,h i hi]
  by_cases e:cols[i].1=nm
  ·simp [e]
  ·simp [e]
 ·intro st hst
  exact h'
theorem Gm {R Q:Type} {K:R→Option Q} (cols:List Col) (nm:ByteArray) (G:Int→R) {body:Int×Unit→Option ((Int×Unit)⊕R)}
 (h:∀(i:Nat) (hi:i<cols.length),body ((i:Int),())=some (if cols[i].1=nm then .inr (G i) else .inl (((i+1:Nat):Int),())))
 (h':body ((cols.length:Int),())=some (.inr (G (-1)))):Option.bind (bF body ((0:Int),())) K=K (G (Ee nm cols 0)):=by
 rw [IB cols nm G h h'];rfl
def rP (cols:List Col) (i:Nat) (x:Col):Bool:=decide (Ee x.1 cols 0≠i)||(decide (i=0)&&(x.2.2.1||(decide (x.2.1=1)|| !decide (x.2.2.2.2.1=e0))))
def tT (cols:List Col):List Col→Nat→Bool
 | [],_=>true
 |x::r,i=> !rP cols i x&&tT cols r (i+1)
def Gn (of:List Col) (x:Col):Option Bool:=match of with
 | []=>none
 |y::_=>some (decide (y.2.1=x.2.1)&& !(decide (x.2.2.2.2.2=2)&& !x.2.2.1))
def xT (l:List Dl.Def) (t:Tab) (x:Col):Option Bool:=
 if x.2.2.2.2.1=e0 then some true else if x.2.2.2.2.1=t.1 then Gn t.2.1 x
 else if ez l x.2.2.2.2.1<0 then some false else (nN l (ez l x.2.2.2.2.1)).bind fun d=>if d.1=0 then Gn d.2.1.2.1 x else some false
def rQ (l:List Dl.Def) (t:Tab):List Col→Option Bool
 | []=>some true
 |x::r=>(xT l t x).bind fun b=>if b then rQ l t r else some false
def IC (t:Tab):List Int:=t.2.1.map (·.2.1)
noncomputable def rR (l:List Dl.Def) (t:Tab):Option Int:=
 if tT t.2.1 t.2.1 0=true then (rQ l t t.2.1).bind fun b=>if b then (if t.2.2.all (fun e=>jt e (IC t))=true then some 0 else some 93) else some 92 else some 91
theorem Ef (a b:Int):(a !=b)=decide (a≠b):=by by_cases h:a=b<;>simp [h]
theorem xU (c:List Col) {R:Type} (q:R) (u:R):∀(r:List Col) (i:Nat),iQ (fun (x:Col) (i:Nat)=>if rP c i x=true then (.inr q:Nat⊕R) else .inl (i+1)) (fun _=>u) r i=if tT c r i=true then u else q
  | [],i=>rfl
  | x :: r,i => by
    simp only [iQ,tT]
    by_cases h:rP c i x=true
    · simp [h]
    · simp only [Bool.not_eq_true] at h
      simp [h,xU c q u r]
theorem Ko {Q:Type} (of:List Col) (x:Col) (A B:Option Q):
 (bif (decide (0≤(0:Int))&&decide ((0:Int)<(of.length:Int))) then
  let e15:ba:=(List.getD of 0 bS.z)
  (bif (e15.2.1 !=x.2.1) then B
  else
  (bif (x.2.2.2.2.2==(2:Int)) then
  (bif (!x.2.2.1) then B
  else A)
  else A))
  else none)=(Gn of x).bind fun b=>if b=true then A else B:=by
 cases of with
 |nil=>rfl
 |cons y r=>
  have d1:(decide (0≤(0:Int))&&decide ((0:Int)<((y::r).length:Int)))=true:=by simp
  rw [d1]
  show (bif (y.2.1 !=x.2.1) then B else (bif (x.2.2.2.2.2==(2:Int)) then (bif (!x.2.2.1) then B else A) else A))=if (decide (y.2.1=x.2.1)&& !(decide (x.2.2.2.2.2=2)&& !x.2.2.1))=true then A else B
  rw [Ef,b_eq]
  by_cases e1:y.2.1=x.2.1<;>by_cases e2:x.2.2.2.2.2=2<;>cases x.2.2.1<;>simp [e1,e2]
theorem xV (l:List Dl.Def) (t:Tab) {R:Type} (u q:R):∀r:List Col,sR (fun (x:Col) (_:Unit)=>(xT l t x).map fun b=>if b=true then (.inl ():Unit⊕R) else .inr q) (fun _=>some u) r ()=(rQ l t r).map fun b=>if b=true then u else q
  | []=>rfl
  | x :: r => by
    simp only [sR,rQ]
    cases h:xT l t x with
    |none=>rfl
    |some b=>
      cases b with
      |true=>simp [xV l t u q r]
      |false=>simp
theorem Aj (ks:List Int):∀r:List (List ae),sR (fun (e:List ae) (_:Unit)=>if jt e ks=true then some (.inl ():Unit⊕(Int×Unit)) else some (.inr ((93:Int),()))) (fun _=>some ((0:Int),())) r ()=some (if r.all (fun e=>jt e ks)=true then 0 else 93,())
 | []=>rfl
 |x::r=>by
  simp only [sR,List.all_cons]
  by_cases h:jt x ks=true
  ·simp [h,Aj ks r]
  ·simp [h]
theorem ID (l : List Dl.Def) (hl : Ln l) (hl' : ∀ d ∈ l,Fit d) (tn : ByteArray) (c : List Col) (ck : List (List ae)) (hc : c.length ≤ 400) (hk : ck.length ≤ 400) (hf : Fit (0,((tn,(c,ck)),xn))) :
    bx.F (l,tn,c,ck,())=(rR l (tn,(c,ck))).map fun x=>(x,()):=by
  rw [bx.eq]
  unfold bx.B
  have hC:=Ed l hl hl' 0 tn c ck e0 e0 e0 0 0 [] [] false [] hf
  refine (cv (c.map (·.2.1),c.map (·.2.2.1),()) (hC.trans rfl)).trans ?_
  simp only []
  have hcl:c.length<9223372036854775808:=by omega
  refine (sS (fun i (_ : Nat) => (i,())) c (fun i st => st = i) (fun (x : Col) (i : Nat) => if rP c i x = true then .inr (.inr ((91 : Int),())) else .inl (i + 1)) (fun _ => .inl ()) (by
      intro i hi st hst
      have d1:decide ((i:Int)<(c.length:Int))=true:=by simp;omega
      have d0:decide (0≤(i:Int))=true:=by simp
      have gi:c.getD i bS.z=c[i]:=bV hi _
      refine ⟨?_,fun st' h=>?_⟩
      · simp only [d1,d0,Bool.and_self,cond_true,Int.toNat_natCast,gi]
        refine (Gm c c[i].1 (fun j=>Sum.inl ((decide (j≠i)||(decide ((i:Int)=0)&&(c[i].2.2.1||(decide (c[i].2.1=1)|| !decide (c[i].2.2.2.2.1=e0))))),())) (by
          intro j hj
          have f1:decide ((j:Int)<(c.length:Int))=true:=by simp;omega
          have f0:decide (0≤(j:Int))=true:=by simp
          have gj:c.getD j bS.z=c[j]:=bV hj _
          simp only [f1,f0,Bool.and_self,cond_true,Int.toNat_natCast,gj,dZ,Option.bind_some,cz hj hcl,Ef,b_eq]
          by_cases e:c[j].1=c[i].1
          · simp only [e,decide_true,cond_true,if_true]
            generalize decide ((j:Int)≠i)=q1,decide ((i:Int)=0)=q2,c[i].2.2.1=q3,decide (c[i].2.1=1)=q4,decide (c[i].2.2.2.2.1=_)=q5
            cases q1<;>cases q2<;>cases q3<;>cases q4<;>rfl
          · simp only [e,decide_false,cond_false,if_false]) (by
          have f1:decide ((c.length:Int)<(c.length:Int))=false:=by simp
          simp only [f1,cond_false,dZ,Ef,b_eq]
          generalize decide ((-1:Int)≠i)=q1,decide ((i:Int)=0)=q2,c[i].2.2.1=q3,decide (c[i].2.1=1)=q4,decide (c[i].2.2.2.2.1=_)=q5
          cases q1<;>cases q2<;>cases q3<;>cases q4<;>rfl)).trans ?_
        rw [hst]
        have e0':decide ((i:Int)=0)=decide (i=0):=by by_cases h:i=0<;>simp [h]
        have:(decide (Ee c[i].1 c 0≠i)||(decide ((i:Int)=0)&&(c[i].2.2.1||(decide (c[i].2.1=1)|| !decide (c[i].2.2.2.2.1=e0)))))=rP c i c[i]:=by rw [e0'];rfl
        simp only [this,cz hi hcl]
        cases rP c i c[i]<;>rfl
      · rw [hst] at h
        cases hb:rP c i c[i] with
        |true=>rw [hb] at h;cases h
        |false=>rw [hb] at h;cases h;rfl) (by
      intro st hst
      have f1:decide ((c.length:Int)<(c.length:Int))=false:=by simp
      simp only [f1,cond_false]) 0 rfl).trans ?_
  rw [xU]
  unfold rR
  simp only []
  cases hb1:tT c c 0 with
  |false=>rfl
  |true=>
    simp only [if_true]
    rw [EH (fun i (_:Unit)=>(i,())) c (by omega) (fun (x:Col) (_:Unit)=>(xT l (tn,(c,ck)) x).map fun b=>if b=true then .inl () else .inr (.inr ((92:Int),()))) (fun _=>some (.inl ())) (by
      intro i hi st
      have d1:decide ((i:Int)<(c.length:Int))=true:=by simp;omega
      have d0:decide (0≤(i:Int))=true:=by simp
      have gi:c.getD i bS.z=c[i]:=bV hi _
      simp only [d1,d0,Bool.and_self,cond_true,Int.toNat_natCast,gi,cz hi hcl,dZ]
      unfold xT
      by_cases q0:c[i].2.2.2.2.1=e0
      · simp [q0]
      have q0':decide (c[i].2.2.2.2.1=(⟨#[]⟩:ByteArray))=false:=by simpa using q0
      rw [q0',if_neg q0]
      simp only [cond_false]
      by_cases q1:c[i].2.2.2.2.1=tn
      · simp only [q1,decide_true,Bool.not_true,cond_false,Option.bind_some,if_true]
        rw [Ko]
        cases Gn c c[i] with
        |none=>rfl
        |some b=>cases b<;>rfl
      simp only [q1,decide_false,Bool.not_false,cond_true,if_false,qa l _ hl,Option.bind_some]
      by_cases q2:ez l c[i].2.2.2.2.1<0
      · simp [q2]
      have q2':decide (ez l c[i].2.2.2.2.1<0)=false:=by simpa using q2
      rw [q2',if_neg q2]
      simp only [cond_false]
      rcases lz l (ez l c[i].2.2.2.2.1) with ⟨k1,k2⟩|⟨d,k1,k2,k3,k4⟩
      · rw [k1,k2];rfl
      rw [k1,k2]
      simp only [cond_true,k3,Option.bind_some]
      by_cases q3:d.1=0
      · have q3':(d.1 !=0)=false:=by simp [q3]
        simp only [q3',cond_false,Option.bind_some,if_pos q3]
        rw [Ko]
        cases Gn d.2.1.2.1 c[i] with
        |none=>rfl
        |some b=>cases b<;>rfl
      · have q3':(d.1 !=0)=true:=by simp [q3]
        simp only [q3',cond_true,if_neg q3]
        rfl) (by
      intro st
      have f1:decide ((c.length:Int)<(c.length:Int))=false:=by simp
      simp only [f1,cond_false,Option.map_some]) (),xV]
    cases hb2:rQ l (tn,(c,ck)) c with
    |none=>rfl
    |some b=>
      cases b with
      |false=>rfl
      |true=>
        simp only [if_true,Option.map_some,Option.bind_some]
        rw [EH (fun i (_:Unit)=>(i,c.map (·.2.1),())) ck (by omega) (fun (e:List ae) (_:Unit)=>if jt e (c.map (·.2.1))=true then some (.inl ()) else some (.inr ((93:Int),()))) (fun _=>some ((0:Int),())) (by
          intro i hi st
          have d1:decide ((i:Int)<(ck.length:Int))=true:=by simp;omega
          have d0:decide (0≤(i:Int))=true:=by simp
          have d2:decide ((i:Int)≥0)=true:=by simp
          have gi:ck.getD i []=ck[i]:=bV hi _
          simp only [d1,d0,Bool.and_self,cond_true,Int.toNat_natCast,gi,CW,Option.bind_some,cz hi (show ck.length<9223372036854775808 by omega),d2]
          cases jt ck[i] (c.map (·.2.1))<;>rfl) (by
          intro st
          have f1:decide ((ck.length:Int)<(ck.length:Int))=false:=by simp
          have f2:decide ((-1:Int)≥0)=false:=by simp
          simp only [f1,f2,cond_false,Option.map_some]) (),Aj]
        show _=Option.map _ (if (ck.all fun e=>jt e (c.map (·.2.1)))=true then some 0 else some 93)
        cases ck.all fun e=>jt e (c.map (·.2.1))<;>rfl
end Go.Proofs.Ytleadolkcmagfaa
end
section
set_option maxRecDepth 100000
namespace Go.Proofs.Ytleadolkcmagfaa
open Go Lv Go.Proofs Go.RowKit Go.Shelf Dl
def tU (ks:List Int) (a:Agg):Bool:=(decide (a.1≠0)&&decide ((ks.length:Int)≤a.2))||(decide (a.1=1)&&decide (ks.getD a.2.toNat 0≠2))
def E9 (v:mJ) (a ks:List Int):Bool:= !decide (v.2.2.1=e0)&&(decide ((a.length:Int)≤v.2.2.2.1.1)||(decide (((ks.length-a.length:Nat):Int)≤v.2.2.2.1.2)||decide (a.getD v.2.2.2.1.1.toNat 0≠ks.getD (a.length+v.2.2.2.1.2.toNat) 0)))
def Eg (v:mJ):Bool:=(v.2.2.2.2.2.2.1||v.2.2.2.2.2.2.2.isEmpty)&&(decide (1≤v.2.2.2.2.2.1.length+v.2.2.2.2.2.2.2.length)&&decide (v.2.2.2.2.2.1.length+v.2.2.2.2.2.2.2.length≤40))
noncomputable def Eh (v:mJ) (a ks:List Int):Bool:= !E9 v a ks&&((v.2.2.2.2.1.isEmpty||jt v.2.2.2.2.1 ks)&&(v.2.2.2.2.2.1.all (fun n=>decide (n<(ks.length:Int)))&&(v.2.2.2.2.2.2.2.all (fun a=> !tU ks a)&&Eg v)))
noncomputable def qb (l:List Dl.Def) (v:mJ):Option Bool:=
 if ez l v.2.1<0 then some false else if v.2.2.1≠e0∧ez l v.2.2.1<0 then some false
 else (nN l (ez l v.2.1)).bind fun d=>(colsN l 64 d).bind fun a=>(iV l (colsN l 64) v).bind fun ks=>some (Eh v a.1 ks)
theorem tV {α R:Type} (p:α→Bool) (u q:R):∀r:List α,iQ (fun (x:α) (_:Unit)=>if p x=true then (.inl ():Unit⊕R) else .inr q) (fun _=>u) r ()=if r.all p=true then u else q
 | []=>rfl
 |x::r=>by
  simp only [iQ,List.all_cons]
  by_cases h:p x=true
  ·simp [h,tV p u q r]
  ·simp [h]
theorem J0 {l:List Dl.Def} {g:Dl.Def→Option (List Int×List Bool)} {v:mJ} {d:Dl.Def} {a:List Int×List Bool} {ks:List Int} (h1:nN l (ez l v.2.1)=some d) (h2:g d=some a) (h3:iV l g v=some ks):a.1.length≤ks.length:=by
 unfold iV at h3
 rw [h1] at h3
 simp only [Option.bind_some,h2] at h3
 split at h3
 ·cases h3;exact Nat.le_refl _
 ·simp only [Option.bind_eq_some_iff] at h3
  obtain ⟨_,_,y,_,h⟩:=h3
  cases h;simp
theorem K5 (l : List Dl.Def) (hl : Ln l) (hl' : ∀ d ∈ l,Fit d) (vn vf vw : ByteArray) (o1 o2 : Int) (wh : List ae) (pk : List Int) (gr : Bool) (ag : List Agg) (hv : tK (vn,(vf,(vw,((o1,o2),(wh,(pk,(gr,ag)))))))) : cy.F (l,vn,vf,vw,o1,o2,wh,pk,gr,ag,()) = (qb l (vn,(vf,(vw,((o1,o2),(wh,(pk,(gr,ag)))))))).map fun x => (x,()) := by
  rw [cy.eq]
  unfold cy.B qb
  simp only [qa l _ hl,Option.bind_some,dZ]
  by_cases q1:ez l vf<0
  · simp [q1]
  have q1':decide (ez l vf<0)=false:=by simpa using q1
  rw [q1',if_neg q1]
  simp only [cond_false]
  by_cases q2:vw≠e0∧ez l vw<0
  · have e1:(!decide (vw=(⟨#[]⟩:ByteArray)))=true:=by simpa using q2.1
    have e2:decide (ez l vw<0)=true:=by simpa using q2.2
    rw [if_pos q2,e1,e2];rfl
  rw [if_neg q2]
  have hmid:∀(K:Unit⊕(Bool×Unit)→Option (Bool×Unit)),Option.bind (bif (!decide (vw=(⟨#[]⟩:ByteArray))) then (bif decide (ez l vw<0) then some (.inr (false,())) else some (.inl ())) else some (.inl ())) K=K (.inl ()):=by
    intro K
    by_cases e:vw=e0
    · have e1:(!decide (vw=(⟨#[]⟩:ByteArray)))=false:=by simpa using e
      rw [e1];rfl
    · have e1:(!decide (vw=(⟨#[]⟩:ByteArray)))=true:=by simpa using e
      have e2:decide (ez l vw<0)=false:=by simpa using fun h=>q2 ⟨e,h⟩
      rw [e1,e2];rfl
  refine (hmid _).trans ?_
  simp only []
  rcases lz l (ez l vf) with ⟨h1,h2⟩|⟨d,h1,h2,h3,h4⟩
  · rw [h1,h2];rfl
  rw [h1,h2]
  simp only [cond_true,h3,Option.bind_some]
  have hC:=Ed l hl hl' d.1 d.2.1.1 d.2.1.2.1 d.2.1.2.2 d.2.2.1 d.2.2.2.1 d.2.2.2.2.1 d.2.2.2.2.2.1.1 d.2.2.2.2.2.1.2 d.2.2.2.2.2.2.1 d.2.2.2.2.2.2.2.1 d.2.2.2.2.2.2.2.2.1 d.2.2.2.2.2.2.2.2.2 (hl' d h4)
  cases hc:colsN l 64 d with
  |none=>exact qu (hC.trans (by rw [show colsN l 64 _=none from hc];rfl))
  |some a=>
  refine (cv (a.1,a.2,()) (hC.trans (by rw [show colsN l 64 _=some a from hc];rfl))).trans ?_
  have hJ:=IA l hl hl' vn vf vw o1 o2 wh pk gr ag
  cases hj:iV l (colsN l 64) (vn,(vf,(vw,((o1,o2),(wh,(pk,(gr,ag))))))) with
  |none=>exact qu (hJ.trans (by rw [hj];rfl))
  |some ks=>
  refine (cv (ks,()) (hJ.trans (by rw [hj];rfl))).trans ?_
  have hle:=J0 (v:=(vn,(vf,(vw,((o1,o2),(wh,(pk,(gr,ag)))))))) h1 hc hj
  have d1:(decide (0≤(a.1.length:Int))&&(decide ((a.1.length:Int)≤(ks.length:Int))&&decide ((ks.length:Int)≤(ks.length:Int))))=true:=by simp;omega
  simp only [Option.bind_some,Option.map_some]
  rw [d1]
  simp only [cond_true,Int.toNat_natCast]
  have hon:∀(K:((Bool×Unit)⊕(Bool×Unit))→Option (Bool×Unit)),Option.bind ((bif (!decide (vw=(⟨#[]⟩:ByteArray))) then
      bif (decide (0≤(0:Int))&&decide ((0:Int)<(2:Int))) then
      (bif (decide (o1≥(a.1.length:Int))) then
      some (.inl (true,()))
      else
      bif (decide (0≤(1:Int))&&decide ((1:Int)<(2:Int))) then
      (bif (decide (o2≥((ks.length-a.1.length:Nat):Int))) then
      some (.inl (true,()))
      else
      bif (decide (0≤(0:Int))&&decide ((0:Int)<(2:Int))) then
      bif (decide (0≤o1)&&decide (o1<(a.1.length:Int))) then
      let e8:Int:=(List.getD a.1 (Int.toNat o1) (0:Int))
      bif (decide (0≤(1:Int))&&decide ((1:Int)<(2:Int))) then
      bif (decide (0≤o2)&&decide (o2<((ks.length-a.1.length:Nat):Int))) then
      let e9:Int:=(List.getD ks (a.1.length+(Int.toNat o2):Nat) (0:Int))
      some (.inl ((e8 !=e9),()))
      else none
      else none
      else none
      else none)
      else none)
      else none
      else
      some (.inl (false,()))):Option ((Bool×Unit)⊕(Bool×Unit))) K=K (.inl (E9 (vn,(vf,(vw,((o1,o2),(wh,(pk,(gr,ag))))))) a.1 ks,())):=by
    intro K
    have t2:(decide (0≤(0:Int))&&decide ((0:Int)<(2:Int)))=true:=by decide
    have t3:(decide (0≤(1:Int))&&decide ((1:Int)<(2:Int)))=true:=by decide
    rw [t2,t3]
    unfold E9
    by_cases e:vw=e0
    · have e1:(!decide (vw=(⟨#[]⟩:ByteArray)))=false:=by simpa using e
      rw [e1]
      simp [e]
    have e1:(!decide (vw=(⟨#[]⟩:ByteArray)))=true:=by simpa using e
    rw [e1]
    obtain ⟨_,j1,_,j2,_⟩:isName vw=true∧0≤o1∧o1≤99∧0≤o2∧o2≤99:=by
      rcases hv.join with ⟨h,_⟩|h
      · exact absurd h e
      · exact h
    simp only [cond_true,e,decide_false,Bool.not_false,Bool.true_and]
    by_cases w1:o1≥(a.1.length:Int)
    · have w1':decide ((a.1.length:Int)≤o1)=true:=by simpa using w1
      simp [w1']
    have w1':decide (o1≥(a.1.length:Int))=false:=by simpa using w1
    have w1'':(decide (0≤o1)&&decide (o1<(a.1.length:Int)))=true:=by simp;omega
    rw [w1'',show decide ((a.1.length:Int)≤o1)=decide (o1≥(a.1.length:Int)) from rfl,w1']
    simp only [cond_false,cond_true,Bool.false_or]
    by_cases w2:o2≥((ks.length-a.1.length:Nat):Int)
    · have w2':decide (((ks.length-a.1.length:Nat):Int)≤o2)=true:=by simpa using w2
      rw [show decide (o2≥((ks.length-a.1.length:Nat):Int))=true from w2'];rfl
    have w2':decide (o2≥((ks.length-a.1.length:Nat):Int))=false:=by simpa using w2
    have w2'':(decide (0≤o2)&&decide (o2<((ks.length-a.1.length:Nat):Int)))=true:=by simp;omega
    rw [w2'',show decide (((ks.length-a.1.length:Nat):Int)≤o2)=decide (o2≥((ks.length-a.1.length:Nat):Int)) from rfl,w2']
    simp only [cond_false,cond_true,Bool.false_or,Option.bind_some,Ef]
  refine (hon _).trans ?_
  unfold Eh
  cases E9 (vn,(vf,(vw,((o1,o2),(wh,(pk,(gr,ag))))))) a.1 ks with
  |true=>rfl
  |false=>
  simp only [cond_false,Bool.not_false,Bool.true_and]
  have htr:∀(K:((List Int×Unit)⊕(Bool×Unit))→Option (Bool×Unit)),Option.bind ((bif (decide ((wh.length:Int)>(0:Int))) then
      Option.bind (bR.F (wh,ks,())) fun y11=>
      (bif (!y11.1) then
      some (.inr (false,()))
      else
      some (.inl (ks,())))
      else
      some (.inl (ks,()))):Option (((List Int)×Unit)⊕(Bool×Unit))) K=if (wh.isEmpty||jt wh ks)=true then K (.inl (ks,())) else K (.inr (false,())):=by
    intro K
    rw [CW]
    cases wh with
    |nil=>rfl
    |cons x r=>
      have:decide ((((x::r).length:Nat):Int)>(0:Int))=true:=by simp
      rw [this]
      cases jt (x::r) ks<;>rfl
  refine (htr _).trans ?_
  by_cases ht:(wh.isEmpty||jt wh ks)=true
  · rw [if_pos ht,ht]
    simp only [Bool.true_and]
    have hp:pk.length≤40:=hv.most
    have ha:ag.length≤40:=hv.most2
    refine (sS (fun i (_:Unit)=>(i,())) pk (fun _ _=>True) (fun (n:Int) (_:Unit)=>if decide (n<(ks.length:Int))=true then .inl () else .inr (.inr (false,()))) (fun _=> .inl ()) (by
      intro i hi st _
      have d1:decide ((i:Int)<(pk.length:Int))=true:=by simp;omega
      have d0:decide (0≤(i:Int))=true:=by simp
      refine ⟨?_,fun _ _=>trivial⟩
      simp only [d1,d0,Bool.and_self,cond_true,Int.toNat_natCast,bV hi,cz hi (show pk.length<9223372036854775808 by omega)]
      by_cases e:pk[i]<(ks.length:Int)
      · have e1:decide (pk[i]≥(ks.length:Int))=false:=by simp;omega
        simp [e,e1]
      · have e1:decide (pk[i]≥(ks.length:Int))=true:=by simp;omega
        simp [e,e1]) (by
      intro st _
      have f1:decide ((pk.length:Int)<(pk.length:Int))=false:=by simp
      simp only [f1,cond_false]) () trivial).trans ?_
    rw [tV]
    cases pk.all (fun n=>decide (n<(ks.length:Int))) with
    |false=>rfl
    |true=>
    simp only [if_true,Bool.true_and]
    refine (sS (fun i (_:Unit)=>(i,())) ag (fun _ _=>True) (fun (x:Agg) (_:Unit)=>if (!tU ks x)=true then .inl () else .inr (.inr (false,()))) (fun _=> .inl ()) (by
      intro i hi st _
      have d1:decide ((i:Int)<(ag.length:Int))=true:=by simp;omega
      have d0:decide (0≤(i:Int))=true:=by simp
      have gi:ag.getD i ej.z=ag[i]:=bV hi _
      have hA:=(hv.aggs _ (List.getElem_mem hi)).2.2.1
      refine ⟨?_,fun _ _=>trivial⟩
      simp only [d1,d0,Bool.and_self,cond_true,Int.toNat_natCast,gi,cz hi (show ag.length<9223372036854775808 by omega),Ef,b_eq]
      unfold tU
      by_cases z0:ag[i].1=0
      · have z1:¬ag[i].1=1:=by omega
        simp [z0]
      · by_cases w:ag[i].2≥(ks.length:Int)
        · have w':decide ((ks.length:Int)≤ag[i].2)=true:=by simpa using w
          simp [z0,w']
        · have w':decide ((ks.length:Int)≤ag[i].2)=false:=by simpa using w
          have w2:decide (ag[i].2≥(ks.length:Int))=false:=w'
          have w3:(decide (0≤ag[i].2)&&decide (ag[i].2<(ks.length:Int)))=true:=by simp;omega
          rw [w3,w']
          by_cases z1:ag[i].1=1
          · by_cases z2:ks.getD ag[i].2.toNat 0=2<;>simp [z1,z2,-List.getD_eq_getElem?_getD]
          · simp [z0,z1]) (by
      intro st _
      have f1:decide ((ag.length:Int)<(ag.length:Int))=false:=by simp
      simp only [f1,cond_false]) () trivial).trans ?_
    rw [tV]
    cases ag.all (fun x=> !tU ks x) with
    |false=>rfl
    |true=>
    simp only [if_true,Bool.true_and]
    have w:IntKind.i64.wrap ((pk.length:Int)+(ag.length:Int))=((pk.length+ag.length:Nat):Int):=by rw [dn]<;>omega
    rw [w]
    unfold Eg
    have g1:decide (((pk.length+ag.length:Nat):Int)≥1)=decide (1≤pk.length+ag.length):=by rw [decide_eq_decide];omega
    have g2:decide (((pk.length+ag.length:Nat):Int)≤40)=decide (pk.length+ag.length≤40):=by rw [decide_eq_decide];omega
    have g3:((ag.length:Int)==0)=ag.isEmpty:=by cases ag<;>simp;omega
    rw [g1,g2,g3]
    simp only []
    generalize decide (1≤pk.length+ag.length)=x1,decide (pk.length+ag.length≤40)=x2,ag.isEmpty=x3
    cases gr<;>cases x1<;>cases x3<;>rfl
  · rw [if_neg ht]
    simp only [Bool.not_eq_true] at ht
    rw [ht];rfl
end Go.Proofs.Ytleadolkcmagfaa
end
section
set_option maxRecDepth 100000
namespace Go.Proofs.Ytleadolkcmagfaa
open Go Lv Go.Proofs Go.RowKit Go.Shelf Dl
theorem xW {d:Dl.Def} (h:eT d≠ []):lr d:=by
 have h1:=H2 h
 rcases CJ (eT d) with h2|h2|⟨d',h2,h3⟩
 ·rw [h1] at h2;injection h2 with _ h;cases h
 ·rw [h1] at h2;injection h2 with _ h;cases h
 ·rw [h1] at h2;injection h2 with h _;rw [h];exact h3
theorem J1 {d:Dl.Def} (h:Fit d):Fit (0,(d.2.1,xn)):=
 ⟨h.cols,h.checks,(by decide:(0:Nat)≤400),(by decide:(0:Nat)≤400),h.each,⟨(by decide:(0:Nat)≤120),fun x hx=>by cases hx⟩,h.names,h.n1,(by decide:(0:Nat)≤100),(by decide:(0:Nat)≤100),(by decide:(0:Nat)≤100),(⟨by decide,by decide⟩:I64 0),(⟨by decide,by decide⟩:I64 0),(fun n hn=>by cases hn),(fun a ha=>by cases ha)⟩
noncomputable def hY (l:List Dl.Def) (d:Dl.Def):Option Int:=
 if eT d=[] then some 1 else if 20≤l.length then some 95 else if 0≤ez l (nameP d) then some 90
 else if d.1=0 then rR l d.2.1 else (qb l d.2.2).map fun b=>if b=true then 0 else 94
theorem Fa {d:Dl.Def} (h:lr d) (hk:d.1≠0):tK d.2.2:=by
 cases h with
 |tab _=>exact absurd rfl hk
 |view h=>exact h
theorem Be {d:Dl.Def} (h:lr d) (hk:d.1=0):eI d.2.1:=by
 cases h with
 |tab h=>exact h
 |view _=>cases hk
theorem Kp (l:List Dl.Def) (hl:Ln l) (hl':∀d∈l,Fit d) (k:Int) (tn:ByteArray) (c:List Col) (ck:List (List ae)) (vn vf vw:ByteArray) (o1 o2:Int) (wh:List ae) (pk:List Int) (gr:Bool) (ag:List Agg) (h:Fit (k,((tn,(c,ck)),(vn,(vf,(vw,((o1,o2),(wh,(pk,(gr,ag)))))))))):cL.F (l,k,tn,c,ck,vn,vf,vw,o1,o2,wh,pk,gr,ag,())=(hY l (k,((tn,(c,ck)),(vn,(vf,(vw,((o1,o2),(wh,(pk,(gr,ag)))))))))).map fun x=>(x,()):=by
 rw [cL.eq]
 unfold cL.B hY
 simp only [May_s k tn c ck vn vf vw o1 o2 wh pk gr ag h,Option.bind_some,Bool.not_not]
 by_cases q1:eT (k,((tn,(c,ck)),(vn,(vf,(vw,((o1,o2),(wh,(pk,(gr,ag)))))))))=[]
 ·simp [q1]
 have q1':decide (eT (k,((tn,(c,ck)),(vn,(vf,(vw,((o1,o2),(wh,(pk,(gr,ag)))))))))=[])=false:=by simpa using q1
 rw [q1',if_neg q1]
 simp only [cond_false]
 by_cases q2:20≤l.length
 ·have:decide ((l.length:Int)≥20)=true:=by simp;omega
  rw [this,if_pos q2];rfl
 have:decide ((l.length:Int)≥20)=false:=by simp;omega
 rw [this,if_neg q2]
 simp only [cond_false,E5,Option.bind_some,qa l _ hl]
 by_cases q3:0≤ez l (nameP (k,((tn,(c,ck)),(vn,(vf,(vw,((o1,o2),(wh,(pk,(gr,ag))))))))))
 ·have:decide (ez l (nameP (k,((tn,(c,ck)),(vn,(vf,(vw,((o1,o2),(wh,(pk,(gr,ag))))))))))≥0)=true:=by simpa using q3
  rw [this,if_pos q3];rfl
 have:decide (ez l (nameP (k,((tn,(c,ck)),(vn,(vf,(vw,((o1,o2),(wh,(pk,(gr,ag))))))))))≥0)=false:=by simpa using q3
 rw [this,if_neg q3]
 have hd:=xW q1
 simp only [cond_false,b_eq]
 by_cases q4:k=0
 ·simp only [q4,decide_true,cond_true,if_true]
  rw [ID l hl hl' tn c ck h.cols h.checks (J1 h)]
  cases rR l (tn,(c,ck))<;>rfl
 ·simp only [q4,decide_false,cond_false,if_false]
  rw [K5 l hl hl' vn vf vw o1 o2 wh pk gr ag (Fa hd q4)]
  cases qb l (vn,(vf,(vw,((o1,o2),(wh,(pk,(gr,ag))))))) with
  |none=>rfl
  |some b=>cases b<;>rfl
def Ak {α R : Type} (step : Nat → α → Option (Unit ⊕ R)) (fin : Option R) : List α → Nat → Option R
  | [],_=>fin
  |a::r,i=>match step i a with
    |some (.inl _)=>Ak step fin r (i+1)
    |some (.inr q)=>some q
    |none=>none
theorem K6 {α S R : Type} {body : S → Option (S ⊕ R)} (mk : Int → S) (l : List α) (step : Nat → α → Option (Unit ⊕ R)) (fin : Option R)
    (h:∀(i:Nat) (hi:i<l.length),body (mk i)=match step i l[i] with|some (.inl _)=>some (.inl (mk (i+1:Nat)))|some (.inr q)=>some (.inr q)|none=>none)
    (h':body (mk l.length)=fin.map .inr):bF body (mk 0)=Ak step fin l 0:=by
  have go:∀(k i:Nat),l.length-i=k→i≤l.length→bF body (mk i)=Ak step fin (l.drop i) i:=by
    intro k
    induction k with
    |zero=>
      intro i h1 h2
      have:i=l.length:=by omega
      subst this
      rw [ek,h',List.drop_length]
      cases fin<;>rfl
    |succ k ih=>
      intro i h1 h2
      have hi:i<l.length:=by omega
      rw [ek,h i hi,List.drop_eq_getElem_cons hi]
      simp only [Ak]
      cases step i l[i] with
      |none=>rfl
      |some q=>cases q with
        |inl _=>exact ih (i+1) (by omega) (by omega)
        |inr _=>rfl
  exact go l.length 0 (by omega) (by omega)
noncomputable def Gp (l:List Dl.Def):List Dl.Def→Nat→Option Bool
 | [],_=>some true
 |d::r,i=>(hY (l.take i) d).bind fun e=>if e=0 then Gp l r (i+1) else some false
noncomputable def yq (l:List Dl.Def):Option Bool:=Gp l l 0
theorem CY (l : List Dl.Def) (hl : Ln l) (hl' : ∀ d ∈ l,Fit d) : cp.F (l,()) = (yq l).map fun x => (x,()) := by
  rw [cp.eq]
  unfold cp.B
  have hf:∀(r:List Dl.Def) (i:Nat),Ak (fun (i:Nat) (d:Dl.Def)=>(hY (l.take i) d).map fun e=>if e=0 then (.inl ():Unit⊕(Bool×Unit)) else .inr (false,())) (some (true,())) r i=(Gp l r i).map fun x=>(x,()):=by
    intro r
    induction r with
    |nil=>intro i;rfl
    |cons d r ih=>
      intro i
      simp only [Ak,Gp]
      cases hY (l.take i) d with
      |none=>rfl
      |some e=>
        by_cases he:e=0
        · simp [he,ih]
        · simp [he]
  refine (K6 (fun i=>(i,())) l (fun (i:Nat) (d:Dl.Def)=>(hY (l.take i) d).map fun e=>if e=0 then .inl () else .inr (false,())) (some (true,())) ?_ ?_).trans (hf l 0)
  · intro i hi
    have hl0:l.length<1000000000000000:=hl
    have d1:decide ((i:Int)<(l.length:Int))=true:=by simp;omega
    have d0:decide (0≤(i:Int))=true:=by simp
    have d2:(decide (0≤(0:Int))&&(true&&decide ((i:Int)≤(l.length:Int))))=true:=by simp;omega
    have gi:l.getD i fq.z=l[i]:=bV hi _
    have hz:=Kp (l.take i) (by show (l.take i).length<_;rw [List.length_take];omega) (fun d hd=>hl' d (List.mem_of_mem_take hd)) l[i].1 l[i].2.1.1 l[i].2.1.2.1 l[i].2.1.2.2 l[i].2.2.1 l[i].2.2.2.1 l[i].2.2.2.2.1 l[i].2.2.2.2.2.1.1 l[i].2.2.2.2.2.1.2 l[i].2.2.2.2.2.2.1 l[i].2.2.2.2.2.2.2.1 l[i].2.2.2.2.2.2.2.2.1 l[i].2.2.2.2.2.2.2.2.2 (hl' _ (List.getElem_mem hi))
    simp only [d1,d0,d2,Bool.and_self,cond_true,Int.toNat_natCast,Int.toNat_zero,List.drop_zero,gi,cz hi (show l.length<9223372036854775808 by omega)]
    cases ha:hY (l.take i) l[i] with
    |none=>exact qu (hz.trans (by rw [show hY (l.take i) _=none from ha];rfl))
    |some e=>
      refine (cv (e,()) (hz.trans (by rw [show hY (l.take i) _=some e from ha];rfl))).trans ?_
      by_cases he:e=0
      · simp [he]
      · simp [he,Ef]
  · have f1:decide ((l.length:Int)<(l.length:Int))=false:=by simp
    simp only [f1,cond_false,Option.map_some]
theorem IE (l:List Dl.Def) (hl:Ln l) (hl':∀d∈l,Fit d) (k:Int) (tn:ByteArray) (c:List Col) (ck:List (List ae)) (vn vf vw:ByteArray) (o1 o2:Int) (wh:List ae) (pk:List Int) (gr:Bool) (ag:List Agg) (h:Fit (k,((tn,(c,ck)),(vn,(vf,(vw,((o1,o2),(wh,(pk,(gr,ag)))))))))):bX.F (l,k,tn,c,ck,vn,vf,vw,o1,o2,wh,pk,gr,ag,())=
 (yq l).bind fun m=>if m=true then (hY l (k,((tn,(c,ck)),(vn,(vf,(vw,((o1,o2),(wh,(pk,(gr,ag)))))))))).bind fun e=>if e=0 then some (0,l++ [(k,((tn,(c,ck)),(vn,(vf,(vw,((o1,o2),(wh,(pk,(gr,ag)))))))))],()) else some (e,[],()) else some (1,[],()):=by
 rw [bX.eq]
 unfold bX.B
 simp only [CY l hl hl',Kp l hl hl' k tn c ck vn vf vw o1 o2 wh pk gr ag h]
 cases yq l with
 |none=>rfl
 |some m=>
 cases m with
 |false=>rfl
 |true=>
 simp only [Option.map_some,Option.bind_some,Bool.not_true,cond_false,if_true]
 cases ha:hY l (k,((tn,(c,ck)),(vn,(vf,(vw,((o1,o2),(wh,(pk,(gr,ag))))))))) with
 |none=>rfl
 |some e=>
 simp only [Option.map_some,Option.bind_some,Ef]
 by_cases he:e=0
 ·subst he
  have hlen:l.length<20:=by
   unfold hY at ha
   split at ha
   ·cases ha
   split at ha
   ·cases ha
   omega
  simp only [ne_eq,not_true_eq_false,decide_false,cond_false,if_true]
  rw [ta l (by omega) (fun x=>some x) (fun i o=>(i,o,())) (fun o=>some (.inl (o,()))) (by
   intro i hi o ho
   have d1:decide ((i:Int)<(l.length:Int))=true:=by simp;omega
   have d0:decide (0≤(i:Int))=true:=by simp
   have gi:l.getD i fq.z=l[i]:=bV hi _
   have b1:∀z:dW,Nat.ble (o.length+([z]:List dW).length) 651562446089=true:=fun z=>Nat.ble_eq_true_of_le (by simp;omega)
   simp only [d1,d0,Bool.and_self,cond_true,Int.toNat_natCast,gi,CV l[i].1 l[i].2.1.1 l[i].2.1.2.1 l[i].2.1.2.2 l[i].2.2.1 l[i].2.2.2.1 l[i].2.2.2.2.1 l[i].2.2.2.2.2.1.1 l[i].2.2.2.2.2.1.2 l[i].2.2.2.2.2.2.1 l[i].2.2.2.2.2.2.2.1 l[i].2.2.2.2.2.2.2.2.1 l[i].2.2.2.2.2.2.2.2.2 (hl' _ (List.getElem_mem hi)),Option.bind_some,b1,cz hi (show l.length<9223372036854775808 by omega),Option.map_some]) (by
   intro o ho
   have f1:decide ((l.length:Int)<(l.length:Int))=false:=by simp
   simp only [f1,cond_false,Option.map_some]) [] (by simp),xS]
  have b1:∀z:dW,Nat.ble (l.length+([z]:List dW).length) 651562446089=true:=fun z=>Nat.ble_eq_true_of_le (by simp;omega)
  simp only [List.map_id',Option.bind_some,List.nil_append,CV k tn c ck vn vf vw o1 o2 wh pk gr ag h,b1,cond_true]
 ·simp [he]
theorem vi (l:List Dl.Def) (hl:Ln l) (hl':∀d∈l,Fit d) (nm:ByteArray):bL.F (l,nm,())=
 if ez l nm<0 then some (false,[],[],()) else (yq l).bind fun m=>if m=true then (nN l (ez l nm)).bind fun d=>(colsN l 64 d).map fun x=>(true,x.1,x.2,()) else some (false,[],[],()):=by
 rw [bL.eq]
 unfold bL.B
 simp only [qa l _ hl,CY l hl hl',Option.bind_some]
 by_cases q:ez l nm<0
 ·simp [q]
 have q':decide (ez l nm<0)=false:=by simpa using q
 rw [q',if_neg q]
 cases yq l with
 |none=>rfl
 |some m=>
 cases m with
 |false=>rfl
 |true=>
 simp only [Option.map_some,Option.bind_some,Bool.not_true,cond_false,if_true]
 rcases lz l (ez l nm) with ⟨h1,h2⟩|⟨d,h1,h2,h3,h4⟩
 ·rw [h1,h2];rfl
 rw [h1,h2]
 simp only [cond_true,h3,Option.bind_some]
 have hC:=Ed l hl hl' d.1 d.2.1.1 d.2.1.2.1 d.2.1.2.2 d.2.2.1 d.2.2.2.1 d.2.2.2.2.1 d.2.2.2.2.2.1.1 d.2.2.2.2.2.1.2 d.2.2.2.2.2.2.1 d.2.2.2.2.2.2.2.1 d.2.2.2.2.2.2.2.2.1 d.2.2.2.2.2.2.2.2.2 (hl' d h4)
 cases hc:colsN l 64 d with
 |none=>exact qu (hC.trans (by rw [show colsN l 64 _=none from hc];rfl))
 |some a=>exact cv (a.1,a.2,()) (hC.trans (by rw [show colsN l 64 _=some a from hc];rfl))
end Go.Proofs.Ytleadolkcmagfaa
end
section
set_option maxRecDepth 100000
namespace Go.Proofs.Ytleadolkcmagfaa
open Go Lv Go.Proofs Go.RowKit Go.Shelf Dl
theorem Al (nm : ByteArray) : ∀ (l : List Dl.Def) (i : Nat),(lx nm l i = -1 ∧ ∀ d ∈ l,nameP d ≠ nm) ∨ ∃ (j : Nat) (hj : j < l.length),lx nm l i = ((i + j : Nat) : Int) ∧ nameP l[j] = nm
  | [],i=> .inl ⟨rfl,by simp⟩
  | d :: r,i => by
    simp only [lx]
    by_cases h:nameP d=nm
    · exact .inr ⟨0,by simp,by rw [if_pos h];rfl,h⟩
    · rw [if_neg h]
      rcases Al nm r (i+1) with ⟨h1,h2⟩|⟨j,hj,h1,h2⟩
      · refine .inl ⟨h1,fun x hx=>?_⟩
        rcases List.mem_cons.1 hx with rfl|hx
        · exact h
        · exact h2 x hx
      · exact .inr ⟨j+1,by simp;omega,by rw [h1];congr 1;omega,by simpa using h2⟩
theorem xX (nm:ByteArray):∀(a b:List Dl.Def) (i:Nat),lx nm (a++b) i=if lx nm a i<0 then lx nm b (i+a.length) else lx nm a i
  | [],b,i=>by simp [lx]
  | d :: r,b,i => by
    by_cases h:nameP d=nm
    · have e1:lx nm (d::r) i=(i:Int):=by simp [lx,h]
      have e2:lx nm (d::r++b) i=(i:Int):=by simp [lx,h]
      rw [e1,e2,if_neg (by omega)]
    · have e1:lx nm (d::r) i=lx nm r (i+1):=by simp [lx,h]
      have e2:lx nm (d::r++b) i=lx nm (r++b) (i+1):=by simp [lx,h]
      rw [e1,e2,xX nm r b (i+1)]
      simp only [List.length_cons,Nat.add_assoc,Nat.add_comm 1]
theorem xY {l:List Dl.Def} {nm:ByteArray} (h:0≤ez l nm):∃(j:Nat) (hj:j<l.length),ez l nm=j∧nameP l[j]=nm:=by
 rcases Al nm l 0 with ⟨h1,_⟩|⟨j,hj,h1,h2⟩
 ·unfold ez at h;omega
 ·exact ⟨j,hj,by unfold ez;rw [h1];congr 1;omega,h2⟩
theorem CZ {a:List Dl.Def} {nm:ByteArray} (b:List Dl.Def) (h:0≤ez a nm):ez (a++b) nm=ez a nm:=by
 unfold ez at*
 rw [xX,if_neg (by omega)]
theorem tb {l:List Dl.Def} {j:Nat} (hj:j<l.length):nN l (j:Int)=some l[j]:=by
 unfold nN
 rw [if_pos (by omega),Int.toNat_natCast,bV hj]
theorem xZ {l:List Dl.Def} {i:Int} {d:Dl.Def} (h:nN l i=some d):∃(j:Nat) (hj:j<l.length),i=j∧d=l[j]:=by
 unfold nN at h
 split at h
 ·rename_i hi
  have hj:i.toNat<l.length:=by omega
  cases h
  exact ⟨i.toNat,hj,by omega,bV hj _⟩
 ·cases h
theorem IG {a:List Dl.Def} {i:Int} {d:Dl.Def} (b:List Dl.Def) (h:nN a i=some d):nN (a++b) i=some d:=by
 obtain ⟨j,hj,rfl,rfl⟩:=xZ h
 rw [tb (by simp;omega),List.getElem_append_left hj]
theorem tc {a:List Dl.Def} {nm:ByteArray} {d:Dl.Def} (b:List Dl.Def) (h:nN a (ez a nm)=some d):nN (a++b) (ez (a++b) nm)=some d:=by
 obtain ⟨j,hj,h1,rfl⟩:=xZ h
 rw [CZ b (by omega)]
 exact IG b h
theorem rS {a:List Dl.Def} (b:List Dl.Def) {g g':Dl.Def→Option (List Int×List Bool)} (hg:∀d r,g d=some r→g' d=some r) {v:mJ} {k:List Int} (h:iV a g v=some k):iV (a++b) g' v=some k:=by
 unfold iV at h ⊢
 simp only [Option.bind_eq_some_iff] at h
 obtain ⟨d,h1,x,h2,h3⟩:=h
 rw [tc b h1]
 simp only [Option.bind_some,hg d x h2]
 by_cases e:v.2.2.1=e0
 ·rw [if_pos e] at h3 ⊢;exact h3
 ·rw [if_neg e] at h3 ⊢
  simp only [Option.bind_eq_some_iff] at h3
  obtain ⟨d',k1,y,k2,k3⟩:=h3
  rw [tc b k1]
  simp only [Option.bind_some,hg d' y k2]
  exact k3
theorem Ei {f f':mJ→Option (List Int)} (hf:∀v k,f v=some k→f' v=some k) {d:Dl.Def} {r:List Int×List Bool} (h:mF f d=some r):mF f' d=some r:=by
 unfold mF at h ⊢
 by_cases hk:d.1=0
 ·rw [if_pos hk] at h ⊢;exact h
 ·rw [if_neg hk] at h ⊢
  obtain ⟨l,h1,h2⟩:=Option.bind_eq_some_iff.1 h
  rw [hf _ _ h1]
  exact h2
theorem rT {a:List Dl.Def} (b:List Dl.Def):∀{n m:Nat} {d:Dl.Def} {r:List Int×List Bool},colsN a n d=some r→n≤m→colsN (a++b) m d=some r
 |0,_,_,_,h,_=>by cases h
 |n+1,0,_,_,_,h=>by omega
 |n+1,m+1,d,r,h,hm=>Ei (f:=iV a (colsN a n)) (fun v k hk=>rS b (fun d r hd=>rT b hd (by omega)) hk) h
theorem rU {a:List Dl.Def} {n m:Nat} {d:Dl.Def} {r:List Int×List Bool} (h:colsN a n d=some r) (hm:n≤m):colsN a m d=some r:=by
 have:=rT [] h hm
 rwa [List.append_nil] at this
def lD (l:List Dl.Def):Prop:=∀(i:Nat) (h:i<l.length),hY (l.take i) l[i]=some 0
structure Add0 (p:List Dl.Def) (d:Dl.Def):Prop where
 def_ok:lr d
 many:p.length<20
 new:ez p (nameP d)<0
 tab:d.1=0→rR p d.2.1=some 0
 view:d.1≠0→qb p d.2.2=some true
theorem IH {p:List Dl.Def} {d:Dl.Def} (h:hY p d=some 0):Add0 p d:=by
 unfold hY at h
 by_cases q1:eT d=[]
 ·rw [if_pos q1] at h;cases h
 rw [if_neg q1] at h
 by_cases q2:20≤p.length
 ·rw [if_pos q2] at h;cases h
 rw [if_neg q2] at h
 by_cases q3:0≤ez p (nameP d)
 ·rw [if_pos q3] at h;cases h
 rw [if_neg q3] at h
 refine ⟨xW q1,by omega,by omega,fun e=>?_,fun e=>?_⟩
 ·rw [if_pos e] at h;exact h
 ·rw [if_neg e] at h
  cases hv:qb p d.2.2 with
  |none=>rw [hv] at h;cases h
  |some b=>rw [hv] at h;cases b with
   |true=>rfl
   |false=>cases h
structure View1 (p:List Dl.Def) (v:mJ) (ks:List Int):Prop where
 fr:0≤ez p v.2.1
 wi:v.2.2.1=e0∨0≤ez p v.2.2.1
 jn:iV p (colsN p 64) v=some ks
 pick:∀n∈v.2.2.2.2.2.1,n<(ks.length:Int)
 aggs:∀a∈v.2.2.2.2.2.2.2,tU ks a=false
 many:1≤v.2.2.2.2.2.1.length+v.2.2.2.2.2.2.2.length∧v.2.2.2.2.2.1.length+v.2.2.2.2.2.2.2.length≤40
theorem Kq {p:List Dl.Def} {v:mJ} (h:qb p v=some true):∃ks,View1 p v ks:=by
 unfold qb at h
 by_cases q1:ez p v.2.1<0
 ·rw [if_pos q1] at h;cases h
 rw [if_neg q1] at h
 by_cases q2:v.2.2.1≠e0∧ez p v.2.2.1<0
 ·rw [if_pos q2] at h;cases h
 rw [if_neg q2] at h
 simp only [Option.bind_eq_some_iff] at h
 obtain ⟨d,_,a,_,ks,h3,h4⟩:=h
 injection h4 with h4
 simp only [Eh,Eg,Bool.and_eq_true,decide_eq_true_eq,List.all_eq_true,Bool.not_eq_true'] at h4
 obtain ⟨_,_,hp,ha,_,hm⟩:=h4
 refine ⟨ks,by omega,?_,h3,hp,ha,hm⟩
 by_cases e:v.2.2.1=e0
 ·exact .inl e
 ·exact .inr (by
   by_cases q:ez p v.2.2.1<0
   ·exact absurd ⟨e,q⟩ q2
   ·omega)
theorem J2 {l:List Dl.Def} (h:lD l) {i:Nat} (hi:i<l.length):ez l (nameP l[i])=i:=by
 have hn:=(IH (h i hi)).new
 have:l=l.take i++l[i]::l.drop (i+1):=by rw [←List.drop_eq_getElem_cons hi,List.take_append_drop]
 have e:ez l (nameP l[i])=ez (l.take i++l[i]::l.drop (i+1)) (nameP l[i]):=by rw [←this]
 rw [e]
 unfold ez at*
 rw [xX,if_pos hn]
 simp only [lx,if_pos,List.length_take,Nat.zero_add]
 rw [Nat.min_eq_left (by omega)]
theorem Ej {l:List Dl.Def} (h:lD l):∀d∈l,lr d:=fun d hd=>by
 obtain ⟨i,hi,rfl⟩:=List.getElem_of_mem hd
 exact (IH (h i hi)).def_ok
theorem qv {l:List Dl.Def} (h:lD l):l.length≤20:=by
 by_cases e:l.length=0
 ·omega
 ·have:=(IH (h (l.length-1) (by omega))).many
  rw [List.length_take] at this
  omega
theorem ya (l:List Dl.Def) (i:Nat):l.take i++l.drop i=l:=List.take_append_drop i l
theorem J3 {l : List Dl.Def} (h : lD l) : ∀ (i : Nat) (hi : i < l.length),∃ r,colsN l (i + 1) l[i] = some r := by
  intro i
  induction i using Nat.strongRecOn with
  | ind i ih =>
    intro hi
    have A:=IH (h i hi)
    have hlt:=qv h
    show ∃r,mF (iV l (colsN l i)) l[i]=some r
    unfold mF
    by_cases hk:l[i].1=0
    · rw [if_pos hk];exact ⟨_,rfl⟩
    rw [if_neg hk]
    obtain ⟨ks,V⟩:=Kq (A.view hk)
    have hv:=Fa A.def_ok hk
    have hj:∃K,iV l (colsN l i) l[i].2.2=some K:=by
      have get:∀nm,0≤ez (l.take i) nm→∃d x,nN l (ez l nm)=some d∧colsN l i d=some x:=fun nm hf=>by
        obtain ⟨j,hj,h1,_⟩:=xY hf
        have hj':j<i:=by rw [List.length_take] at hj;omega
        have e:=CZ (l.drop i) hf
        rw [ya] at e
        obtain ⟨x,hx⟩:=ih j hj' (by omega)
        exact ⟨l[j],x,by rw [e,h1];exact tb (by omega),rU hx (by omega)⟩
      unfold iV
      obtain ⟨d,x,h1,h2⟩:=get _ V.fr
      rw [h1]
      simp only [Option.bind_some,h2]
      by_cases e:l[i].2.2.2.2.1=e0
      · exact ⟨x.1,by rw [if_pos e]⟩
      · rw [if_neg e]
        obtain ⟨d',y,k1,k2⟩:=get _ (V.wi.resolve_left e)
        rw [k1]
        simp only [Option.bind_some,k2]
        exact ⟨_,rfl⟩
    obtain ⟨K,hK⟩:=hj
    have e1:=rS (l.drop i) (g':=colsN l 64) (fun d r hd=>by
      have:=rT (l.drop i) hd (Nat.le_refl 64)
      rwa [ya] at this) V.jn
    rw [ya] at e1
    have e2:=rS [] (g':=colsN l 64) (fun d r hd=>rU hd (by omega)) hK
    rw [List.append_nil,e1] at e2
    cases e2
    rw [hK]
    simp only [Option.bind_some]
    obtain ⟨a,ha⟩:=tS (f:=atI ks) (l:=l[i].2.2.2.2.2.2.2.1) fun n hn=>by
      have:=V.pick n hn
      have:=hv.pick n hn
      exact ⟨_,by unfold atI;rw [if_pos (by omega)]⟩
    obtain ⟨b,hb⟩:=tS (f:=Ax ks) (l:=l[i].2.2.2.2.2.2.2.2.2) fun x hx=>by
      have h1:=V.aggs x hx
      have h2:=hv.aggs x hx
      unfold Ax
      by_cases e:x.1=2∨x.1=3
      · rw [if_pos e]
        unfold tU at h1
        simp only [Bool.or_eq_false_iff,Bool.and_eq_false_iff,decide_eq_false_iff_not] at h1
        have h3:=h2.2.2.1
        exact ⟨_,by unfold atI;rw [if_pos (by omega)]⟩
      · rw [if_neg e];exact ⟨_,rfl⟩
    rw [ha]
    simp only [Option.bind_some,hb]
    exact ⟨_,rfl⟩
theorem yb {l : List Dl.Def} (hl : ∀ d ∈ l,lr d) : ∀ {n : Nat} {d : Dl.Def} {r : List Int × List Bool},lr d → colsN l n d = some r → ∀ k ∈ r.1,1 ≤ k ∧ k ≤ 3
  |0,_,_,_,h=>by cases h
  | n + 1,d,r,hd,h => by
    have h:mF (iV l (colsN l n)) d=some r:=h
    unfold mF at h
    by_cases hk:d.1=0
    · rw [if_pos hk] at h
      cases h
      intro k hk'
      obtain ⟨c,hc,rfl⟩:=List.mem_map.1 hk'
      have:=(Be hd hk).cols c hc
      exact ⟨this.2.1,this.2.2.1⟩
    rw [if_neg hk] at h
    simp only [Option.bind_eq_some_iff] at h
    obtain ⟨ks,h1,a,h2,b,h3,h4⟩:=h
    have gm:∀{i:Int} {d:Dl.Def},nN l i=some d→lr d:=fun hg=>by
      obtain ⟨j,hj,_,rfl⟩:=xZ hg
      exact hl _ (List.getElem_mem hj)
    have hks:∀k∈ks,1≤k∧k≤3:=by
      unfold iV at h1
      simp only [Option.bind_eq_some_iff] at h1
      obtain ⟨d1,g1,x,g2,g3⟩:=h1
      have hx:=yb hl (gm g1) g2
      by_cases e:d.2.2.2.2.1=e0
      · rw [if_pos e] at g3;cases g3;exact hx
      · rw [if_neg e] at g3
        simp only [Option.bind_eq_some_iff] at g3
        obtain ⟨d2,k1,y,k2,k3⟩:=g3
        have hy:=yb hl (gm k1) k2
        cases k3
        intro k hk
        rcases List.mem_append.1 hk with hk|hk
        · exact hx k hk
        · exact hy k hk
    have hat:∀{n:Int} {k:Int},atI ks n=some k→1≤k∧k≤3:=fun {n k} ha=>by
      unfold atI at ha
      split at ha
      · rename_i hn
        have hn':n.toNat<ks.length:=by omega
        rw [bV hn'] at ha
        cases ha
        exact hks _ (List.getElem_mem hn')
      · cases ha
    cases h4
    intro k hk
    rcases List.mem_append.1 hk with hk|hk
    · obtain ⟨n,_,hn⟩:=xR h2 k hk
      exact hat hn
    · obtain ⟨n,_,hn⟩:=xR h3 k hk
      unfold Ax at hn
      split at hn
      · exact hat hn
      · cases hn;omega
structure Fb (l:List Dl.Def) (d:Dl.Def) (r:List Int×List Bool):Prop where
 is:colsN l 64 d=some r
 len:r.2.length=r.1.length
 some:1≤r.1.length
 most:r.1.length≤40
 kinds:∀k∈r.1,1≤k∧k≤3
 tab:d.1=0→r=(d.2.1.2.1.map (·.2.1),d.2.1.2.1.map (·.2.2.1))
 view:d.1≠0→r.1.length=d.2.2.2.2.2.2.2.1.length+d.2.2.2.2.2.2.2.2.2.length
theorem yd {l:List Dl.Def} (h:lD l) (i:Nat) (hi:i<l.length):∃r,Fb l l[i] r:=by
 obtain ⟨r,hr⟩:=J3 h i hi
 have hlen:=qv h
 have A:=IH (h i hi)
 have hr':=rU hr (show i+1≤64 by omega)
 have hK:=yb (Ej h) A.def_ok hr
 have hr:mF (iV l (colsN l i)) l[i]=some r:=hr
 unfold mF at hr
 by_cases hk:l[i].1=0
 ·rw [if_pos hk] at hr
  cases hr
  have T:=Be A.def_ok hk
  exact ⟨_,hr',by simp,by simpa using T.some,by simpa using T.most,hK,fun _=>rfl,fun e=>absurd hk e⟩
 ·rw [if_neg hk] at hr
  simp only [Option.bind_eq_some_iff] at hr
  obtain ⟨ks,h1,a,h2,b,h3,h4⟩:=hr
  cases h4
  obtain ⟨_,V⟩:=Kq (A.view hk)
  have l1:=ly h2
  have l2:=ly h3
  have hm:=V.many
  exact ⟨_,hr',by simp,by simp;omega,by simp;omega,hK,fun e=>absurd e hk,fun _=>by simp;omega⟩
end Go.Proofs.Ytleadolkcmagfaa
end
section
set_option maxRecDepth 100000
namespace Go.Proofs.Ytleadolkcmagfaa
open Go Lv Go.Proofs Go.RowKit Go.Shelf Dl
theorem II {of:List Col} (h:1≤of.length) (x:Col):∃b,Gn of x=some b:=by
 cases of with
 |nil=>simp at h
 |cons y r=>exact ⟨_,rfl⟩
theorem Gq {l : List Dl.Def} (h : lD l) (d : Dl.Def) : ∃ e,hY l d = some e := by
  unfold hY
  by_cases q1:eT d=[]
  · exact ⟨1,by rw [if_pos q1]⟩
  rw [if_neg q1]
  by_cases q2:20≤l.length
  · exact ⟨95,by rw [if_pos q2]⟩
  rw [if_neg q2]
  by_cases q3:0≤ez l (nameP d)
  · exact ⟨90,by rw [if_pos q3]⟩
  rw [if_neg q3]
  have hd:=xW q1
  have get:∀nm,0≤ez l nm→∃(j:Nat) (hj:j<l.length),nN l (ez l nm)=some l[j]:=fun nm hf=>by
    obtain ⟨j,hj,h1,_⟩:=xY hf
    exact ⟨j,hj,by rw [h1];exact tb hj⟩
  by_cases hk:d.1=0
  · rw [if_pos hk]
    have T:=Be hd hk
    have hr:∀x,∃b,xT l d.2.1 x=some b:=fun x=>by
      unfold xT
      by_cases r1:x.2.2.2.2.1=e0
      · exact ⟨_,by rw [if_pos r1]⟩
      rw [if_neg r1]
      by_cases r2:x.2.2.2.2.1=d.2.1.1
      · rw [if_pos r2];exact II T.some x
      rw [if_neg r2]
      by_cases r3:ez l x.2.2.2.2.1<0
      · exact ⟨_,by rw [if_pos r3]⟩
      rw [if_neg r3]
      obtain ⟨j,hj,h1⟩:=get x.2.2.2.2.1 (by omega)
      rw [h1]
      simp only [Option.bind_some]
      by_cases r4:l[j].1=0
      · rw [if_pos r4];exact II (Be (Ej h _ (List.getElem_mem hj)) r4).some x
      · exact ⟨_,by rw [if_neg r4]⟩
    have hrs:∀r:List Col,∃b,rQ l d.2.1 r=some b:=fun r=>by
      induction r with
      |nil=>exact ⟨_,rfl⟩
      |cons x r ih=>
        obtain ⟨b,hb⟩:=hr x
        obtain ⟨b',hb'⟩:=ih
        simp only [rQ,hb,Option.bind_some]
        cases b with
        |true=>exact ⟨b',by simpa using hb'⟩
        |false=>exact ⟨_,rfl⟩
    unfold rR
    by_cases c1:tT d.2.1.2.1 d.2.1.2.1 0=true
    · rw [if_pos c1]
      obtain ⟨b,hb⟩:=hrs d.2.1.2.1
      rw [hb]
      simp only [Option.bind_some]
      cases b with
      |false=>exact ⟨_,rfl⟩
      |true=>
        simp only [if_true]
        by_cases c2:d.2.1.2.2.all (fun e=>jt e (IC d.2.1))=true
        · exact ⟨0,by rw [if_pos c2]⟩
        · exact ⟨93,by rw [if_neg c2]⟩
    · exact ⟨_,by rw [if_neg c1]⟩
  · rw [if_neg hk]
    have hv : ∃ b,qb l d.2.2 = some b := by
      unfold qb
      by_cases v1:ez l d.2.2.2.1<0
      · exact ⟨_,by rw [if_pos v1]⟩
      rw [if_neg v1]
      by_cases v2:d.2.2.2.2.1≠e0∧ez l d.2.2.2.2.1<0
      · exact ⟨_,by rw [if_pos v2]⟩
      rw [if_neg v2]
      obtain ⟨j,hj,h1⟩:=get d.2.2.2.1 (by omega)
      obtain ⟨r,hr⟩:=yd h j hj
      have hJ:∃ks,iV l (colsN l 64) d.2.2=some ks:=by
        unfold iV
        rw [h1]
        simp only [Option.bind_some,hr.is]
        by_cases e:d.2.2.2.2.1=e0
        · exact ⟨_,by rw [if_pos e]⟩
        · rw [if_neg e]
          obtain ⟨j',hj',k1⟩:=get d.2.2.2.2.1 (by
            by_cases q:ez l d.2.2.2.2.1<0
            · exact absurd ⟨e,q⟩ v2
            · omega)
          obtain ⟨r',hr'⟩:=yd h j' hj'
          rw [k1]
          simp only [Option.bind_some,hr'.is]
          exact ⟨_,rfl⟩
      obtain ⟨ks,hks⟩:=hJ
      rw [h1]
      simp only [Option.bind_some,hr.is,hks]
      exact ⟨_,rfl⟩
    obtain ⟨b,hb⟩:=hv
    rw [hb]
    exact ⟨_,rfl⟩
theorem Gr (l : List Dl.Def) : ∀ (k i : Nat),l.length - i = k → i ≤ l.length → lD (l.take i) → ∃ b,Gp l (l.drop i) i = some b ∧ (b = true ↔ lD l) := by
  intro k
  induction k with
  |zero=>
    intro i h1 h2 h
    have:i=l.length:=by omega
    subst this
    rw [List.take_length] at h
    exact ⟨true,by rw [List.drop_length];rfl,by simp [h]⟩
  |succ k ih=>
    intro i h1 h2 h
    have hi:i<l.length:=by omega
    rw [List.drop_eq_getElem_cons hi]
    obtain ⟨e,he⟩:=Gq h l[i]
    simp only [Gp,he,Option.bind_some]
    by_cases q:e=0
    · rw [if_pos q]
      refine ih (i+1) (by omega) (by omega) fun j hj=>?_
      have hj':j<i+1:=by rw [List.length_take] at hj;omega
      rw [List.take_take,List.getElem_take,Nat.min_eq_left (by omega)]
      by_cases hji:j<i
      · have:=h j (by rw [List.length_take];omega)
        rwa [List.take_take,List.getElem_take,Nat.min_eq_left (by omega)] at this
      · have:j=i:=by omega
        subst this
        rw [he,q]
    · rw [if_neg q]
      exact ⟨false,rfl,by simpa using fun hm:lD l=>q (by have:=hm i hi;rw [he] at this;exact Option.some.inj this)⟩
theorem tW (l:List Dl.Def):(yq l=some true∧lD l)∨(yq l=some false∧¬lD l):=by
 obtain ⟨b,h1,h2⟩:=Gr l _ 0 rfl (by omega) (fun i hi=>by simp at hi)
 rw [List.drop_zero] at h1
 cases b with
 |true=>exact .inl ⟨h1,h2.1 rfl⟩
 |false=>exact .inr ⟨h1,fun h=>by have:=h2.2 h;cases this⟩
theorem qc {l:List Dl.Def} (h:lD l):yq l=some true:=by
 rcases tW l with ⟨h1,_⟩|⟨_,h2⟩
 ·exact h1
 ·exact absurd h h2
theorem Gs {l:List Dl.Def} (h:¬lD l):yq l=some false:=by
 rcases tW l with ⟨_,h2⟩|⟨h1,_⟩
 ·exact absurd h2 h
 ·exact h1
theorem Fc {l:List Dl.Def} (h:lD l) {d:Dl.Def} (ha:hY l d=some 0):lD (l++ [d]):=fun i hi=>by
 by_cases q:i<l.length
 ·rw [List.take_append_of_le_length (by omega),List.getElem_append_left q];exact h i q
 ·have:i=l.length:=by simp at hi;omega
  subst this
  rw [List.take_left,List.getElem_append_right (Nat.le_refl _)]
  simpa using ha
theorem C0 {l:List Dl.Def} (h:lD l) (hl':∀d∈l,Fit d) {nm:ByteArray} (hf:0≤ez l nm):∃(j:Nat) (hj:j<l.length) (r:List Int×List Bool),ez l nm=j∧nameP l[j]=nm∧Fb l l[j] r∧bL.F (l,nm,())=some (true,r.1,r.2,()):=by
 obtain ⟨j,hj,h1,h2⟩:=xY hf
 obtain ⟨r,hr⟩:=yd h j hj
 refine ⟨j,hj,r,h1,h2,hr,?_⟩
 rw [vi l (by have:=qv h;show _<_;omega) hl',if_neg (by omega),qc h,h1,tb hj]
 simp only [Option.bind_some,if_true,hr.is,Option.map_some]
def tbl (nm ref:ByteArray):Dl.Def:=(0,((nm,([((⟨#[107]⟩:ByteArray),(2,(false,(false,(e0,0))))),((⟨#[97]⟩:ByteArray),(2,(true,(false,(ref,0)))))],[])),xn))
def vw1 (nm fr:ByteArray):Dl.Def:=(1,(Dl.tab0,(nm,(fr,(e0,((0,0),([],([1],(true,[(1,0)])))))))))
def Gt (nm:ByteArray):List Dl.Tok:=wd (⟨#[116,97,98,108,101]⟩:ByteArray)::wd nm::[sg (⟨#[40]⟩:ByteArray),wd (⟨#[107]⟩:ByteArray),wd (⟨#[105,110,116]⟩:ByteArray),sg (⟨#[44]⟩:ByteArray),wd (⟨#[97]⟩:ByteArray),wd (⟨#[105,110,116]⟩:ByteArray),wd (⟨#[110,117,108,108]⟩:ByteArray),sg (⟨#[41]⟩:ByteArray)]
theorem K7 {nm:ByteArray} (h:isName nm=true):lr (tbl nm e0):=.tab
  { name := h
    cols:=fun c hc=>by
      simp only [List.mem_cons,List.not_mem_nil,or_false] at hc
      rcases hc with rfl|rfl
      · exact ⟨by decide,by decide,by decide,.inl ⟨rfl,rfl⟩⟩
      · exact ⟨by decide,by decide,by decide,.inl ⟨rfl,rfl⟩⟩
    checks:=fun e he=>by cases he
    some:=(by decide:1≤2)
    most:=(by decide:2≤40)
    most2:=(by decide:0≤40)}
theorem tX {nm:ByteArray} (h:isName nm=true):eT (tbl nm e0)≠ []:=by
 have ht:nE (tbl nm e0)=fC ((Gt nm).map eR):=HN (K7 h)
 have hw:jD nm=true:=by simp only [isName,Bool.and_eq_true] at h;exact h.1
 have hall:gB (Gt nm):=fun t hm=>by
  have hsg:∀c:UInt8,c∈fB→ja (sg (bs [c])):=fun c hc=> .sign hc
  have hwd:∀w:ByteArray,jD w=true→ja (wd w):=fun w hw=>ja.word hw
  simp only [Gt,List.mem_cons,List.not_mem_nil,or_false] at hm
  rcases hm with rfl|rfl|rfl|rfl|rfl|rfl|rfl|rfl|rfl|rfl
  ·exact hwd _ (by decide)
  ·exact hwd _ hw
  ·exact hsg 40 (by decide)
  ·exact hwd _ (by decide)
  ·exact hwd _ (by decide)
  ·exact hsg 44 (by decide)
  ·exact hwd _ (by decide)
  ·exact hwd _ (by decide)
  ·exact hwd _ (by decide)
  ·exact hsg 41 (by decide)
 have hn:=Ac h
 have hlen:(nE (tbl nm e0)).length≤200:=by
  rw [ht]
  refine Nat.le_trans (FV _) ?_
  have e2:xm [sg (⟨#[40]⟩:ByteArray),wd (⟨#[107]⟩:ByteArray),wd (⟨#[105,110,116]⟩:ByteArray),sg (⟨#[44]⟩:ByteArray),wd (⟨#[97]⟩:ByteArray),wd (⟨#[105,110,116]⟩:ByteArray),wd (⟨#[110,117,108,108]⟩:ByteArray),sg (⟨#[41]⟩:ByteArray)]=23:=by decide
  have e1:xm (Gt nm)=((eR (wd (⟨#[116,97,98,108,101]⟩:ByteArray))).length+1)+(((eR (wd nm)).length+1)+23):=by rw [←e2];rfl
  have e3:(eR (wd nm)).length=nm.size:=rfl
  have e4:(eR (wd (⟨#[116,97,98,108,101]⟩:ByteArray))).length=5:=by decide
  rw [e1,e3,e4];omega
 have hp:lq (Gt nm)=some (tbl nm e0):=by
  unfold lq Dz Gt
  rw [show gI 0 [(⟨#[116,97,98,108,101]⟩:ByteArray),(⟨#[118,105,101,119]⟩:ByteArray)] (wd (⟨#[116,97,98,108,101]⟩:ByteArray)::wd nm::[sg (⟨#[40]⟩:ByteArray),wd (⟨#[107]⟩:ByteArray),wd (⟨#[105,110,116]⟩:ByteArray),sg (⟨#[44]⟩:ByteArray),wd (⟨#[97]⟩:ByteArray),wd (⟨#[105,110,116]⟩:ByteArray),wd (⟨#[110,117,108,108]⟩:ByteArray),sg (⟨#[41]⟩:ByteArray)])=some (0,wd nm::[sg (⟨#[40]⟩:ByteArray),wd (⟨#[107]⟩:ByteArray),wd (⟨#[105,110,116]⟩:ByteArray),sg (⟨#[44]⟩:ByteArray),wd (⟨#[97]⟩:ByteArray),wd (⟨#[105,110,116]⟩:ByteArray),wd (⟨#[110,117,108,108]⟩:ByteArray),sg (⟨#[41]⟩:ByteArray)]) from by kernel_rfl]
  simp only [Option.bind_some,if_true]
  unfold lm
  rw [sY h]
  kernel_rfl
 have hr:kf (nE (tbl nm e0))=(tbl nm e0,0):=by
  unfold kf
  rw [if_neg (by omega),ht,FU _ hall]
  simp only [hp]
 unfold eT
 rw [if_neg (by omega),if_pos hr]
 intro e
 rw [e] at hr
 have:kf []=(FW,70):=by kernel_rfl
 rw [this] at hr
 injection hr with _ hr
 cases hr
end Go.Proofs.Ytleadolkcmagfaa
end
section
set_option maxRecDepth 100000
namespace Go.Proofs.Ytleadolkcmagfaa
open Go Lv Go.Proofs Go.RowKit Go.Shelf Dl
theorem vj {nm ref:ByteArray} (h1:nm.size≤100) (h2:ref.size≤100):Fit (tbl nm ref):=
  ⟨(by decide : 2 ≤ 400),(by decide : 0 ≤ 400),(by decide : 0 ≤ 400),(by decide : 0 ≤ 400),(fun e he => by cases he),⟨(by decide : 0 ≤ 120),fun x hx => by cases hx⟩,(fun c hc => by
    have hc:c∈ [(((⟨#[107]⟩:ByteArray),(2,(false,(false,(e0,0))))):Col),((⟨#[97]⟩:ByteArray),(2,(true,(false,(ref,0)))))]:=hc
    simp only [List.mem_cons,List.not_mem_nil,or_false] at hc
    rcases hc with rfl|rfl
    · exact ⟨by decide,by decide,by decide,by decide⟩
    · exact ⟨(by decide:1≤100),h2,(⟨by decide,by decide⟩:I64 2)⟩),h1,(by decide:0≤100),(by decide:0≤100),(by decide:0≤100),(⟨by decide,by decide⟩:I64 0),(⟨by decide,by decide⟩:I64 0),(fun n hn=>by cases hn),(fun a ha=>by cases ha)⟩
theorem IJ {nm fr:ByteArray} (h1:nm.size≤100) (h2:fr.size≤100):Fit (vw1 nm fr):=
  ⟨(by decide : 0 ≤ 400),(by decide : 0 ≤ 400),(by decide : 1 ≤ 400),(by decide : 1 ≤ 400),(fun e he => by cases he),⟨(by decide : 0 ≤ 120),fun x hx => by cases hx⟩,(fun c hc => by cases hc),(by decide : 0 ≤ 100),h1,h2,(by decide : 0 ≤ 100),(⟨by decide,by decide⟩ : I64 0),(⟨by decide,by decide⟩ : I64 0),(fun n hn => by
    have hn:n∈ [(1:Int)]:=hn
    simp only [List.mem_cons,List.not_mem_nil,or_false] at hn
    subst hn;exact ⟨by decide,by decide⟩),(fun a ha=>by
    have ha:a∈ [((1:Int),(0:Int))]:=ha
    simp only [List.mem_cons,List.not_mem_nil,or_false] at ha
    subst ha;exact ⟨by decide,by decide⟩)⟩
theorem qw {d:Dl.Def} {t:List UInt8} (h1:nE d=t) (h2:t.length≤20000) (h3:kf t=(d,0)) (h4:t≠ []):eT d≠ []:=by
 unfold eT
 rw [h1,if_neg (by omega),if_pos h3]
 exact h4
theorem ye {l:List Dl.Def} {d:Dl.Def} {e:Int} (h1:eT d≠ []) (h2:l.length<20) (h3:ez l (nameP d)<0) (h4:d.1=0) (h5:rR l d.2.1=some e):hY l d=some e:=by
 unfold hY;rw [if_neg h1,if_neg (by omega),if_neg (by omega),if_pos h4,h5]
theorem tY {l:List Dl.Def} {d:Dl.Def} {b:Bool} (h1:eT d≠ []) (h2:l.length<20) (h3:ez l (nameP d)<0) (h4:d.1≠0) (h5:qb l d.2.2=some b):hY l d=some (if b=true then 0 else 94):=by
 unfold hY;rw [if_neg h1,if_neg (by omega),if_neg (by omega),if_neg h4,h5];rfl
theorem yf {l:List Dl.Def} {d:Dl.Def} (h1:eT d≠ []) (h2:l.length<20) (h3:0≤ez l (nameP d)):hY l d=some 90:=by
 unfold hY;rw [if_neg h1,if_neg (by omega),if_pos h3]
theorem Am {l:List Dl.Def} {d:Dl.Def} (h1:eT d≠ []) (h2:20≤l.length):hY l d=some 95:=by
 unfold hY;rw [if_neg h1,if_pos h2]
theorem Bf {l:List Dl.Def} (h:lD l) (hl':∀d∈l,Fit d) {d:Dl.Def} (hd:Fit d) (ha:hY l d=some 0):bX.F (l,d.1,d.2.1.1,d.2.1.2.1,d.2.1.2.2,d.2.2.1,d.2.2.2.1,d.2.2.2.2.1,d.2.2.2.2.2.1.1,d.2.2.2.2.2.1.2,d.2.2.2.2.2.2.1,d.2.2.2.2.2.2.2.1,d.2.2.2.2.2.2.2.2.1,d.2.2.2.2.2.2.2.2.2,())=some (0,l++ [d],()):=by
 have:=IE l (by have:=qv h;show _<_;omega) hl' d.1 d.2.1.1 d.2.1.2.1 d.2.1.2.2 d.2.2.1 d.2.2.2.1 d.2.2.2.2.1 d.2.2.2.2.2.1.1 d.2.2.2.2.2.1.2 d.2.2.2.2.2.2.1 d.2.2.2.2.2.2.2.1 d.2.2.2.2.2.2.2.2.1 d.2.2.2.2.2.2.2.2.2 hd
 rw [this,qc h,show hY l _=some 0 from ha]
 rfl
theorem ou {l:List Dl.Def} (h:lD l) (hl':∀d∈l,Fit d) {d:Dl.Def} (hd:Fit d) {e:Int} (ha:hY l d=some e) (he:e≠0):bX.F (l,d.1,d.2.1.1,d.2.1.2.1,d.2.1.2.2,d.2.2.1,d.2.2.2.1,d.2.2.2.2.1,d.2.2.2.2.2.1.1,d.2.2.2.2.2.1.2,d.2.2.2.2.2.2.1,d.2.2.2.2.2.2.2.1,d.2.2.2.2.2.2.2.2.1,d.2.2.2.2.2.2.2.2.2,())=some (e,[],()):=by
 have:=IE l (by have:=qv h;show _<_;omega) hl' d.1 d.2.1.1 d.2.1.2.1 d.2.1.2.2 d.2.2.1 d.2.2.2.1 d.2.2.2.2.1 d.2.2.2.2.2.1.1 d.2.2.2.2.2.1.2 d.2.2.2.2.2.2.1 d.2.2.2.2.2.2.2.1 d.2.2.2.2.2.2.2.2.1 d.2.2.2.2.2.2.2.2.2 hd
 rw [this,qc h,show hY l _=some e from ha]
 simp [he]
theorem Gu {l:List Dl.Def} (h:lD l) (hl':∀d∈l,Fit d):cp.F (l,())=some (true,()):=by
 rw [CY l (by have:=qv h;show _<_;omega) hl',qc h];rfl
def zT:Dl.Def:=tbl (⟨#[116]⟩:ByteArray) e0
def zUX:Dl.Def:=tbl (⟨#[117]⟩:ByteArray) (⟨#[120]⟩:ByteArray)
def zUU:Dl.Def:=tbl (⟨#[117]⟩:ByteArray) (⟨#[117]⟩:ByteArray)
def zVT:Dl.Def:=vw1 (⟨#[118]⟩:ByteArray) (⟨#[116]⟩:ByteArray)
def zVX:Dl.Def:=vw1 (⟨#[118]⟩:ByteArray) (⟨#[120]⟩:ByteArray)
theorem zT_p:eT zT≠ []:=tX (by decide)
theorem zUX_p:eT zUX≠ []:=qw (t:=([116,97,98,108,101,32,117,32,40,32,107,32,105,110,116,32,44,32,97,32,105,110,116,32,110,117,108,108,32,114,101,102,32,120,32,114,101,115,116,114,105,99,116,32,41]:List UInt8)) (by kernel_rfl) (by decide) (by kernel_rfl) (by decide)
theorem zUU_p:eT zUU≠ []:=qw (t:=([116,97,98,108,101,32,117,32,40,32,107,32,105,110,116,32,44,32,97,32,105,110,116,32,110,117,108,108,32,114,101,102,32,117,32,114,101,115,116,114,105,99,116,32,41]:List UInt8)) (by kernel_rfl) (by decide) (by kernel_rfl) (by decide)
theorem Kr:eT zVT≠ []:=qw (t:=([118,105,101,119,32,118,32,102,114,111,109,32,116,32,112,105,99,107,32,49,32,103,114,111,117,112,32,115,117,109,32,48]:List UInt8)) (by kernel_rfl) (by decide) (by kernel_rfl) (by decide)
theorem zVX_p:eT zVX≠ []:=qw (t:=([118,105,101,119,32,118,32,102,114,111,109,32,120,32,112,105,99,107,32,49,32,103,114,111,117,112,32,115,117,109,32,48]:List UInt8)) (by kernel_rfl) (by decide) (by kernel_rfl) (by decide)
theorem zT_f:Fit zT:=vj (by decide) (by decide)
theorem Ks:Fit zVT:=IJ (by decide) (by decide)
theorem Fd:lD []:=fun i hi=>by simp at hi
theorem z_a1:hY [] zT=some 0:=ye zT_p (by decide) (by decide) rfl (by kernel_rfl)
theorem Gv:lD [zT]:=Fc Fd z_a1
theorem z_a2:hY [zT] zVT=some 0:=tY (b:=true) Kr (by decide) (by decide) (by decide) (by kernel_rfl)
theorem z_m2:lD [zT,zVT]:=Fc Gv z_a2
theorem IK:∀d∈ [zT],Fit d:=fun d hd=>by
 simp only [List.mem_cons,List.not_mem_nil,or_false] at hd
 subst hd;exact zT_f
theorem z_l2:∀d∈ [zT,zVT],Fit d:=fun d hd=>by
 simp only [List.mem_cons,List.not_mem_nil,or_false] at hd
 rcases hd with rfl|rfl
 ·exact zT_f
 ·exact Ks
theorem z_no:yq [zVT]=some false:=Gs fun h=>by
 have:=h 0 (by decide)
 have e:hY [] zVT=some 94:=tY (b:=false) Kr (by decide) (by decide) (by decide) (by kernel_rfl)
 rw [show hY (List.take 0 [zVT]) [zVT][0]=hY [] zVT from rfl,e] at this
 cases this
theorem J4:cX.F ()=some (true,()):=by
 rw [cX.eq]
 unfold cX.B
 have tab:∀n r,cN.F (n,r,())=some ((0:Int),n,([]:List (List ae)),(⟨#[]⟩:ByteArray),(⟨#[]⟩:ByteArray),(⟨#[]⟩:ByteArray),(0:Int),(0:Int),([]:List ae),([]:List Int),false,([]:List ct),(tbl n r).2.1.2.1,()):=fun n r=>by
  rw [cN.eq];rfl
 have vw:∀n r,dJ.F (n,r,())=some ((1:Int),(⟨#[]⟩:ByteArray),([]:List ba),([]:List (List ae)),n,r,(⟨#[]⟩:ByteArray),(0:Int),(0:Int),([]:List ae),true,[(1:Int)],[((1:Int),(0:Int))],()):=fun n r=>by
  rw [dJ.eq];rfl
 refine (cv _ (tab _ _)).trans ?_
 refine (cv _ (Bf Fd (by simp) zT_f z_a1)).trans ?_
 refine (cv _ (vw _ _)).trans ?_
 refine (cv _ (Bf Gv IK Ks z_a2)).trans ?_
 have hk:bL.F ([zT,zVT],(⟨#[118]⟩:ByteArray),())=some (true,[2,2],[true,true],()):=by
  rw [vi _ (by decide) z_l2,if_neg (by decide),qc z_m2]
  kernel_rfl
 refine (cv _ hk).trans ?_
 refine (cv _ (tab _ _)).trans ?_
 refine (cv _ (ou Gv IK zT_f (yf zT_p (by decide) (by decide)) (by decide))).trans ?_
 refine (cv _ (tab _ _)).trans ?_
 refine (cv _ (ou Gv IK (d:=zUX) (vj (by decide) (by decide)) (ye (e:=92) zUX_p (by decide) (by decide) rfl (by kernel_rfl)) (by decide))).trans ?_
 refine (cv _ (vw _ _)).trans ?_
 refine (cv _ (ou Gv IK (d:=zVX) (IJ (by decide) (by decide)) (tY (b:=false) zVX_p (by decide) (by decide) (by decide) (by kernel_rfl)) (by decide))).trans ?_
 refine (cv _ (tab _ _)).trans ?_
 refine (cv _ (Bf Gv IK (d:=zUU) (vj (by decide) (by decide)) (ye (e:=0) zUU_p (by decide) (by decide) rfl (by kernel_rfl)))).trans ?_
 refine (cv (true,()) (ES [2,2] [2,2] (by decide))).trans ?_
 refine (cv (true,()) (JY [true,true] [true,true] (by decide))).trans ?_
 refine (cv _ (qa [zT,zVT] (⟨#[118]⟩:ByteArray) (by decide))).trans ?_
 refine (cv _ (Gu z_m2 z_l2)).trans ?_
 refine (cv (false,()) ?_).trans rfl
 refine (CY [zVT] (by decide) (fun d hd=>z_l2 d (by simp at hd;simp [hd]))).trans ?_
 rw [z_no];rfl
end Go.Proofs.Ytleadolkcmagfaa
end
section
set_option maxRecDepth 100000
namespace Go.Proofs.Ytleadolkcmagfaa
open Go Lv Go.Proofs Go.RowKit Go.Shelf Dl
theorem bindE {α:Type} {x:Option α} {K:α→Option (Bool×Unit)} {P:Bool→Prop} {Q:α→Prop} (h:∃r,x=some r∧Q r) (h':∀r,Q r→∃b,K r=some (b,())∧P b):∃b,Option.bind x K=some (b,())∧P b:=by
 obtain ⟨r,h1,h2⟩:=h
 rw [h1];exact h' r h2
theorem K8 {α:Type} {x:Option α} {K:α→Option (Bool×Unit)} {Q:α→Prop} (h:∃r,x=some r∧Q r) (h':∀r,Q r→∃b,K r=some (b,())):∃b,Option.bind x K=some (b,()):=by
 obtain ⟨r,h1,h2⟩:=h
 rw [h1];exact h' r h2
theorem K9 (l : List Dl.Def) (hl : Ln l) (hD : ∀ d ∈ l,DLn d) (hF : ∀ d ∈ l,Sm d → Fit d) : ∃ b,eg.F (l,()) = some (b,()) ∧ (b = false → ∀ d ∈ l,Sm d) := by
  rw [eg.eq]
  unfold eg.B
  have hl0:l.length<1000000000000000:=hl
  refine bindE (Q:=fun (r:(Int×Unit)⊕(Bool×Unit))=>r=.inr (true,())∨((∃n,r=.inl (n,()))∧∀d∈l,Sm d)) (rx (fun x=>l.length-x.2.1.toNat) (fun x=>∃(i:Nat) (n:Int),x=(n,(i:Int),())∧i≤l.length∧∀(j:Nat) (hj:j<l.length),j<i→Sm l[j]) (fun _ (r:(Int×Unit)⊕(Bool×Unit))=>r=.inr (true,())∨((∃n,r=.inl (n,()))∧∀d∈l,Sm d)) ?_ _ ⟨0,0,rfl,by omega,fun j hj h=>by omega⟩) ?_
  · rintro _ ⟨i,n,rfl,hi,hsm⟩
    by_cases hlt:i<l.length
    · have d1:decide ((i:Int)<(l.length:Int))=true:=by simp;omega
      have d0:decide (0≤(i:Int))=true:=by simp
      have gi:l.getD i fq.z=l[i]:=bV hlt _
      have hm:l[i]∈l:=List.getElem_mem hlt
      obtain ⟨b,hb1,hb2⟩:=big_s l[i].1 l[i].2.1.1 l[i].2.1.2.1 l[i].2.1.2.2 l[i].2.2.1 l[i].2.2.2.1 l[i].2.2.2.2.1 l[i].2.2.2.2.2.1.1 l[i].2.2.2.2.2.1.2 l[i].2.2.2.2.2.2.1 l[i].2.2.2.2.2.2.2.1 l[i].2.2.2.2.2.2.2.2.1 l[i].2.2.2.2.2.2.2.2.2 (hD _ hm)
      simp only [d1,d0,Bool.and_self,cond_true,Int.toNat_natCast,gi,hb1,Option.bind_some]
      cases b with
      |true=>exact .inr ⟨_,rfl,.inl rfl⟩
      |false=>
        have hS:Sm l[i]:=hb2 rfl
        have hP:=Iw l[i].1 l[i].2.1.1 l[i].2.1.2.1 l[i].2.1.2.2 l[i].2.2.1 l[i].2.2.2.1 l[i].2.2.2.2.1 l[i].2.2.2.2.2.1.1 l[i].2.2.2.2.2.1.2 l[i].2.2.2.2.2.2.1 l[i].2.2.2.2.2.2.2.1 l[i].2.2.2.2.2.2.2.2.1 l[i].2.2.2.2.2.2.2.2.2 (hF _ hm hS) hS
        simp only [cond_false,hP,Option.bind_some]
        generalize decide (_>(2000:Int))=q
        cases q with
        |true=>exact .inr ⟨_,rfl,.inl rfl⟩
        |false=>
          refine .inl ⟨_,rfl,⟨i+1,_,by rw [cz hlt (by omega)],by omega,fun j hj h=>?_⟩,by show l.length-Int.toNat (IntKind.i64.wrap _)<_;rw [cz hlt (by omega),Int.toNat_natCast];omega,fun _ h=>h⟩
          by_cases hji:j<i
          · exact hsm j hj hji
          · have:j=i:=by omega
            subst this;exact hS
    · have d1:decide ((i:Int)<(l.length:Int))=false:=by simp;omega
      refine .inr ⟨.inl (n,()),?_,.inr ⟨⟨n,rfl⟩,fun d hd=>?_⟩⟩
      · simp only [d1,cond_false]
      · obtain ⟨j,hj,rfl⟩:=List.getElem_of_mem hd
        exact hsm j hj (by omega)
  · rintro r (rfl|⟨⟨n,rfl⟩,hS⟩)
    · exact ⟨true,rfl,fun h=>by cases h⟩
    · have hj:∃b,Option.bind (bF (S:=Int×Int×Unit) (fun (x5,x6,_)=>
          (bif (decide (x6<(l.length:Int))) then
          bif (decide (0≤x6)&&decide (x6<(l.length:Int))) then
          let e12:dW:=(List.getD l (Int.toNat x6) fq.z)
          (bif (!(e12.2.2.2.2.1.toList==(⟨#[]⟩:ByteArray).toList)) then
          let e13:Int:=(IntKind.i64.wrap (x5+(1:Int)))
          let e14:Int:=(IntKind.i64.wrap (x6+(1:Int)))
          some (.inl (e13,e14,()))
          else
          let e15:Int:=(IntKind.i64.wrap (x6+(1:Int)))
          some (.inl (x5,e15,())))
          else none
          else
          some (.inr (.inl (x5,()))))) ((0:Int),(0:Int),()):Option ((Int×Unit)⊕(Bool×Unit))) (fun r16=>match r16 with
          | .inl (x5_16,_)=>
          ((bif (decide ((l.length:Int)>(22:Int))) then
          some (true,())
          else
          (bif (decide (n>(200:Int))) then
          some (true,())
          else
          some ((decide (x5_16>(6:Int))),()))))
          | .inr r=>some r)=some (b,()):=by
        refine K8 (Q:=fun (r:(Int×Unit)⊕(Bool×Unit))=>∃m,r=.inl (m,())) (rx (fun x=>l.length-x.2.1.toNat) (fun x=>∃(i:Nat) (n:Int),x=(n,(i:Int),())∧i≤l.length) (fun _ (r:(Int×Unit)⊕(Bool×Unit))=>∃m,r=.inl (m,())) ?_ _ ⟨0,0,rfl,by omega⟩) ?_
        · rintro _ ⟨i,n,rfl,hi⟩
          by_cases hlt:i<l.length
          · have d1:decide ((i:Int)<(l.length:Int))=true:=by simp;omega
            have d0:decide (0≤(i:Int))=true:=by simp
            simp only [d1,d0,Bool.and_self,cond_true,cz hlt (show l.length<9223372036854775808 by omega)]
            generalize (!((List.getD l (Int.toNat (i:Int)) fq.z).2.2.2.2.1.toList==(⟨#[]⟩:ByteArray).toList))=q
            cases q
            · exact .inl ⟨_,rfl,⟨i+1,_,rfl,by omega⟩,by show l.length-Int.toNat _<l.length-Int.toNat _;rw [Int.toNat_natCast,Int.toNat_natCast];omega,fun _ h=>h⟩
            · exact .inl ⟨_,rfl,⟨i+1,_,rfl,by omega⟩,by show l.length-Int.toNat _<l.length-Int.toNat _;rw [Int.toNat_natCast,Int.toNat_natCast];omega,fun _ h=>h⟩
          · have d1:decide ((i:Int)<(l.length:Int))=false:=by simp;omega
            refine .inr ⟨.inl (n,()),?_,n,rfl⟩
            simp only [d1,cond_false]
        · rintro r ⟨m,rfl⟩
          simp only []
          cases decide ((l.length:Int)>22)
          · cases decide (n>200)<;>exact ⟨_,rfl⟩
          · exact ⟨_,rfl⟩
      obtain ⟨b,hb⟩:=hj
      exact ⟨b,hb,fun _=>hS⟩
structure Kt (l:List Dl.Def):Prop where
 ln:Ln l
 dln:∀d∈l,DLn d
 fit:∀d∈l,Sm d→Fit d
theorem La {l:List Dl.Def} (h:In PP (.sl 38 fq) l):Kt l:=by
 obtain ⟨h1,h2⟩:=h
 exact ⟨rK (b:=216) (by kernel_rfl) (by decide) h1,fun d hd=>in_ln (h2 d hd),fun d hd=>KV (h2 d hd)⟩
end Go.Proofs.Ytleadolkcmagfaa
end
section
set_option maxRecDepth 100000
namespace Go.Proofs.Ytleadolkcmagfaa
open Go Lv Go.Proofs Go.RowKit Go.Shelf Dl
theorem An {p:List Dl.Def} {d:Dl.Def} (h:hY p d=some 0):eT d≠ []:=by
 unfold hY at h
 by_cases q1:eT d=[]
 ·rw [if_pos q1] at h;cases h
 ·exact q1
theorem J5 {d:Dl.Def} (h:lr d):isName (nameP d)=true:=by
 cases h with
 |tab h=>exact h.name
 |view h=>exact h.name
theorem Gw (l : List Dl.Def) (C : Kt l) (p : Int) (nm : ByteArray) : bJ.F (l,p,nm,()) = some (true,()) := by
  rw [bJ.eq]
  unfold bJ.B
  obtain ⟨b,hb,hs⟩:=K9 l C.ln C.dln C.fit
  simp only [J4,hb,Option.bind_some,Bool.not_true,cond_false]
  cases b with
  |true=>rfl
  |false=>
  have hf:∀d∈l,Fit d:=fun d hd=>C.fit d hd (hs rfl d hd)
  simp only [cond_false,CY l C.ln hf]
  rcases tW l with ⟨hm,M⟩|⟨hm,_⟩
  · simp only [hm,Option.map_some,Option.bind_some,Bool.not_true,cond_false]
    by_cases h0:p<0
    · have:decide (p<0)=true:=by simpa using h0
      simp only [this,cond_true,Option.bind_some]
    have h0':decide (p<0)=false:=by simpa using h0
    by_cases h1:p≥(l.length:Int)
    · have:decide (p≥(l.length:Int))=true:=by simpa using h1
      simp only [this,h0',cond_false,cond_true,Option.bind_some]
    have h1':decide (p≥(l.length:Int))=false:=by simpa using h1
    obtain ⟨i,rfl⟩:∃n:Nat,p=n:=⟨p.toNat,by omega⟩
    have hi:i<l.length:=by omega
    have d2:(decide (0≤(i:Int))&&decide ((i:Int)<(l.length:Int)))=true:=by simp;omega
    have gi:l.getD i fq.z=l[i]:=bV hi _
    have D:=Ej M _ (List.getElem_mem hi)
    have hn:=J5 D
    have hfi:=J2 M hi
    have hF:=hf _ (List.getElem_mem hi)
    have hT:Fit (tbl (nameP l[i]) e0):=vj (by have:=Ac hn;omega) (by decide)
    have tab:∀n r,cN.F (n,r,())=some ((0:Int),n,([]:List (List ae)),(⟨#[]⟩:ByteArray),(⟨#[]⟩:ByteArray),(⟨#[]⟩:ByteArray),(0:Int),(0:Int),([]:List ae),([]:List Int),false,([]:List ct),(tbl n r).2.1.2.1,()):=fun n r=>by
      rw [cN.eq];rfl
    simp only [h0',h1',cond_false,Option.bind_some]
    rw [d2]
    simp only [cond_true,Int.toNat_natCast,gi]
    by_cases h20:20≤l.length
    · have e20:decide ((l.length:Int)≥20)=true:=by simp;omega
      refine (cv _ (ou M hf hF (Am (An (M i hi)) h20) (by decide))).trans ?_
      refine (cv _ (E6 l[i].1 l[i].2.1.1 l[i].2.1.2.1 l[i].2.1.2.2 l[i].2.2.1 l[i].2.2.2.1 l[i].2.2.2.2.1 l[i].2.2.2.2.2.1.1 l[i].2.2.2.2.2.1.2 l[i].2.2.2.2.2.2.1 l[i].2.2.2.2.2.2.2.1 l[i].2.2.2.2.2.2.2.2.1 l[i].2.2.2.2.2.2.2.2.2)).trans ?_
      refine (cv _ (tab _ _)).trans ?_
      refine (cv _ (ou M hf hT (Am (tX hn) h20) (by decide))).trans ?_
      have hk:∃y,bL.F (l,nm,())=some y:=by
        by_cases q:ez l nm<0
        · exact ⟨_,by rw [vi l C.ln hf,if_pos q]⟩
        · obtain ⟨_,_,_,_,_,_,h⟩:=C0 M hf (nm:=nm) (by omega);exact ⟨_,h⟩
      obtain ⟨y,hy⟩:=hk
      refine (cv _ hy).trans ?_
      rw [e20];rfl
    · have e20:decide ((l.length:Int)≥20)=false:=by simp;omega
      refine (cv _ (ou M hf hF (yf (An (M i hi)) (by omega) (by omega)) (by decide))).trans ?_
      refine (cv _ (E6 l[i].1 l[i].2.1.1 l[i].2.1.2.1 l[i].2.1.2.2 l[i].2.2.1 l[i].2.2.2.1 l[i].2.2.2.2.1 l[i].2.2.2.2.2.1.1 l[i].2.2.2.2.2.1.2 l[i].2.2.2.2.2.2.1 l[i].2.2.2.2.2.2.2.1 l[i].2.2.2.2.2.2.2.2.1 l[i].2.2.2.2.2.2.2.2.2)).trans ?_
      refine (cv _ (tab _ _)).trans ?_
      refine (cv _ (ou M hf hT (yf (tX hn) (by omega) (by rw [show nameP (tbl (nameP l[i]) e0)=nameP l[i] from rfl];omega)) (by decide))).trans ?_
      by_cases q:ez l nm<0
      · refine (cv (false,[],[],()) (by rw [vi l C.ln hf,if_pos q])).trans ?_
        have q':decide (ez l nm≥0)=false:=by simp;omega
        rw [e20]
        refine (cv _ (qa l nm C.ln)).trans ?_
        simp only [q'];rfl
      · obtain ⟨_,_,r,_,_,R,h⟩:=C0 M hf (nm:=nm) (by omega)
        refine (cv _ h).trans ?_
        have q':decide (ez l nm≥0)=true:=by simp;omega
        rw [e20]
        refine (cv _ (qa l nm C.ln)).trans ?_
        simp only [q'];rfl
  · simp only [hm,Option.map_some,Option.bind_some,Bool.not_false,cond_true]
end Go.Proofs.Ytleadolkcmagfaa
end
section
set_option maxRecDepth 100000
namespace Go.Proofs.Ytleadolkcmagfaa
open Go Lv Go.Proofs Go.RowKit Go.Shelf Dl
theorem pure5 (x:yk [(.sl 38 fq,false),(.int .i64,false),(.str,false)]) (h:EE PP _ x):bJ.F (xh 0 _ x)=some (true,()):=Gw x.1 (La h.1) x.2.1 x.2.2.1
end Go.Proofs.Ytleadolkcmagfaa
end
section
set_option maxRecDepth 100000
namespace Go.Proofs.YtleadolkcmagfaaGreatDoor
open Go Lv Go.Proofs Go.RowKit Go.ChangeShapes Go.WideShapes Go.ChangeAt Go.Proofs.Ytleadolkcmagfaa
noncomputable abbrev Ao : List (String × DataW Unit) := [("math/bits.deBruijn32tab", Rows.laid_math_bits_deBruijn32tab), ("math/bits.deBruijn64tab", Rows.laid_math_bits_deBruijn64tab), ("internal/strconv.uint64pow10", Rows.laid_internal_strconv_uint64pow10), ("unicode/utf8.acceptRanges", Rows.laid_unicode_utf8_acceptRanges), ("strconv.ErrRange", Rows.laid_strconv_ErrRange), ("strconv.ErrSyntax", Rows.laid_strconv_ErrSyntax), ("unicode/utf8.first", Rows.laid_unicode_utf8_first)]
theorem J6:(Rows.laid_internal_strconv_uint64pow10:DataW Unit)=Lib.tabData .u64 Lib.pow10Tab:=by kernel_rfl
theorem gMax : Tryz.prog.globalNamed "internal/bytealg.MaxLen" = some 0 := by kernel_rfl
theorem gPow : Tryz.prog.globalNamed "internal/strconv.uint64pow10" = some 1 := by kernel_rfl
theorem gSyn : Tryz.prog.globalNamed "strconv.ErrSyntax" = some 4 := by kernel_rfl
theorem gRan : Tryz.prog.globalNamed "strconv.ErrRange" = some 5 := by kernel_rfl
theorem tPow:(Tryz.prog.globals[1]?).map (·.type)=some 218:=by kernel_rfl
theorem tSyn:(Tryz.prog.globals[4]?).map (·.type)=some 155:=by kernel_rfl
theorem tRan:(Tryz.prog.globals[5]?).map (·.type)=some 155:=by kernel_rfl
theorem Bg {P:Program} {W:World} {n:String} {g:Nat} {cs:Array Value} (hg:P.globalNamed n=some g) (h:W.var? P n=some cs):g<W.heap.size:=by
 simp only [World.var?,hg,Option.bind_some] at h
 split at h
 ·rename_i he;exact (Array.getElem?_eq_some_iff.1 he).1
 ·cases h
theorem IL {P:Program} {W:World} {n:String} {g:Nat} {v:Value} (hg:P.globalNamed n=some g) (h:W.cell? ⟨g,0,none⟩=some v):∃cs,W.var? P n=some cs∧cs[0]?=some v:=by
 simp only [World.var?,hg,Option.bind_some]
 unfold World.cell? at h
 split at h
 ·rename_i he
  rw [he]
  exact ⟨_,rfl,by simpa using h⟩
 ·cases h
noncomputable def fS:Field:=match Tryz.prog.underlying 249 with|some (.struct fs)=>fs.getD 0 default|_=>default
theorem star : "*" ++ "errors.errorString" = "*errors.errorString" := by decide
theorem IM (u : TypeId) (h : Tryz.prog.typeName? 3 u = some "*errors.errorString") : u = 247 :=
 typeName_ptr_named (nm := "errors.errorString") (by rw [star]; kernel_rfl) (by kernel_rfl) (by decide) u (by rw [star]; exact h)
theorem Lb {W:World} (hsh:W.ShapedOpen Tryz.prog) (h0:laidMetH Tryz.prog Ao W):Glb (· <W.heap.size) W:=by
 have h:laidMet Tryz.prog Ao W:=by rw [MakeChecks.laidMetH_plain _ _ _ (by kernel_rfl)] at h0;exact h0
 have h1:=h.tail.tail
 have hpow : Lib.TabIs Tryz.prog W "internal/strconv.uint64pow10" .u64 Lib.pow10Tab := by
  rw [J6] at h1
  exact Lib.tabIs_of_head (n:=20) (e:=108) gPow tPow (by kernel_rfl) (by kernel_rfl) (by kernel_rfl) (by kernel_rfl) h1
 have h2:=h1.tail.tail
 obtain ⟨a, s, hr, _⟩ := laid_sentinel (ti := 155) (tp := 247) (te := 249) (ts := 9) (ms := #[⟨"Error", 119⟩]) (f := fS) h2 gRan tRan (by kernel_rfl) IM (by kernel_rfl) (by kernel_rfl) rfl rfl (by kernel_rfl) (by kernel_rfl) (by kernel_rfl)
 obtain ⟨a', s', hs, _⟩ := laid_sentinel (ti := 155) (tp := 247) (te := 249) (ts := 9) (ms := #[⟨"Error", 119⟩]) (f := fS) h2.tail gSyn tSyn (by kernel_rfl) IM (by kernel_rfl) (by kernel_rfl) rfl rfl (by kernel_rfl) (by kernel_rfl) (by kernel_rfl)
 obtain ⟨m,hm⟩:=cell_of_shapedOpen_int (g:=0) (t:=3) (zero:=#[.int .i64 0]) (k:=.i64) hsh (of_decide_eq_true (by kernel_rfl)) (by kernel_rfl) rfl (by kernel_rfl) (by kernel_rfl) (by kernel_rfl)
 have hm:W.cell? ⟨0,0,none⟩=some (.int .i64 m):=hm
 obtain ⟨cs,hc,hc0⟩:=IL gMax hm
 have hpow' : W.var? Tryz.prog "internal/strconv.uint64pow10" = some (Lib.pow10Tab.map fun z => Value.int .u64 z).toArray := hpow
 have hall:∀v∈jl,zQ Tryz.prog W v:=by
  intro v hv
  simp only [jl,List.mem_cons,List.not_mem_nil,or_false] at hv
  rcases hv with rfl|rfl|rfl|rfl
  ·exact ⟨gMax,cs,hc,m,hc0⟩
  ·exact ⟨gPow,_,hpow',rfl⟩
  ·exact ⟨gSyn,_,hs,_,_,rfl⟩
  ·exact ⟨gRan,_,hr,_,_,rfl⟩
 refine ⟨fun b hb=>?_,hall⟩
 have hb:b∈ [0,1,4,5]:=hb
 simp only [List.mem_cons,List.not_mem_nil,or_false] at hb
 rcases hb with rfl|rfl|rfl|rfl
 ·exact Bg gMax hc
 ·exact Bg gPow hpow'
 ·exact Bg gSyn hs
 ·exact Bg gRan hr
end Go.Proofs.YtleadolkcmagfaaGreatDoor
end
