import Derived.Test.YtleadolkcmagfaaGreatDoorM5
import Derived.Test.YtleadolkcmagfaaGreatDoorDC
import Derived.KernelRfl
import Derived.Test.YtleadolkcmagfaaGreatDoorM3
import Derived.Lay
import Derived.SevenTiedAt
import Derived.Stop.LaidErr
import Derived.Lib.LaidTab
import Derived.Test.YtleadolkcmagfaaGreatDoorCards
import Derived.Test.YtleadolkcmagfaaGreatDoorTie
import Derived.Test.YtleadolkcmagfaaGreatDoorChecked
set_option linter.all false
set_option linter.unusedVariables false
set_option linter.unusedSimpArgs false
set_option linter.unusedSectionVars false
section
set_option maxRecDepth 100000
namespace Go.Proofs.Ytleadolkcmagfaa
open Go Lv Go.Proofs Go.RowKit Go.Shelf Dl
def nameP (d:Dl.Def):ByteArray:=if d.1=0 then d.2.1.1 else d.2.2.1
theorem EY (k:Int) (tn:ByteArray) (c:List Col) (ck:List (List ae)) (vn vf vw:ByteArray) (o1 o2:Int) (wh:List ae) (pk:List Int) (gr:Bool) (ag:List Agg):cm.F (k,tn,c,ck,vn,vf,vw,o1,o2,wh,pk,gr,ag,())=some (nameP (k,((tn,(c,ck)),(vn,(vf,(vw,((o1,o2),(wh,(pk,(gr,ag))))))))),()):=by
 rw [cm.eq];unfold cm.B;by_cases h:k=0<;>simp [nameP,b_eq,h]
theorem JW (k:Int) (tn:ByteArray) (c:List Col) (ck:List (List ae)) (vn vf vw:ByteArray) (o1 o2:Int) (wh:List ae) (pk:List Int) (gr:Bool) (ag:List Agg):dH.F (k,tn,c,ck,vn,vf,vw,o1,o2,wh,pk,gr,ag,())=some (nameP (k,((tn,(c,ck)),(vn,(vf,(vw,((o1,o2),(wh,(pk,(gr,ag))))))))),()):=by
 rw [dH.eq];unfold dH.B;by_cases h:k=0<;>simp [nameP,b_eq,h]
def lv (nm:ByteArray):List Dl.Def→Nat→Int
 | [],_=>-1
 |d::r,i=>if nameP d=nm then i else lv nm r (i+1)
def eE (l:List Dl.Def) (nm:ByteArray):Int:=lv nm l 0
theorem tQ (l:List Dl.Def) (nm:ByteArray) (hl:Ln l):bm.F (l,nm,())=some (eE l nm,()):=by
 rw [bm.eq]
 unfold bm.B
 have hf:∀(l:List Dl.Def) (i:Nat),iP (fun (d:Dl.Def) (i:Nat)=>if nameP d=nm then (.inr ((i:Int),()):Nat⊕(Int×Unit)) else .inl (i+1)) (fun _=>((-1:Int),())) l i=(lv nm l i,()):=by
  intro l
  induction l with
  |nil=>intro i;rfl
  |cons d r ih=>
   intro i
   simp only [iP,lv]
   by_cases h:nameP d=nm
   ·rw [if_pos h,if_pos h]
   ·rw [if_neg h,if_neg h];exact ih _
 refine (AI (fun i (_:Nat)=>(i,())) l (fun i st=>st=i) (fun (d:Dl.Def) (i:Nat)=>if nameP d=nm then (.inr ((i:Int),()):Nat⊕(Int×Unit)) else .inl (i+1)) (fun _=>((-1:Int),())) ?_ ?_ 0 rfl).trans (congrArg some (hf l 0))
 ·intro i hi st hst
  rw [hst]
  have d1:decide ((i:Int)<(l.length:Int))=true:=by simp;omega
  have d0:decide (0≤(i:Int))=true:=by simp
  simp only [d1,d0,Bool.and_self,cond_true,Int.toNat_natCast,bU hi,cw hi (show l.length<9223372036854775808 by have:l.length<1000000000000000:=hl;omega),EY,Option.bind_some,dY]
  rw [show nameP (l[i].1,((l[i].2.1.1,(l[i].2.1.2.1,l[i].2.1.2.2)),(l[i].2.2.1,(l[i].2.2.2.1,(l[i].2.2.2.2.1,((l[i].2.2.2.2.2.1.1,l[i].2.2.2.2.2.1.2),(l[i].2.2.2.2.2.2.1,(l[i].2.2.2.2.2.2.2.1,(l[i].2.2.2.2.2.2.2.2.1,l[i].2.2.2.2.2.2.2.2.2)))))))))=nameP l[i] from rfl]
  by_cases h:nameP l[i]=nm
  ·simp [h]
  ·simp [h]
 ·intro st hst
  have d1:decide ((l.length:Int)<(l.length:Int))=false:=by simp
  simp only [d1,cond_false]
theorem JX (a b:List Bool) (ha:Ln a):da.F (a,b,())=some (decide (a=b),()):=by
 rw [da.eq]
 unfold da.B
 simp only [mL]
 by_cases hl:a.length=b.length
 ·simp only [hl,decide_true,Bool.not_true,cond_false]
  rw [jq a b hl (by have:a.length<1000000000000000:=ha;omega) (true,()) (false,()) ?_ ?_,kG]
  ·intro i hi
   have d1:decide ((i:Int)<(b.length:Int))=true:=by simp;omega
   have d0:decide (0≤(i:Int))=true:=by simp
   simp only [d1,d0,Bool.and_self,cond_true,Int.toNat_natCast,bU hi,bU (show i<b.length by omega),cw hi (show a.length<9223372036854775808 by have:a.length<1000000000000000:=ha;omega)]
   have hb:(a[i]==b[i]'(by omega))=decide (a[i]=b[i]'(by omega)):=by cases a[i]<;>cases (b[i]'(by omega))<;>rfl
   rw [hb]
   by_cases he:a[i]=b[i]'(by omega)
   ·rw [if_pos he,decide_eq_true he];rfl
   ·rw [if_neg he,decide_eq_false he];rfl
  ·have d1:decide ((a.length:Int)<(b.length:Int))=false:=by simp;omega
   simp only [d1,cond_false]
 ·simp only [hl,decide_false,Bool.not_false,cond_true,ol hl]
instance instDef:DecidableEq Dl.Def:=fun a b=>decidable_of_iff (oQ a b=true) (nH a b)
noncomputable def KY:Bool:=(List.range 1001).all fun n=>decide (bB.B (1,(n:Int),())=some (0,(n:Int),()))
theorem Gb:KY=true:=by kernel_rfl
theorem mul_s (n:Nat) (h:n≤1000):bP.F (1,(n:Int),())=some (0,(n:Int),()):=by
 rw [bP.eq]
 unfold bP.B
 rw [bB.eq]
 have:=List.all_eq_true.1 Gb n (List.mem_range.2 (by omega))
 simp only [decide_eq_true_eq] at this
 simp only [this,Option.bind_some]
theorem Gc {n:Int} (h0:0≤n) (h:n≤1000000):IntKind.u64.wrap n=n:=by rw [IntKind.wrap_u64];omega
theorem It (n : Nat) (h : n ≤ 1000) : ar.F ([true],(n : Int),()) = some (List.replicate n true,()) := by
  rw [ar.eq]
  unfold ar.B
  have d0:decide ((n:Int)<0)=false:=by simp
  have w1:IntKind.u64.wrap ((([true]:List Bool).length:Int))=1:=by decide
  have d1:decide ((0:Int)>0)=false:=by decide
  have d2:decide ((n:Int)>9223372036854775807)=false:=by simp;omega
  have w2:IntKind.i64.wrap (n:Int)=n:=dl (by omega) (by omega)
  have d3:(decide (0≤(n:Int))&&(decide True&&Nat.ble n 140737488355328))=true:=by simp;omega
  simp only [d0,cond_false,Option.bind_some,w1,Gc (show (0:Int)≤n by omega) (show (n:Int)≤1000000 by omega),mul_s n h,d1,d2,w2,Int.toNat_natCast,d3,cond_true]
  refine fb (m:=fun (s:Int×List Bool×Unit)=>n-s.1.toNat) (I:=fun (s:Int×List Bool×Unit)=>s.2.1.length=n∧∃x:Nat,s.1=(x:Int)∧x≤n∧(1≤x∨n=0)∧s.2.1.take x=List.replicate x true) (f:=fun _=>(List.replicate n true,())) ?_ _ ?_
  · rintro ⟨x,l,⟨⟩⟩ ⟨hl,k,hx,hk,h1,ht⟩
    simp only at hl hx ht
    subst hx
    by_cases hlt:k<n
    · have e1:decide ((k:Int)<(l.length:Int))=true:=by simp;omega
      have e2:(decide (0≤(k:Int))&&(decide ((k:Int)≤(l.length:Int))&&decide ((l.length:Int)≤(l.length:Int))))=true:=by simp;omega
      have e3:(decide (0≤(0:Int))&&(decide ((0:Int)≤(k:Int))&&decide ((k:Int)≤(l.length:Int))))=true:=by simp;omega
      have hm0:Nat.min k (n-k)=min k (n-k):=rfl
      refine .inl ⟨(((k+Nat.min k (n-k):Nat):Int),(List.replicate k true++List.take (Nat.min k (n-k)) (List.replicate k true)++List.drop (k+Nat.min k (n-k)) l),()),?_,⟨?_,k+Nat.min k (n-k),rfl,by omega,by omega,?_⟩,by show n-Int.toNat _<n-Int.toNat _;rw [Int.toNat_natCast,Int.toNat_natCast];omega,rfl⟩
      · simp only [e1,cond_true]
        rw [e2,cond_true,e3,cond_true]
        simp only [Int.toNat_natCast,Int.toNat_zero,List.drop_zero,Nat.sub_zero,ht,List.length_replicate,hl]
        have w:IntKind.i64.wrap ((k:Int)+((Nat.min k (n-k):Nat):Int))=((k+Nat.min k (n-k):Nat):Int):=by rw [dl]<;>omega
        rw [w]
      · simp;omega
      · have t1:(List.replicate k true).take (Nat.min k (n-k))=List.replicate (Nat.min k (n-k)) true:=by rw [List.take_replicate];congr 1;omega
        rw [t1,List.replicate_append_replicate,List.take_left' (by simp)]
    · refine .inr ?_
      have e1:decide ((k:Int)<(l.length:Int))=false:=by simp;omega
      have hkn:k=n:=by omega
      rw [List.take_of_length_le (by omega),hkn] at ht
      simp only [e1,cond_false]
      rw [ht]
  · cases n with
    |zero=>exact ⟨rfl,0,rfl,by omega,.inr rfl,rfl⟩
    |succ n=>
      have hm:Nat.min ([true]:List Bool).length (List.replicate (n+1) false).length=1:=by
        show min _ _=_
        simp
      simp only [hm]
      exact ⟨by simp,1,rfl,by omega,.inl (by omega),by simp⟩
theorem Gd {R:Type} (p:Bool→Option R) (r:Option R) (h1:p true=r) (h0:p false=r):tf p=r:=by
 unfold tf;rw [h1,h0,if_pos rfl]
theorem nL {α:Type} (l:List α) (n:Nat) (hl:Ln l) (hn:1000000000000000≤n*1000000) (hn2:1000000000≤n) (hs:l.length≤1000000):
 (bif l.isEmpty then tf (fun b1=>(bif b1 then some ([],()) else bif (Nat.ble (([]:List α).length+l.length) n) then some ((([]:List α)++l),()) else none)) else bif (Nat.ble (([]:List α).length+l.length) n) then some ((([]:List α)++l),()) else none)=some (l,()):=by
 have hb:Nat.ble (([]:List α).length+l.length) n=true:=Nat.ble_eq_true_of_le (by simp;omega)
 rw [hb]
 cases l with
 |nil=>
  rw [show ([]:List α).isEmpty=true from rfl,cond_true]
  apply Gd<;>rfl
 |cons a r=>rfl
theorem DZ (l:List Col) (h:l.length≤1000):ac.F (l,())=some (l,()):=by
 rw [ac.eq];exact nL l _ (by show _<_;omega) (by decide) (by decide) (by omega)
theorem A4 (l:List (List ae)) (h:l.length≤1000):ai.F (l,())=some (l,()):=by
 rw [ai.eq];exact nL l _ (by show _<_;omega) (by decide) (by decide) (by omega)
theorem uS (l:List ae) (h:l.length≤1000):ak.F (l,())=some (l,()):=by
 rw [ak.eq];exact nL l _ (by show _<_;omega) (by decide) (by decide) (by omega)
theorem D4 (l:List Int) (h:l.length≤1000):aE.F (l,())=some (l,()):=by
 rw [aE.eq];exact nL l _ (by show _<_;omega) (by decide) (by decide) (by omega)
theorem D5 (l:List Agg) (h:l.length≤1000):al.F (l,())=some (l,()):=by
 rw [al.eq];exact nL l _ (by show _<_;omega) (by decide) (by decide) (by omega)
theorem CQ (k : Int) (tn : ByteArray) (c : List Col) (ck : List (List ae)) (vn vf vw : ByteArray) (o1 o2 : Int) (wh : List ae) (pk : List Int) (gr : Bool) (ag : List Agg) (h : Fit (k,((tn,(c,ck)),(vn,(vf,(vw,((o1,o2),(wh,(pk,(gr,ag)))))))))) : bJ.F (k,tn,c,ck,vn,vf,vw,o1,o2,wh,pk,gr,ag,()) = some (k,tn,vn,vf,vw,o1,o2,gr,c,ck,wh,pk,ag,()) := by
  rw [bJ.eq]
  unfold bJ.B
  have h1:c.length≤400:=h.cols
  have h2:ck.length≤400:=h.checks
  have h3:wh.length≤120:=h.whr.1
  have h4:pk.length≤400:=h.pick
  have h5:ag.length≤400:=h.aggs
  have h6:∀e∈ck,e.length≤120:=fun e he=>(h.each e he).1
  simp only [DZ c (by omega),A4 ck (by omega),Option.bind_some]
  have hl:=fb (body:=fun ((x21:Int),(o1_0_0:Int),(o1_0_1:ByteArray),(o1_0_4:ByteArray),(o1_0_5:ByteArray),(o1_0_6:ByteArray),(o1_0_7:Int),(o1_0_8:Int),(o1_0_9:List ae),(o1_0_10:List Int),(o1_0_11:Bool),(o1_0_12:List ct),(o1_0_2:List ba),(o1_0_3:List (List ae)),(_:Unit))=>
      (bif (decide (x21<(ck.length:Int))) then
      bif (decide (0≤x21)&&decide (x21<(o1_0_3.length:Int))) then
      let e3:(List ae):=(List.getD o1_0_3 (Int.toNat x21) [])
      Option.bind (ak.F (e3,())) fun y4=>
      bif (decide (0≤x21)&&decide (x21<(o1_0_3.length:Int))) then
      let e5:Int:=(IntKind.i64.wrap (x21+(1:Int)))
      some (.inl (e5,o1_0_0,o1_0_1,o1_0_4,o1_0_5,o1_0_6,o1_0_7,o1_0_8,o1_0_9,o1_0_10,o1_0_11,o1_0_12,o1_0_2,(List.set o1_0_3 (Int.toNat x21) y4.1),()))
      else none
      else none
      else
      some (.inr (.inl (o1_0_0,o1_0_1,o1_0_4,o1_0_5,o1_0_6,o1_0_7,o1_0_8,o1_0_9,o1_0_10,o1_0_11,o1_0_12,o1_0_2,o1_0_3,()))):Option (_⊕((Int×ByteArray×ByteArray×ByteArray×ByteArray×Int×Int×(List ae)×(List Int)×Bool×(List ct)×(List ba)×(List (List ae))×Unit)⊕(Int×ByteArray×ByteArray×ByteArray×ByteArray×Int×Int×Bool×(List ba)×(List (List ae))×(List ae)×(List Int)×(List ct)×Unit)))))
    (m:=fun s=>ck.length-s.1.toNat) (I:=fun s=>∃x:Nat,x≤ck.length∧s=((x:Int),k,tn,vn,vf,vw,o1,o2,wh,pk,gr,ag,c,ck,())) (f:=fun _=> .inl (k,tn,vn,vf,vw,o1,o2,wh,pk,gr,ag,c,ck,())) (by
      rintro _ ⟨x,hx,rfl⟩
      by_cases hlt:x<ck.length
      · refine .inl ⟨(((x+1:Nat):Int),k,tn,vn,vf,vw,o1,o2,wh,pk,gr,ag,c,ck,()),?_,⟨x+1,by omega,rfl⟩,by simp only [Int.toNat_natCast];omega,rfl⟩
        have d1:decide ((x:Int)<(ck.length:Int))=true:=by simp;omega
        have d0:decide (0≤(x:Int))=true:=by simp
        simp only [d1,d0,Bool.and_self,cond_true,Int.toNat_natCast,bU hlt,uS ck[x] (by have:=h6 _ (List.getElem_mem hlt);omega),Option.bind_some,List.set_getElem_self,cw hlt (show ck.length<9223372036854775808 by omega)]
      · right
        have d1:decide ((x:Int)<(ck.length:Int))=false:=by simp;omega
        simp only [d1,cond_false]) _ ⟨0,by omega,rfl⟩
  refine (cT _ hl).trans ?_
  simp only [uS wh (by omega),D4 pk (by omega),D5 ag (by omega),Option.bind_some]
end Go.Proofs.Ytleadolkcmagfaa
end
section
set_option maxRecDepth 100000
namespace Go.Proofs.Ytleadolkcmagfaa
open Go Lv Go.Proofs Go.RowKit Go.Shelf Dl
theorem JY (op:Int):∃v,cI.F (op,())=some (v,())∧v≤2∧((op=5∨op=6)→v=2):=by
 rw [cI.eq]
 unfold cI.B
 simp only [b_eq]
 by_cases h0:op=0
 ·subst h0;exact ⟨0,rfl,by omega,by omega⟩
 by_cases h1:op=1
 ·subst h1;exact ⟨0,rfl,by omega,by omega⟩
 by_cases h9:op=9
 ·subst h9;exact ⟨1,rfl,by omega,by omega⟩
 by_cases h10:op=10
 ·subst h10;exact ⟨1,rfl,by omega,by omega⟩
 by_cases h2:op=2
 ·subst h2;exact ⟨2,rfl,by omega,by omega⟩
 by_cases h3:op=3
 ·subst h3;exact ⟨2,rfl,by omega,by omega⟩
 by_cases h4:op=4
 ·subst h4;exact ⟨2,rfl,by omega,by omega⟩
 by_cases h5:op=5
 ·subst h5;exact ⟨2,rfl,by omega,by omega⟩
 by_cases h6:op=6
 ·subst h6;exact ⟨2,rfl,by omega,by omega⟩
 by_cases h7:op=7
 ·subst h7;exact ⟨2,rfl,by omega,by omega⟩
 by_cases h8:op=8
 ·subst h8;exact ⟨2,rfl,by omega,by omega⟩
 simp only [h0,h1,h2,h3,h4,h5,h6,h7,h8,h9,h10,decide_false,cond_false,Option.bind_some]
 exact ⟨-1,rfl,by omega,fun h=>by simp at h⟩
theorem pop_t (ok:Bool) (cs st:List Int) (hs:st.length≤1000):∃x ok' st',aW.F (ok,cs,st,())=some (x,ok',cs,st',())∧st'.length≤st.length:=by
 rw [aW.eq]
 unfold aW.B
 simp only [b_eq]
 by_cases h:st=[]
 ·subst h;exact ⟨0,false,[],rfl,Nat.le_refl _⟩
 ·have hp:0<st.length:=List.length_pos_iff.2 h
  have d0:decide ((st.length:Int)=0)=false:=by simp;omega
  have w:IntKind.i64.wrap ((st.length:Int)-1)=((st.length-1:Nat):Int):=by rw [dl]<;>omega
  have d1:(decide (0≤((st.length-1:Nat):Int))&&decide (((st.length-1:Nat):Int)<(st.length:Int)))=true:=by simp;omega
  have d2:(decide (0≤(0:Int))&&(decide ((0:Int)≤((st.length-1:Nat):Int))&&decide (((st.length-1:Nat):Int)≤(st.length:Int))))=true:=by simp
  simp only [d0,cond_false,w]
  rw [d1,cond_true,d2,cond_true]
  exact ⟨_,_,_,rfl,by rw [List.length_take];omega⟩
theorem D6 (x:Int) (ok:Bool) (cs st:List Int) (hs:st.length≤1000):aO.F (x,ok,cs,st,())=some (ok,cs,st++ [x],()):=by
 rw [aO.eq]
 unfold aO.B
 have:Nat.ble (st.length+([x]:List Int).length) 17592186044416=true:=Nat.ble_eq_true_of_le (by simp;omega)
 show (bif Nat.ble (st.length+([x]:List Int).length) 17592186044416 then _ else _)=_
 rw [this];rfl
theorem Kl (kd : Int) (l : List Int) (hl : l.length ≤ 1000) : ∃ b,dk.F (kd,l,()) = some (b,()) := by
  rw [dk.eq]
  unfold dk.B
  obtain ⟨r,h,_⟩:=ry (body:=fun ((x9:Int),(_:Unit))=>
    (bif (decide (x9<(l.length:Int))) then
    bif (decide (0≤x9)&&decide (x9<(l.length:Int))) then
    let e1:Int:=(List.getD l (Int.toNat x9) (0:Int))
    (bif (e1 !=kd) then
    (bif (e1 !=(0:Int)) then
    some (.inr (false,()))
    else
    let e2:Int:=(IntKind.i64.wrap (x9+(1:Int)))
    some (.inl (e2,())))
    else
    let e3:Int:=(IntKind.i64.wrap (x9+(1:Int)))
    some (.inl (e3,())))
    else none
    else
    some (.inr (true,())) : Option ((Int × Unit) ⊕ (Bool × Unit)))) (m := fun s => l.length - s.1.toNat) (I := fun s => ∃ x : Nat,s = ((x : Int),()) ∧ x ≤ l.length) (Q := fun _ _ => True) (by
      rintro _ ⟨x,rfl,hx⟩
      by_cases hlt:x<l.length
      · have d1:decide ((x:Int)<(l.length:Int))=true:=by simp;omega
        have d0:decide (0≤(x:Int))=true:=by simp
        simp only [d1,d0,Bool.and_self,cond_true,cw hlt (show l.length<9223372036854775808 by omega)]
        have go:(∃s',some (.inl (((x+1:Nat):Int),()))=some (.inl s':(Int×Unit)⊕(Bool×Unit))∧(∃x:Nat,s'=((x:Int),())∧x≤l.length)∧l.length-s'.1.toNat<l.length-x∧True):=
          ⟨_,rfl,⟨x+1,rfl,by omega⟩,by show l.length-Int.toNat _<_;rw [Int.toNat_natCast];omega,trivial⟩
        obtain ⟨s',g1,g2,g3,_⟩:=go
        cases ((l.getD (Int.toNat (x:Int)) 0) !=kd)
        · exact .inl ⟨s',g1,g2,by rw [Int.toNat_natCast];exact g3,fun _ _=>trivial⟩
        · cases ((l.getD (Int.toNat (x:Int)) 0) !=0)
          · exact .inl ⟨s',g1,g2,by rw [Int.toNat_natCast];exact g3,fun _ _=>trivial⟩
          · exact .inr ⟨_,rfl,trivial⟩
      · have d1:decide ((x:Int)<(l.length:Int))=false:=by simp;omega
        simp only [d1,cond_false]
        exact .inr ⟨_,rfl,trivial⟩) ((0:Int),()) ⟨0,rfl,by omega⟩
  obtain ⟨b,u⟩:=r
  exact ⟨b,h⟩
theorem Iu (op:Int) (l:List Int) (hl:l.length≤1000) (h2:(op=5∨op=6)→l.length=2):∃k b,cu.F (op,l,())=some (k,b,()):=by
 rw [cu.eq]
 unfold cu.B
 obtain ⟨b1,a1⟩:=Kl 1 l hl
 obtain ⟨b2,a2⟩:=Kl 2 l hl
 simp only [a1,a2,b_eq,Option.bind_some]
 by_cases e2:op=2
 ·subst e2;exact ⟨_,_,rfl⟩
 by_cases e3:op=3
 ·subst e3;exact ⟨_,_,rfl⟩
 by_cases e4:op=4
 ·subst e4;exact ⟨_,_,rfl⟩
 have key:op=5∨op=6→∃x y,l=[x,y]:=fun h=>by
  have:=h2 h
  match l,this with
  | [x,y],_=>exact ⟨x,y,rfl⟩
 by_cases e5:op=5
 ·obtain ⟨x,y,rfl⟩:=key (.inl e5)
  subst e5
  simp
  refine ⟨1,?_⟩
  cases decide (x=y)<;>cases decide (x=0)<;>cases decide (y=0)<;>simp
 by_cases e6:op=6
 ·obtain ⟨x,y,rfl⟩:=key (.inr e6)
  subst e6
  simp
  refine ⟨1,?_⟩
  cases decide (x=y)<;>cases decide (x=0)<;>cases decide (y=0)<;>simp
 simp only [e2,e3,e4,e5,e6,decide_false,cond_false,Option.bind_some]
 cases decide (op=7)
 ·cases decide (op=8)
  ·cases decide (op=9)<;>exact ⟨_,_,rfl⟩
  ·exact ⟨_,_,rfl⟩
 ·exact ⟨_,_,rfl⟩
theorem KZ (a b:Int) (s:ByteArray):∃r,cy.F (a,b,s,())=some (r,()):=by
 rw [cy.eq]
 unfold cy.B
 simp only []
 generalize (a==(0:Int))=x0,(a==(1:Int))=x1,(a==(2:Int))=x2,(a==(3:Int))=x3,(b==(0:Int))=y0,(b==(1:Int))=y1
 cases x0<;>cases x1<;>cases x2<;>cases x3<;>cases y0<;>cases y1<;>exact ⟨_,rfl⟩
theorem K0 (op n a b : Int) (s : ByteArray) (ok : Bool) (cs st : List Int) (hs : st.length ≤ 500) : ∃ r ok' st',bv.F (op,n,a,b,s,ok,cs,st,()) = some (r,ok',cs,st',()) ∧ st'.length ≤ st.length + 1 := by
  rw [bv.eq]
  unfold bv.B
  obtain ⟨v,ht,hv,hv5⟩:=JY op
  simp only [ht,Option.bind_some]
  obtain ⟨r,hl,hr⟩:=ry (body:=fun ((x11:Int),(o5_0:List Int),(o0_0_1:Bool),(o0_0_2:List Int),(o0_0_0:List Int),(_:Unit))=>
    (bif (decide (x11<v)) then
    Option.bind (aW.F (o0_0_1,o0_0_2,o0_0_0,())) fun y2=>
    bif (Nat.ble (o5_0.length+ [y2.1].length) 17592186044416) then
    let e3:Int:=(IntKind.i64.wrap (x11+(1:Int)))
    some (.inl (e3,(o5_0++ [y2.1]),y2.2.1,y2.2.2.1,y2.2.2.2.1,()))
    else none
    else
    some (.inr (.inl (o5_0,o0_0_1,o0_0_2,o0_0_0,()))):Option ((Int×(List Int)×Bool×(List Int)×(List Int)×Unit)⊕(((List Int)×Bool×(List Int)×(List Int)×Unit)⊕(Bool×Bool×(List Int)×(List Int)×Unit)))))
    (m:=fun x=>3-x.1.toNat) (I:=fun x=>∃(i:Nat) (l:List Int) (ok:Bool) (st':List Int),x=((i:Int),l,ok,cs,st',())∧l.length=i∧i≤2∧((i:Int)≤v∨i=0)∧st'.length≤st.length)
    (Q:=fun _ r=>∃(l:List Int) (ok:Bool) (st':List Int),r=.inl (l,ok,cs,st',())∧l.length≤2∧(v=2→l.length=2)∧st'.length≤st.length) (by
      rintro _ ⟨i,l,ok,st',rfl,h1,h2,h3,h4⟩
      by_cases hlt:(i:Int)<v
      · obtain ⟨x,ok',st'',hp,hle⟩:=pop_t ok cs st' (by omega)
        have d1:decide ((i:Int)<v)=true:=by simpa using hlt
        have hb:Nat.ble (l.length+([x]:List Int).length) 17592186044416=true:=Nat.ble_eq_true_of_le (by simp;omega)
        have w:IntKind.i64.wrap ((i:Int)+1)=((i+1:Nat):Int):=by rw [dl]<;>omega
        refine .inl ⟨(((i+1:Nat):Int),l++ [x],ok',cs,st'',()),?_,⟨i+1,_,_,_,rfl,by simp;omega,by omega,.inl (by omega),by omega⟩,by show 3-Int.toNat _<3-Int.toNat _;rw [Int.toNat_natCast,Int.toNat_natCast];omega,fun _ h=>h⟩
        simp only [d1,cond_true,hp,Option.bind_some,hb,w]
      · have d1:decide ((i:Int)<v)=false:=by simpa using hlt
        refine .inr ⟨.inl (l,ok,cs,st',()),?_,l,ok,st',rfl,by omega,fun h=>by omega,h4⟩
        simp only [d1,cond_false]) ((0:Int),[],ok,cs,st,()) ⟨0,[],ok,st,rfl,rfl,by omega,.inr rfl,Nat.le_refl _⟩
  obtain ⟨l,ok1,st1,rfl,g1,g2,g3⟩:=hr
  refine (exists_congr fun _=>exists_congr fun _=>exists_congr fun _=>and_congr_left fun _=>by rw [cT _ hl]).2 ?_
  simp only []
  cases ok1 with
  |false=>exact ⟨_,_,_,rfl,by omega⟩
  |true=>
    simp only [Bool.not_true,cond_false,Option.bind_some]
    by_cases hv0:v<0
    · have d:decide (v<0)=true:=by simpa using hv0
      rw [d]
      exact ⟨_,_,_,rfl,by omega⟩
    · have d:decide (v<0)=false:=by simpa using hv0
      simp only [d,cond_false,b_eq]
      have p1:(st1++ [0]).length≤st.length+1:=by simp;omega
      by_cases e0:op=0
      · simp only [e0,decide_true,cond_true]
        by_cases n0:n<0
        · have d:decide (n<0)=true:=by simpa using n0
          simp only [d,cond_true,Option.bind_some]
          exact ⟨_,_,_,rfl,by omega⟩
        have d:decide (n<0)=false:=by simpa using n0
        simp only [d,cond_false]
        by_cases n1:n≥(cs.length:Int)
        · have d:decide (n≥(cs.length:Int))=true:=by simpa using n1
          simp only [d,cond_true,Option.bind_some]
          exact ⟨_,_,_,rfl,by omega⟩
        have d:decide (n≥(cs.length:Int))=false:=by simpa using n1
        have d2:(decide (0≤n)&&decide (n<(cs.length:Int)))=true:=by simp;omega
        simp only [d,cond_false,d2,cond_true]
        cases decide (List.getD cs n.toNat 0<1) with
        |true=>exact ⟨_,_,_,rfl,by omega⟩
        |false=>
          simp only [cond_false,Option.bind_some]
          cases decide (List.getD cs n.toNat 0>3) with
          |true=>exact ⟨_,_,_,rfl,by omega⟩
          |false=>
            simp only [cond_false,Option.bind_some,D6 _ true cs st1 (by omega)]
            exact ⟨_,_,_,rfl,by simp;omega⟩
      · simp only [e0,decide_false,cond_false]
        by_cases e1:op=1
        · obtain ⟨q,hq⟩:=KZ a b s
          simp only [e1,decide_true,cond_true,D6 _ true cs st1 (by omega),Option.bind_some,hq]
          exact ⟨_,_,_,rfl,by simp;omega⟩
        · obtain ⟨kk,q,hq⟩:=Iu op l (by omega) (fun h=>g2 (hv5 h))
          simp only [e1,decide_false,cond_false,hq,Option.bind_some,D6 _ true cs st1 (by omega)]
          exact ⟨_,_,_,rfl,by simp;omega⟩
theorem one_t (ok:Bool) (cs st:List Int):∃x y ok' cs' st',aY.F (ok,cs,st,())=some (x,y,ok',cs',st',()):=by
 rw [aY.eq]
 unfold aY.B
 cases ok with
 |false=>exact ⟨_,_,_,_,_,rfl⟩
 |true=>
  simp only [Bool.not_true,cond_false]
  by_cases h:st.length=1
  ·have d1:((st.length:Int) !=1)=false:=by simp [h]
   have d2:(decide (0≤(0:Int))&&decide ((0:Int)<(st.length:Int)))=true:=by simp;omega
   simp only [d1,cond_false,d2,cond_true]
   exact ⟨_,_,_,_,_,rfl⟩
  ·have d1:((st.length:Int) !=1)=true:=by simp;omega
   simp only [d1,cond_true]
   exact ⟨_,_,_,_,_,rfl⟩
theorem K1 (e : List ae) (cs : List Int) : ∃ x y,db.F (e,cs,()) = some (x,y,()) := by
  rw [db.eq]
  unfold db.B
  by_cases hb:e.length>100
  · have d:decide ((e.length:Int)>100)=true:=by simp;omega
    simp only [d,cond_true]
    exact ⟨_,_,rfl⟩
  have d:decide ((e.length:Int)>100)=false:=by simp;omega
  simp only [d,cond_false]
  obtain ⟨r,hl,hr⟩:=ry (body:=fun ((x23:Int),(o6_0_1:Bool),(o6_0_2:List Int),(o6_0_0:List Int),(_:Unit))=>
    (bif (decide (x23<(e.length:Int))) then
    bif (decide (0≤x23)&&decide (x23<(e.length:Int))) then
    let e1:ae:=(List.getD e (Int.toNat x23) bD.z)
    Option.bind (bv.F (e1.1,e1.2.1,e1.2.2.1,e1.2.2.2.1,e1.2.2.2.2,o6_0_1,o6_0_2,o6_0_0,())) fun y2=>
    (bif (!y2.1) then
    some (.inr (.inr ((0:Int),(30:Int),())))
    else
    let e3:Int:=(IntKind.i64.wrap (x23+(1:Int)))
    some (.inl (e3,y2.2.1,y2.2.2.1,y2.2.2.2.1,())))
    else none
    else
    some (.inr (.inl (o6_0_1,o6_0_2,o6_0_0,()))):Option ((Int×Bool×(List Int)×(List Int)×Unit)⊕((Bool×(List Int)×(List Int)×Unit)⊕(Int×Int×Unit)))))
    (m:=fun x=>e.length-x.1.toNat) (I:=fun x=>∃(i:Nat) (ok:Bool) (st:List Int),x=((i:Int),ok,cs,st,())∧i≤e.length∧st.length≤i)
    (Q := fun _ _ => True) (by
      rintro _ ⟨i,ok,st,rfl,h1,h2⟩
      by_cases hlt:i<e.length
      · have d1:decide ((i:Int)<(e.length:Int))=true:=by simp;omega
        have d0:decide (0≤(i:Int))=true:=by simp
        obtain ⟨q,ok',st',hs,hle⟩:=K0 e[i].1 e[i].2.1 e[i].2.2.1 e[i].2.2.2.1 e[i].2.2.2.2 ok cs st (by omega)
        cases q with
        |false=>
          refine .inr ⟨.inr ((0:Int),(30:Int),()),?_,trivial⟩
          simp only [d1,d0,Bool.and_self,cond_true,Int.toNat_natCast,bU hlt,hs,Option.bind_some,Bool.not_false]
        |true=>
          refine .inl ⟨(((i+1:Nat):Int),ok',cs,st',()),?_,⟨i+1,_,_,rfl,by omega,by omega⟩,by show e.length-Int.toNat _<e.length-Int.toNat _;rw [Int.toNat_natCast,Int.toNat_natCast];omega,fun _ h=>h⟩
          simp only [d1,d0,Bool.and_self,cond_true,Int.toNat_natCast,bU hlt,hs,Option.bind_some,Bool.not_true,cond_false,cw hlt (show e.length<9223372036854775808 by omega)]
      · have d1:decide ((i:Int)<(e.length:Int))=false:=by simp;omega
        refine .inr ⟨.inl (ok,cs,st,()),?_,trivial⟩
        simp only [d1,cond_false]) ((0:Int),true,cs,[],()) ⟨0,true,[],rfl,by omega,by simp⟩
  refine (exists_congr fun _=>exists_congr fun _=>by rw [cT _ hl]).2 ?_
  rcases r with ⟨ok,cs',st,⟨⟩⟩|⟨a,b,⟨⟩⟩
  · obtain ⟨x,y,ok',cs'',st',h⟩:=one_t ok cs' st
    simp only [h,Option.bind_some]
    cases y<;>exact ⟨_,_,rfl⟩
  · exact ⟨_,_,rfl⟩
theorem EZ (e:List ae) (cs:List Int):∃b,bQ.F (e,cs,())=some (b,()):=by
 rw [bQ.eq]
 unfold bQ.B
 obtain ⟨x,y,h⟩:=K1 e cs
 simp only [h,Option.bind_some,b_eq]
 cases decide (y=0)
 ·exact ⟨_,rfl⟩
 ·cases decide (x=1)<;>exact ⟨_,rfl⟩
noncomputable def js (e:List ae) (cs:List Int):Bool:=(EZ e cs).choose
theorem CR (e:List ae) (cs:List Int):bQ.F (e,cs,())=some (js e cs,()):=(EZ e cs).choose_spec
end Go.Proofs.Ytleadolkcmagfaa
end
section
set_option maxRecDepth 100000
namespace Go.Proofs.Ytleadolkcmagfaa
open Go Lv Go.Proofs Go.RowKit Go.Shelf Dl
def oW {α β:Type} (f:α→Option β):List α→Option (List β)
 | []=>some []
 |a::r=>(f a).bind fun x=>(oW f r).map (x:: ·)
theorem lw {α β:Type} {f:α→Option β}:∀{l:List α} {xs:List β},oW f l=some xs→xs.length=l.length
 | [],_,h=>by cases h;rfl
 |a::r,_,h=>by
  simp only [oW,Option.bind_eq_some_iff,Option.map_eq_some_iff] at h
  obtain ⟨x,_,ys,h2,rfl⟩:=h
  simp [lw h2]
theorem xM {α β:Type} {f:α→Option β}:∀{l:List α} {xs:List β},oW f l=some xs→∀x∈xs,∃a∈l,f a=some x
 | [],_,h=>by cases h;simp
 |a::r,_,h=>by
  simp only [oW,Option.bind_eq_some_iff,Option.map_eq_some_iff] at h
  obtain ⟨x,h1,ys,h2,rfl⟩:=h
  intro y hy
  rcases List.mem_cons.1 hy with rfl|hy
  ·exact ⟨a,by simp,h1⟩
  ·obtain ⟨b,hb,e⟩:=xM h2 y hy;exact ⟨b,by simp [hb],e⟩
theorem tR {α β:Type} {f:α→Option β}:∀{l:List α},(∀a∈l,∃x,f a=some x)→∃xs,oW f l=some xs
 | [],_=>⟨[],rfl⟩
 |a::r,h=>by
  obtain ⟨x,hx⟩:=h a (by simp)
  obtain ⟨xs,hxs⟩:=tR (l:=r) fun b hb=>h b (by simp [hb])
  exact ⟨x::xs,by simp [oW,hx,hxs]⟩
theorem xN {α β:Type} (f:α→β):∀l:List α,oW (fun a=>some (f a)) l=some (l.map f)
 | []=>rfl
 |a::r=>by simp [oW,xN f r]
theorem s8 {α β S R : Type} {body : S → Option (S ⊕ R)} (l : List α) (hl : l.length ≤ 1000) (f : α → Option β) (mk : Int → List β → S) (fin : List β → Option R)
    (h:∀(i:Nat) (hi:i<l.length) o,o.length≤5000→body (mk i o)=(f l[i]).map fun x=> .inl (mk (i+1:Nat) (o++ [x])))
    (h':∀o,o.length≤5000→body (mk l.length o)=(fin o).map .inr) (o:List β) (ho:o.length≤3000):bE body (mk 0 o)=(oW f l).bind fun xs=>fin (o++xs):=by
  have go:∀(k i:Nat),l.length-i=k→i≤l.length→∀o:List β,o.length≤3000+i→bE body (mk i o)=(oW f (l.drop i)).bind fun xs=>fin (o++xs):=by
    intro k
    induction k with
    |zero=>
      intro i h1 h2 o ho
      have:i=l.length:=by omega
      subst this
      rw [ej,h' o (by omega),List.drop_length]
      simp only [oW,Option.bind_some,List.append_nil]
      cases fin o<;>rfl
    |succ k ih=>
      intro i h1 h2 o ho
      have hi:i<l.length:=by omega
      rw [ej,h i hi o (by omega),List.drop_eq_getElem_cons hi]
      simp only [oW]
      cases f l[i] with
      |none=>rfl
      |some x=>
        simp only [Option.map_some,Option.bind_some]
        rw [ih (i+1) (by omega) (by omega) (o++ [x]) (by simp;omega)]
        cases oW f (l.drop (i+1))<;>simp
  have:=go l.length 0 (by omega) (by omega) o (by omega)
  simpa using this
def atI (l:List Int) (n:Int):Option Int:=if 0≤n∧n<l.length then some (l.getD n.toNat 0) else none
def An (l:List Int) (a:Agg):Option Int:=if a.1=2∨a.1=3 then atI l a.2 else some 2
def mE (f:mI→Option (List Int)) (d:Dl.Def):Option (List Int×List Bool):=
 if d.1=0 then some (d.2.1.2.1.map (·.2.1),d.2.1.2.1.map (·.2.2.1))
 else (f d.2.2).bind fun l=>(oW (atI l) d.2.2.2.2.2.2.2.1).bind fun a=>(oW (An l) d.2.2.2.2.2.2.2.2.2).bind fun b=>some (a++b,List.replicate (a++b).length true)
def nM (l:List Dl.Def) (i:Int):Option Dl.Def:=if 0≤i∧i<l.length then some (l.getD i.toNat fB.z) else none
def iU (l:List Dl.Def) (g:Dl.Def→Option (List Int×List Bool)) (v:mI):Option (List Int):=
 (nM l (eE l v.2.1)).bind fun d=>(g d).bind fun x=>if v.2.2.1=e0 then some x.1 else (nM l (eE l v.2.2.1)).bind fun d'=>(g d').bind fun y=>some (x.1++y.1)
def colsN (l:List Dl.Def):Nat→Dl.Def→Option (List Int×List Bool)
 |0=>fun _=>none
 |n+1=>mE (iU l (colsN l n))
theorem Iv (n:Int) (m:Nat):(decide (0≤n)&&decide (n<(m:Int)))=decide (0≤n∧n<m):=by
 by_cases h1:0≤n<;>by_cases h2:n<m<;>simp [h1,h2]
theorem E1 {Q:Type} (l:List Int) (n:Int) (K:Int→Option Q):(bif (decide (0≤n)&&decide (n<(l.length:Int))) then K (List.getD l n.toNat 0) else none)=(atI l n).bind K:=by
 rw [Iv]
 unfold atI
 by_cases h:0≤n∧n<l.length<;>simp [h]
theorem lx (l:List Dl.Def) (n:Int):(nM l n=none∧(decide (0≤n)&&decide (n<(l.length:Int)))=false)∨∃d,nM l n=some d∧(decide (0≤n)&&decide (n<(l.length:Int)))=true∧List.getD l n.toNat fB.z=d∧d∈l:=by
 rw [Iv]
 unfold nM
 by_cases h:0≤n∧n<l.length
 ·refine .inr ⟨_,by rw [if_pos h],by simp [h],rfl,?_⟩
  have hi':n.toNat<l.length:=by omega
  rw [bU hi']
  exact List.getElem_mem hi'
 ·exact .inl ⟨by rw [if_neg h],by simpa using h⟩
theorem Ge {f:mI→Option (List Int)} {d:Dl.Def} (hd:Fit d) {x:List Int×List Bool} (h:mE f d=some x):x.1.length≤800∧x.2.length=x.1.length:=by
 unfold mE at h
 split at h
 ·cases h;have:=hd.cols;simp;omega
 ·simp only [Option.bind_eq_some_iff] at h
  obtain ⟨l,_,a,h1,b,h2,h3⟩:=h
  cases h3
  have:=lw h1
  have:=lw h2
  have:=hd.pick
  have:=hd.aggs
  simp;omega
theorem K2 {f : TS aD.si → Option (TS aD.so)} {fj : mI → Option (List Int)} (l : List Dl.Def) (k : Int) (tn : ByteArray) (c : List Col) (ck : List (List ae)) (vn vf vw : ByteArray) (o1 o2 : Int) (wh : List ae) (pk : List Int) (gr : Bool) (ag : List Agg) (h : Fit (k,((tn,(c,ck)),(vn,(vf,(vw,((o1,o2),(wh,(pk,(gr,ag))))))))))
    (hf:f (l,vn,vf,vw,o1,o2,wh,pk,gr,ag,())=(fj (vn,(vf,(vw,((o1,o2),(wh,(pk,(gr,ag)))))))).map fun x=>(x,())):
    aC.b f (l,k,tn,c,ck,vn,vf,vw,o1,o2,wh,pk,gr,ag,())=(mE fj (k,((tn,(c,ck)),(vn,(vf,(vw,((o1,o2),(wh,(pk,(gr,ag)))))))))).map fun x=>(x.1,x.2,()):=by
  have h1:c.length≤400:=h.cols
  have h4:pk.length≤400:=h.pick
  have h5:ag.length≤400:=h.aggs
  unfold aC.b mE
  simp only [b_eq]
  by_cases hk:k=0
  · simp only [hk,decide_true,cond_true,if_pos,Option.map_some]
    refine (cT (.inr (c.map (·.2.1),c.map (·.2.2.1),())) ?_).trans rfl
    refine (s8 (β:=Int×Bool) c (by omega) (fun x=>some (x.2.1,x.2.2.1)) (fun i o=>(i,o.map Prod.fst,o.map Prod.snd,())) (fun o=>some (.inr (o.map Prod.fst,o.map Prod.snd,()))) ?_ ?_ [] (by simp)).trans ?_
    · intro i hi o ho
      have d1:decide ((i:Int)<(c.length:Int))=true:=by simp;omega
      have d0:decide (0≤(i:Int))=true:=by simp
      have b1:Nat.ble ((o.map Prod.fst).length+([c[i].2.1]:List Int).length) 17592186044416=true:=Nat.ble_eq_true_of_le (by simp;omega)
      have b2:Nat.ble ((o.map Prod.snd).length+([c[i].2.2.1]:List Bool).length) 140737488355328=true:=Nat.ble_eq_true_of_le (by simp;omega)
      simp only [d1,d0,Bool.and_self,cond_true,Int.toNat_natCast,bU hi,b1,b2,cw hi (show c.length<9223372036854775808 by omega),List.map_append,List.map_cons,List.map_nil,Option.map_some]
    · intro o ho
      have d1:decide ((c.length:Int)<(c.length:Int))=false:=by simp
      simp only [d1,cond_false,Option.map_some]
    · rw [xN]
      simp [Function.comp_def]
  · simp only [hk,decide_false,cond_false,if_neg,Option.bind_some,hf]
    cases hj:fj (vn,(vf,(vw,((o1,o2),(wh,(pk,(gr,ag))))))) with
    |none=>rfl
    |some y=>
      simp only [Option.map_some,Option.bind_some]
      have e1:=s8 (R:=((List Int×Unit)⊕(List Int×List Bool×Unit))) (body:=fun ((x48:Int),(o6_0:List Int),(_:Unit))=>
          (bif (decide (x48<(pk.length:Int))) then
          bif (decide (0≤x48)&&decide (x48<(pk.length:Int))) then
          let e5:Int:=(List.getD pk (Int.toNat x48) (0:Int))
          bif (decide (0≤e5)&&decide (e5<(y.length:Int))) then
          let e6:Int:=(List.getD y (Int.toNat e5) (0:Int))
          bif (Nat.ble (o6_0.length+ [e6].length) 17592186044416) then
          let e7:Int:=(IntKind.i64.wrap (x48+(1:Int)))
          some (.inl (e7,(o6_0++ [e6]),()))
          else none
          else none
          else none
          else
          some (.inr (.inl (o6_0,())))))
        pk (by omega) (atI y) (fun i o=>(i,o,())) (fun o=>some (.inl (o,()))) (by
          intro i hi o ho
          have d1:decide ((i:Int)<(pk.length:Int))=true:=by simp;omega
          have d0:decide (0≤(i:Int))=true:=by simp
          have b1:∀z:Int,Nat.ble (o.length+([z]:List Int).length) 17592186044416=true:=fun z=>Nat.ble_eq_true_of_le (by simp;omega)
          simp only [d1,d0,Bool.and_self,cond_true,Int.toNat_natCast,bU hi,b1,cw hi (show pk.length<9223372036854775808 by omega)]
          rw [E1 y pk[i] fun e6=>(some (.inl (((i+1:Nat):Int),(o++ [e6]),())):Option ((Int×List Int×Unit)⊕((List Int×Unit)⊕(List Int×List Bool×Unit))))]
          cases atI y pk[i]<;>rfl) (by
          intro o ho
          have d1:decide ((pk.length:Int)<(pk.length:Int))=false:=by simp
          simp only [d1,cond_false,Option.map_some]) [] (by simp)
      refine (congrArg (fun z=>Option.bind z _) e1).trans ?_
      cases hp:oW (atI y) pk with
      |none=>rfl
      |some a=>
        simp only [Option.bind_some,List.nil_append]
        have ha:=lw hp
        have e2 := s8 (R := ((List Int × Unit) ⊕ (List Int × List Bool × Unit))) (body := fun ((x64 : Int),(o6_0 : List Int),(_ : Unit)) =>
            (bif (decide (x64<(ag.length:Int))) then
            bif (decide (0≤x64)&&decide (x64<(ag.length:Int))) then
            let e9:ct:=(List.getD ag (Int.toNat x64) ei.z)
            (bif decide (e9.1=(2:Int)) then
            bif (decide (0≤e9.2)&&decide (e9.2<(y.length:Int))) then
            let e10:Int:=(List.getD y (Int.toNat e9.2) (0:Int))
            bif (Nat.ble (o6_0.length+ [e10].length) 17592186044416) then
            let e11:Int:=(IntKind.i64.wrap (x64+(1:Int)))
            some (.inl (e11,(o6_0++ [e10]),()))
            else none
            else none
            else
            (bif decide (e9.1=(3:Int)) then
            bif (decide (0≤e9.2)&&decide (e9.2<(y.length:Int))) then
            let e12:Int:=(List.getD y (Int.toNat e9.2) (0:Int))
            bif (Nat.ble (o6_0.length+ [e12].length) 17592186044416) then
            let e13:Int:=(IntKind.i64.wrap (x64+(1:Int)))
            some (.inl (e13,(o6_0++ [e12]),()))
            else none
            else none
            else
            bif (Nat.ble (o6_0.length+ [(2:Int)].length) 17592186044416) then
            let e14:Int:=(IntKind.i64.wrap (x64+(1:Int)))
            some (.inl (e14,(o6_0++ [(2:Int)]),()))
            else none))
            else none
            else
            some (.inr (.inl (o6_0,())))))
          ag (by omega) (An y) (fun i o => (i,o,())) (fun o => some (.inl (o,()))) (by
            intro i hi o ho
            have d1:decide ((i:Int)<(ag.length:Int))=true:=by simp;omega
            have d0:decide (0≤(i:Int))=true:=by simp
            have b1:∀z:Int,Nat.ble (o.length+([z]:List Int).length) 17592186044416=true:=fun z=>Nat.ble_eq_true_of_le (by simp;omega)
            have ga:ag.getD i ei.z=ag[i]:=bU hi _
            simp only [d1,d0,Bool.and_self,cond_true,Int.toNat_natCast,ga,b1,cw hi (show ag.length<9223372036854775808 by omega)]
            rw [E1 y ag[i].2 fun e6=>(some (.inl (((i+1:Nat):Int),(o++ [e6]),())):Option ((Int×List Int×Unit)⊕((List Int×Unit)⊕(List Int×List Bool×Unit))))]
            unfold An
            by_cases q2:ag[i].1=2
            · simp only [q2,decide_true,cond_true,true_or,if_true]
              cases atI y ag[i].2<;>rfl
            · by_cases q3:ag[i].1=3
              · simp only [q3,decide_true,cond_true,or_true,if_true]
                cases atI y ag[i].2<;>rfl
              · simp only [q2,q3,decide_false,cond_false,or_self,if_false];rfl) (by
            intro o ho
            have d1:decide ((ag.length:Int)<(ag.length:Int))=false:=by simp
            simp only [d1,cond_false,Option.map_some]) a (by omega)
        refine (congrArg (fun z=>Option.bind z _) e2).trans ?_
        cases hb:oW (An y) ag with
        |none=>rfl
        |some b=>
          have hb:=lw hb
          simp only [Option.bind_some,It (a++b).length (by simp;omega),Option.map_some]
          first|rfl|simp
theorem qv {α β:Type} {x:Option α} {K:α→Option β} (h:x=none):x.bind K=none:=by rw [h];rfl
theorem CS {g : TS aC.si → Option (TS aC.so)} {gp : Dl.Def → Option (List Int × List Bool)} (l : List Dl.Def) (hl : Ln l) (hl' : ∀ d ∈ l,Fit d) (vn vf vw : ByteArray) (o1 o2 : Int) (wh : List ae) (pk : List Int) (gr : Bool) (ag : List Agg)
    (hg:∀d,Fit d→g (l,d.1,d.2.1.1,d.2.1.2.1,d.2.1.2.2,d.2.2.1,d.2.2.2.1,d.2.2.2.2.1,d.2.2.2.2.2.1.1,d.2.2.2.2.2.1.2,d.2.2.2.2.2.2.1,d.2.2.2.2.2.2.2.1,d.2.2.2.2.2.2.2.2.1,d.2.2.2.2.2.2.2.2.2,())=(gp d).map fun x=>(x.1,x.2,())) (hn:∀d,Fit d→∀x,gp d=some x→x.1.length≤800):
    aD.b g (l,vn,vf,vw,o1,o2,wh,pk,gr,ag,())=(iU l gp (vn,(vf,(vw,((o1,o2),(wh,(pk,(gr,ag)))))))).map fun x=>(x,()):=by
  unfold aD.b iU
  simp only [tQ l _ hl,Option.bind_some,dY]
  rcases lx l (eE l vf) with ⟨h1,h2⟩|⟨d,h1,h2,h3,h4⟩
  · rw [h1,h2];rfl
  rw [h1,h2]
  simp only [cond_true,h3,Option.bind_some]
  have hgd:=hg d (hl' d h4)
  cases hx:gp d with
  |none=>rw [hx] at hgd;exact qv hgd
  |some x=>
    rw [hx] at hgd
    refine (cT _ hgd).trans ?_
    simp only [Option.bind_some]
    by_cases hw:vw=e0
    · simp [hw]
    · have:(!decide (vw=(⟨#[]⟩:ByteArray)))=true:=by simpa using hw
      rw [this,cond_true,if_neg hw]
      rcases lx l (eE l vw) with ⟨k1,k2⟩|⟨d',k1,k2,k3,k4⟩
      · rw [k1,k2];rfl
      rw [k1,k2]
      simp only [cond_true,k3,Option.bind_some]
      have hgd':=hg d' (hl' d' k4)
      cases hy:gp d' with
      |none=>rw [hy] at hgd';exact qv hgd'
      |some y=>
        rw [hy] at hgd'
        refine (cT _ hgd').trans ?_
        have hb:Nat.ble (x.1.length+y.1.length) 17592186044416=true:=Nat.ble_eq_true_of_le (by have:=hn d (hl' d h4) x hx;have:=hn d' (hl' d' k4) y hy;omega)
        simp only [Option.bind_some,Option.map_some,hb,cond_true]
theorem Ac {l:List Dl.Def}:∀{n:Nat} {d:Dl.Def},Fit d→∀x,colsN l n d=some x→x.1.length≤800
 |0,_,_,x,h=>by cases h
 |n+1,d,hd,x,h=>(Ge hd h).1
theorem A5 (l:List Dl.Def) (hl:Ln l) (hl':∀d∈l,Fit d):∀(n:Nat) (d:Dl.Def),Fit d→aC.r n (l,d.1,d.2.1.1,d.2.1.2.1,d.2.1.2.2,d.2.2.1,d.2.2.2.1,d.2.2.2.2.1,d.2.2.2.2.2.1.1,d.2.2.2.2.2.1.2,d.2.2.2.2.2.2.1,d.2.2.2.2.2.2.2.1,d.2.2.2.2.2.2.2.2.1,d.2.2.2.2.2.2.2.2.2,())=(colsN l n d).map fun x=>(x.1,x.2,())
 |0,_,_=>rfl
 |n+1,d,hd=>K2 l d.1 d.2.1.1 d.2.1.2.1 d.2.1.2.2 d.2.2.1 d.2.2.2.1 d.2.2.2.2.1 d.2.2.2.2.2.1.1 d.2.2.2.2.2.1.2 d.2.2.2.2.2.2.1 d.2.2.2.2.2.2.2.1 d.2.2.2.2.2.2.2.2.1 d.2.2.2.2.2.2.2.2.2 hd (CS l hl hl' d.2.2.1 d.2.2.2.1 d.2.2.2.2.1 d.2.2.2.2.2.1.1 d.2.2.2.2.2.1.2 d.2.2.2.2.2.2.1 d.2.2.2.2.2.2.2.1 d.2.2.2.2.2.2.2.2.1 d.2.2.2.2.2.2.2.2.2 (A5 l hl hl' n) (fun _=>Ac))
theorem D7 (l:List Dl.Def) (hl:Ln l) (hl':∀d∈l,Fit d) (k:Int) (tn:ByteArray) (c:List Col) (ck:List (List ae)) (vn vf vw:ByteArray) (o1 o2:Int) (wh:List ae) (pk:List Int) (gr:Bool) (ag:List Agg) (h:Fit (k,((tn,(c,ck)),(vn,(vf,(vw,((o1,o2),(wh,(pk,(gr,ag)))))))))):aC.F (l,k,tn,c,ck,vn,vf,vw,o1,o2,wh,pk,gr,ag,())=(colsN l 64 (k,((tn,(c,ck)),(vn,(vf,(vw,((o1,o2),(wh,(pk,(gr,ag)))))))))).map fun x=>(x.1,x.2,()):=by
 rw [aC.eq]
 exact A5 l hl hl' 64 (k,((tn,(c,ck)),(vn,(vf,(vw,((o1,o2),(wh,(pk,(gr,ag))))))))) h
theorem Iw (l:List Dl.Def) (hl:Ln l) (hl':∀d∈l,Fit d) (vn vf vw:ByteArray) (o1 o2:Int) (wh:List ae) (pk:List Int) (gr:Bool) (ag:List Agg):aD.F (l,vn,vf,vw,o1,o2,wh,pk,gr,ag,())=(iU l (colsN l 64) (vn,(vf,(vw,((o1,o2),(wh,(pk,(gr,ag)))))))).map fun x=>(x,()):=by
 rw [aD.eq]
 exact CS l hl hl' vn vf vw o1 o2 wh pk gr ag (A5 l hl hl' 64) (fun _=>Ac)
end Go.Proofs.Ytleadolkcmagfaa
end
section
set_option maxRecDepth 100000
namespace Go.Proofs.Ytleadolkcmagfaa
open Go Lv Go.Proofs Go.RowKit Go.Shelf Dl
def D8 (nm:ByteArray):List Col→Nat→Int
 | [],_=>-1
 |x::r,i=>if x.1=nm then i else D8 nm r (i+1)
theorem Ix {R:Type} (cols:List Col) (nm:ByteArray) (G:Int→R) {body:Int×Unit→Option ((Int×Unit)⊕R)}
 (h:∀(i:Nat) (hi:i<cols.length),body ((i:Int),())=some (if cols[i].1=nm then .inr (G i) else .inl (((i+1:Nat):Int),())))
 (h':body ((cols.length:Int),())=some (.inr (G (-1)))):bE body ((0:Int),())=some (G (D8 nm cols 0)):=by
 have hf:∀(l:List Col) (i:Nat),iP (fun (x:Col) (i:Nat)=>if x.1=nm then (.inr (G i):Nat⊕R) else .inl (i+1)) (fun _=>G (-1)) l i=G (D8 nm l i):=by
  intro l
  induction l with
  |nil=>intro i;rfl
  |cons d r ih=>
   intro i
   simp only [iP,D8]
   by_cases h:d.1=nm
   ·rw [if_pos h,if_pos h]
   ·rw [if_neg h,if_neg h];exact ih _
 refine (AI (fun i (_:Nat)=>(i,())) cols (fun i st=>st=i) (fun (x:Col) (i:Nat)=>if x.1=nm then (.inr (G i):Nat⊕R) else .inl (i+1)) (fun _=>G (-1)) ?_ ?_ 0 rfl).trans (congrArg some (hf cols 0))
 ·intro i hi st hst
  rw [hst,h i hi]
  by_cases e:cols[i].1=nm
  ·simp [e]
  ·simp [e]
 ·intro st hst
  exact h'
theorem Gf {R Q:Type} {K:R→Option Q} (cols:List Col) (nm:ByteArray) (G:Int→R) {body:Int×Unit→Option ((Int×Unit)⊕R)}
 (h:∀(i:Nat) (hi:i<cols.length),body ((i:Int),())=some (if cols[i].1=nm then .inr (G i) else .inl (((i+1:Nat):Int),())))
 (h':body ((cols.length:Int),())=some (.inr (G (-1)))):Option.bind (bE body ((0:Int),())) K=K (G (D8 nm cols 0)):=by
 rw [Ix cols nm G h h'];rfl
def qa (cols:List Col) (i:Nat) (x:Col):Bool:=decide (D8 x.1 cols 0≠i)||(decide (i=0)&&(x.2.2.1||(decide (x.2.1=1)|| !decide (x.2.2.2.2.1=e0))))
def ot (cols:List Col):List Col→Nat→Bool
 | [],_=>true
 |x::r,i=> !qa cols i x&&ot cols r (i+1)
def Gg (of:List Col) (x:Col):Option Bool:=match of with
 | []=>none
 |y::_=>some (decide (y.2.1=x.2.1)&& !(decide (x.2.2.2.2.2=2)&& !x.2.2.1))
def xO (l:List Dl.Def) (t:Tab) (x:Col):Option Bool:=
 if x.2.2.2.2.1=e0 then some true else if x.2.2.2.2.1=t.1 then Gg t.2.1 x
 else if eE l x.2.2.2.2.1<0 then some false else (nM l (eE l x.2.2.2.2.1)).bind fun d=>if d.1=0 then Gg d.2.1.2.1 x else some false
def qb (l:List Dl.Def) (t:Tab):List Col→Option Bool
 | []=>some true
 |x::r=>(xO l t x).bind fun b=>if b then qb l t r else some false
def Iy (t:Tab):List Int:=t.2.1.map (·.2.1)
noncomputable def ou (l:List Dl.Def) (t:Tab):Option Int:=
 if ot t.2.1 t.2.1 0=true then (qb l t t.2.1).bind fun b=>if b then (if t.2.2.all (fun e=>js e (Iy t))=true then some 0 else some 93) else some 92 else some 91
theorem D9 (a b:Int):(a !=b)=decide (a≠b):=by by_cases h:a=b<;>simp [h]
theorem xP (c:List Col) {R:Type} (q:R) (u:R):∀(r:List Col) (i:Nat),iP (fun (x:Col) (i:Nat)=>if qa c i x=true then (.inr q:Nat⊕R) else .inl (i+1)) (fun _=>u) r i=if ot c r i=true then u else q
  | [],i=>rfl
  | x :: r,i => by
    simp only [iP,ot]
    by_cases h:qa c i x=true
    · simp [h]
    · simp only [Bool.not_eq_true] at h
      simp [h,xP c q u r]
theorem Km {Q:Type} (of:List Col) (x:Col) (A B:Option Q):
 (bif (decide (0≤(0:Int))&&decide ((0:Int)<(of.length:Int))) then
  let e15:ba:=(List.getD of 0 bR.z)
  (bif (e15.2.1 !=x.2.1) then B
  else
  (bif (x.2.2.2.2.2==(2:Int)) then
  (bif (!x.2.2.1) then B
  else A)
  else A))
  else none)=(Gg of x).bind fun b=>if b=true then A else B:=by
 cases of with
 |nil=>rfl
 |cons y r=>
  have d1:(decide (0≤(0:Int))&&decide ((0:Int)<((y::r).length:Int)))=true:=by simp
  rw [d1]
  show (bif (y.2.1 !=x.2.1) then B else (bif (x.2.2.2.2.2==(2:Int)) then (bif (!x.2.2.1) then B else A) else A))=if (decide (y.2.1=x.2.1)&& !(decide (x.2.2.2.2.2=2)&& !x.2.2.1))=true then A else B
  rw [D9,b_eq]
  by_cases e1:y.2.1=x.2.1<;>by_cases e2:x.2.2.2.2.2=2<;>cases x.2.2.1<;>simp [e1,e2]
theorem xQ (l:List Dl.Def) (t:Tab) {R:Type} (u q:R):∀r:List Col,sP (fun (x:Col) (_:Unit)=>(xO l t x).map fun b=>if b=true then (.inl ():Unit⊕R) else .inr q) (fun _=>some u) r ()=(qb l t r).map fun b=>if b=true then u else q
  | []=>rfl
  | x :: r => by
    simp only [sP,qb]
    cases h:xO l t x with
    |none=>rfl
    |some b=>
      cases b with
      |true=>simp [xQ l t u q r]
      |false=>simp
theorem Ad (ks:List Int):∀r:List (List ae),sP (fun (e:List ae) (_:Unit)=>if js e ks=true then some (.inl ():Unit⊕(Int×Unit)) else some (.inr ((93:Int),()))) (fun _=>some ((0:Int),())) r ()=some (if r.all (fun e=>js e ks)=true then 0 else 93,())
 | []=>rfl
 |x::r=>by
  simp only [sP,List.all_cons]
  by_cases h:js x ks=true
  ·simp [h,Ad ks r]
  ·simp [h]
theorem Iz (l : List Dl.Def) (hl : Ln l) (hl' : ∀ d ∈ l,Fit d) (tn : ByteArray) (c : List Col) (ck : List (List ae)) (hc : c.length ≤ 400) (hk : ck.length ≤ 400) (hf : Fit (0,((tn,(c,ck)),xi))) :
    bw.F (l,tn,c,ck,())=(ou l (tn,(c,ck))).map fun x=>(x,()):=by
  rw [bw.eq]
  unfold bw.B
  have hC:=D7 l hl hl' 0 tn c ck e0 e0 e0 0 0 [] [] false [] hf
  refine (cT (c.map (·.2.1),c.map (·.2.2.1),()) (hC.trans rfl)).trans ?_
  simp only []
  have hcl:c.length<9223372036854775808:=by omega
  refine (sQ (fun i (_ : Nat) => (i,())) c (fun i st => st = i) (fun (x : Col) (i : Nat) => if qa c i x = true then .inr (.inr ((91 : Int),())) else .inl (i + 1)) (fun _ => .inl ()) (by
      intro i hi st hst
      have d1:decide ((i:Int)<(c.length:Int))=true:=by simp;omega
      have d0:decide (0≤(i:Int))=true:=by simp
      have gi:c.getD i bR.z=c[i]:=bU hi _
      refine ⟨?_,fun st' h=>?_⟩
      · simp only [d1,d0,Bool.and_self,cond_true,Int.toNat_natCast,gi]
        refine (Gf c c[i].1 (fun j=>Sum.inl ((decide (j≠i)||(decide ((i:Int)=0)&&(c[i].2.2.1||(decide (c[i].2.1=1)|| !decide (c[i].2.2.2.2.1=e0))))),())) (by
          intro j hj
          have f1:decide ((j:Int)<(c.length:Int))=true:=by simp;omega
          have f0:decide (0≤(j:Int))=true:=by simp
          have gj:c.getD j bR.z=c[j]:=bU hj _
          simp only [f1,f0,Bool.and_self,cond_true,Int.toNat_natCast,gj,dY,Option.bind_some,cw hj hcl,D9,b_eq]
          by_cases e:c[j].1=c[i].1
          · simp only [e,decide_true,cond_true,if_true]
            generalize decide ((j:Int)≠i)=q1,decide ((i:Int)=0)=q2,c[i].2.2.1=q3,decide (c[i].2.1=1)=q4,decide (c[i].2.2.2.2.1=_)=q5
            cases q1<;>cases q2<;>cases q3<;>cases q4<;>rfl
          · simp only [e,decide_false,cond_false,if_false]) (by
          have f1:decide ((c.length:Int)<(c.length:Int))=false:=by simp
          simp only [f1,cond_false,dY,D9,b_eq]
          generalize decide ((-1:Int)≠i)=q1,decide ((i:Int)=0)=q2,c[i].2.2.1=q3,decide (c[i].2.1=1)=q4,decide (c[i].2.2.2.2.1=_)=q5
          cases q1<;>cases q2<;>cases q3<;>cases q4<;>rfl)).trans ?_
        rw [hst]
        have e0':decide ((i:Int)=0)=decide (i=0):=by by_cases h:i=0<;>simp [h]
        have:(decide (D8 c[i].1 c 0≠i)||(decide ((i:Int)=0)&&(c[i].2.2.1||(decide (c[i].2.1=1)|| !decide (c[i].2.2.2.2.1=e0)))))=qa c i c[i]:=by rw [e0'];rfl
        simp only [this,cw hi hcl]
        cases qa c i c[i]<;>rfl
      · rw [hst] at h
        cases hb:qa c i c[i] with
        |true=>rw [hb] at h;cases h
        |false=>rw [hb] at h;cases h;rfl) (by
      intro st hst
      have f1:decide ((c.length:Int)<(c.length:Int))=false:=by simp
      simp only [f1,cond_false]) 0 rfl).trans ?_
  rw [xP]
  unfold ou
  simp only []
  cases hb1:ot c c 0 with
  |false=>rfl
  |true=>
    simp only [if_true]
    rw [EB (fun i (_:Unit)=>(i,())) c (by omega) (fun (x:Col) (_:Unit)=>(xO l (tn,(c,ck)) x).map fun b=>if b=true then .inl () else .inr (.inr ((92:Int),()))) (fun _=>some (.inl ())) (by
      intro i hi st
      have d1:decide ((i:Int)<(c.length:Int))=true:=by simp;omega
      have d0:decide (0≤(i:Int))=true:=by simp
      have gi:c.getD i bR.z=c[i]:=bU hi _
      simp only [d1,d0,Bool.and_self,cond_true,Int.toNat_natCast,gi,cw hi hcl,dY]
      unfold xO
      by_cases q0:c[i].2.2.2.2.1=e0
      · simp [q0]
      have q0':decide (c[i].2.2.2.2.1=(⟨#[]⟩:ByteArray))=false:=by simpa using q0
      rw [q0',if_neg q0]
      simp only [cond_false]
      by_cases q1:c[i].2.2.2.2.1=tn
      · simp only [q1,decide_true,Bool.not_true,cond_false,Option.bind_some,if_true]
        rw [Km]
        cases Gg c c[i] with
        |none=>rfl
        |some b=>cases b<;>rfl
      simp only [q1,decide_false,Bool.not_false,cond_true,if_false,tQ l _ hl,Option.bind_some]
      by_cases q2:eE l c[i].2.2.2.2.1<0
      · simp [q2]
      have q2':decide (eE l c[i].2.2.2.2.1<0)=false:=by simpa using q2
      rw [q2',if_neg q2]
      simp only [cond_false]
      rcases lx l (eE l c[i].2.2.2.2.1) with ⟨k1,k2⟩|⟨d,k1,k2,k3,k4⟩
      · rw [k1,k2];rfl
      rw [k1,k2]
      simp only [cond_true,k3,Option.bind_some]
      by_cases q3:d.1=0
      · have q3':(d.1 !=0)=false:=by simp [q3]
        simp only [q3',cond_false,Option.bind_some,if_pos q3]
        rw [Km]
        cases Gg d.2.1.2.1 c[i] with
        |none=>rfl
        |some b=>cases b<;>rfl
      · have q3':(d.1 !=0)=true:=by simp [q3]
        simp only [q3',cond_true,if_neg q3]
        rfl) (by
      intro st
      have f1:decide ((c.length:Int)<(c.length:Int))=false:=by simp
      simp only [f1,cond_false,Option.map_some]) (),xQ]
    cases hb2:qb l (tn,(c,ck)) c with
    |none=>rfl
    |some b=>
      cases b with
      |false=>rfl
      |true=>
        simp only [if_true,Option.map_some,Option.bind_some]
        rw [EB (fun i (_:Unit)=>(i,c.map (·.2.1),())) ck (by omega) (fun (e:List ae) (_:Unit)=>if js e (c.map (·.2.1))=true then some (.inl ()) else some (.inr ((93:Int),()))) (fun _=>some ((0:Int),())) (by
          intro i hi st
          have d1:decide ((i:Int)<(ck.length:Int))=true:=by simp;omega
          have d0:decide (0≤(i:Int))=true:=by simp
          have d2:decide ((i:Int)≥0)=true:=by simp
          have gi:ck.getD i []=ck[i]:=bU hi _
          simp only [d1,d0,Bool.and_self,cond_true,Int.toNat_natCast,gi,CR,Option.bind_some,cw hi (show ck.length<9223372036854775808 by omega),d2]
          cases js ck[i] (c.map (·.2.1))<;>rfl) (by
          intro st
          have f1:decide ((ck.length:Int)<(ck.length:Int))=false:=by simp
          have f2:decide ((-1:Int)≥0)=false:=by simp
          simp only [f1,f2,cond_false,Option.map_some]) (),Ad]
        show _=Option.map _ (if (ck.all fun e=>js e (c.map (·.2.1)))=true then some 0 else some 93)
        cases ck.all fun e=>js e (c.map (·.2.1))<;>rfl
end Go.Proofs.Ytleadolkcmagfaa
end
section
set_option maxRecDepth 100000
namespace Go.Proofs.Ytleadolkcmagfaa
open Go Lv Go.Proofs Go.RowKit Go.Shelf Dl
def tS (ks:List Int) (a:Agg):Bool:=(decide (a.1≠0)&&decide ((ks.length:Int)≤a.2))||(decide (a.1=1)&&decide (ks.getD a.2.toNat 0≠2))
def E2 (v:mI) (a ks:List Int):Bool:= !decide (v.2.2.1=e0)&&(decide ((a.length:Int)≤v.2.2.2.1.1)||(decide (((ks.length-a.length:Nat):Int)≤v.2.2.2.1.2)||decide (a.getD v.2.2.2.1.1.toNat 0≠ks.getD (a.length+v.2.2.2.1.2.toNat) 0)))
def Ea (v:mI):Bool:=(v.2.2.2.2.2.2.1||v.2.2.2.2.2.2.2.isEmpty)&&(decide (1≤v.2.2.2.2.2.1.length+v.2.2.2.2.2.2.2.length)&&decide (v.2.2.2.2.2.1.length+v.2.2.2.2.2.2.2.length≤40))
noncomputable def Eb (v:mI) (a ks:List Int):Bool:= !E2 v a ks&&((v.2.2.2.2.1.isEmpty||js v.2.2.2.2.1 ks)&&(v.2.2.2.2.2.1.all (fun n=>decide (n<(ks.length:Int)))&&(v.2.2.2.2.2.2.2.all (fun a=> !tS ks a)&&Ea v)))
noncomputable def qc (l:List Dl.Def) (v:mI):Option Bool:=
 if eE l v.2.1<0 then some false else if v.2.2.1≠e0∧eE l v.2.2.1<0 then some false
 else (nM l (eE l v.2.1)).bind fun d=>(colsN l 64 d).bind fun a=>(iU l (colsN l 64) v).bind fun ks=>some (Eb v a.1 ks)
theorem tT {α R:Type} (p:α→Bool) (u q:R):∀r:List α,iP (fun (x:α) (_:Unit)=>if p x=true then (.inl ():Unit⊕R) else .inr q) (fun _=>u) r ()=if r.all p=true then u else q
 | []=>rfl
 |x::r=>by
  simp only [iP,List.all_cons]
  by_cases h:p x=true
  ·simp [h,tT p u q r]
  ·simp [h]
theorem JZ {l:List Dl.Def} {g:Dl.Def→Option (List Int×List Bool)} {v:mI} {d:Dl.Def} {a:List Int×List Bool} {ks:List Int} (h1:nM l (eE l v.2.1)=some d) (h2:g d=some a) (h3:iU l g v=some ks):a.1.length≤ks.length:=by
 unfold iU at h3
 rw [h1] at h3
 simp only [Option.bind_some,h2] at h3
 split at h3
 ·cases h3;exact Nat.le_refl _
 ·simp only [Option.bind_eq_some_iff] at h3
  obtain ⟨_,_,y,_,h⟩:=h3
  cases h;simp
theorem K3 (l : List Dl.Def) (hl : Ln l) (hl' : ∀ d ∈ l,Fit d) (vn vf vw : ByteArray) (o1 o2 : Int) (wh : List ae) (pk : List Int) (gr : Bool) (ag : List Agg) (hv : tI (vn,(vf,(vw,((o1,o2),(wh,(pk,(gr,ag)))))))) : cv.F (l,vn,vf,vw,o1,o2,wh,pk,gr,ag,()) = (qc l (vn,(vf,(vw,((o1,o2),(wh,(pk,(gr,ag)))))))).map fun x => (x,()) := by
  rw [cv.eq]
  unfold cv.B qc
  simp only [tQ l _ hl,Option.bind_some,dY]
  by_cases q1:eE l vf<0
  · simp [q1]
  have q1':decide (eE l vf<0)=false:=by simpa using q1
  rw [q1',if_neg q1]
  simp only [cond_false]
  by_cases q2:vw≠e0∧eE l vw<0
  · have e1:(!decide (vw=(⟨#[]⟩:ByteArray)))=true:=by simpa using q2.1
    have e2:decide (eE l vw<0)=true:=by simpa using q2.2
    rw [if_pos q2,e1,e2];rfl
  rw [if_neg q2]
  have hmid:∀(K:Unit⊕(Bool×Unit)→Option (Bool×Unit)),Option.bind (bif (!decide (vw=(⟨#[]⟩:ByteArray))) then (bif decide (eE l vw<0) then some (.inr (false,())) else some (.inl ())) else some (.inl ())) K=K (.inl ()):=by
    intro K
    by_cases e:vw=e0
    · have e1:(!decide (vw=(⟨#[]⟩:ByteArray)))=false:=by simpa using e
      rw [e1];rfl
    · have e1:(!decide (vw=(⟨#[]⟩:ByteArray)))=true:=by simpa using e
      have e2:decide (eE l vw<0)=false:=by simpa using fun h=>q2 ⟨e,h⟩
      rw [e1,e2];rfl
  refine (hmid _).trans ?_
  simp only []
  rcases lx l (eE l vf) with ⟨h1,h2⟩|⟨d,h1,h2,h3,h4⟩
  · rw [h1,h2];rfl
  rw [h1,h2]
  simp only [cond_true,h3,Option.bind_some]
  have hC:=D7 l hl hl' d.1 d.2.1.1 d.2.1.2.1 d.2.1.2.2 d.2.2.1 d.2.2.2.1 d.2.2.2.2.1 d.2.2.2.2.2.1.1 d.2.2.2.2.2.1.2 d.2.2.2.2.2.2.1 d.2.2.2.2.2.2.2.1 d.2.2.2.2.2.2.2.2.1 d.2.2.2.2.2.2.2.2.2 (hl' d h4)
  cases hc:colsN l 64 d with
  |none=>exact qv (hC.trans (by rw [show colsN l 64 _=none from hc];rfl))
  |some a=>
  refine (cT (a.1,a.2,()) (hC.trans (by rw [show colsN l 64 _=some a from hc];rfl))).trans ?_
  have hJ:=Iw l hl hl' vn vf vw o1 o2 wh pk gr ag
  cases hj:iU l (colsN l 64) (vn,(vf,(vw,((o1,o2),(wh,(pk,(gr,ag))))))) with
  |none=>exact qv (hJ.trans (by rw [hj];rfl))
  |some ks=>
  refine (cT (ks,()) (hJ.trans (by rw [hj];rfl))).trans ?_
  have hle:=JZ (v:=(vn,(vf,(vw,((o1,o2),(wh,(pk,(gr,ag)))))))) h1 hc hj
  have d1:(decide (0≤(a.1.length:Int))&&(decide ((a.1.length:Int)≤(ks.length:Int))&&decide ((ks.length:Int)≤(ks.length:Int))))=true:=by simp;omega
  simp only [Option.bind_some,Option.map_some]
  rw [d1]
  simp only [cond_true,Int.toNat_natCast]
  have hon:∀(K:((Bool×Unit)⊕(Bool×Unit))→Option (Bool×Unit)),Option.bind ((bif (!decide (vw=(⟨#[]⟩:ByteArray))) then
      bif (decide (0≤(0:Int))&&decide ((0:Int)<(2:Int))) then
      (bif (decide (o1≥(a.1.length:Int))) then
      some (.inl (true,()))
      else
      bif (decide (0≤(1:Int))&&decide ((1:Int)<(2:Int))) then
      (bif (decide (o2≥((ks.length-a.1.length:Nat):Int))) then
      some (.inl (true,()))
      else
      bif (decide (0≤(0:Int))&&decide ((0:Int)<(2:Int))) then
      bif (decide (0≤o1)&&decide (o1<(a.1.length:Int))) then
      let e8:Int:=(List.getD a.1 (Int.toNat o1) (0:Int))
      bif (decide (0≤(1:Int))&&decide ((1:Int)<(2:Int))) then
      bif (decide (0≤o2)&&decide (o2<((ks.length-a.1.length:Nat):Int))) then
      let e9:Int:=(List.getD ks (a.1.length+(Int.toNat o2):Nat) (0:Int))
      some (.inl ((e8 !=e9),()))
      else none
      else none
      else none
      else none)
      else none)
      else none
      else
      some (.inl (false,()))):Option ((Bool×Unit)⊕(Bool×Unit))) K=K (.inl (E2 (vn,(vf,(vw,((o1,o2),(wh,(pk,(gr,ag))))))) a.1 ks,())):=by
    intro K
    have t2:(decide (0≤(0:Int))&&decide ((0:Int)<(2:Int)))=true:=by decide
    have t3:(decide (0≤(1:Int))&&decide ((1:Int)<(2:Int)))=true:=by decide
    rw [t2,t3]
    unfold E2
    by_cases e:vw=e0
    · have e1:(!decide (vw=(⟨#[]⟩:ByteArray)))=false:=by simpa using e
      rw [e1]
      simp [e]
    have e1:(!decide (vw=(⟨#[]⟩:ByteArray)))=true:=by simpa using e
    rw [e1]
    obtain ⟨_,j1,_,j2,_⟩:isName vw=true∧0≤o1∧o1≤99∧0≤o2∧o2≤99:=by
      rcases hv.join with ⟨h,_⟩|h
      · exact absurd h e
      · exact h
    simp only [cond_true,e,decide_false,Bool.not_false,Bool.true_and]
    by_cases w1:o1≥(a.1.length:Int)
    · have w1':decide ((a.1.length:Int)≤o1)=true:=by simpa using w1
      simp [w1']
    have w1':decide (o1≥(a.1.length:Int))=false:=by simpa using w1
    have w1'':(decide (0≤o1)&&decide (o1<(a.1.length:Int)))=true:=by simp;omega
    rw [w1'',show decide ((a.1.length:Int)≤o1)=decide (o1≥(a.1.length:Int)) from rfl,w1']
    simp only [cond_false,cond_true,Bool.false_or]
    by_cases w2:o2≥((ks.length-a.1.length:Nat):Int)
    · have w2':decide (((ks.length-a.1.length:Nat):Int)≤o2)=true:=by simpa using w2
      rw [show decide (o2≥((ks.length-a.1.length:Nat):Int))=true from w2'];rfl
    have w2':decide (o2≥((ks.length-a.1.length:Nat):Int))=false:=by simpa using w2
    have w2'':(decide (0≤o2)&&decide (o2<((ks.length-a.1.length:Nat):Int)))=true:=by simp;omega
    rw [w2'',show decide (((ks.length-a.1.length:Nat):Int)≤o2)=decide (o2≥((ks.length-a.1.length:Nat):Int)) from rfl,w2']
    simp only [cond_false,cond_true,Bool.false_or,Option.bind_some,D9]
  refine (hon _).trans ?_
  unfold Eb
  cases E2 (vn,(vf,(vw,((o1,o2),(wh,(pk,(gr,ag))))))) a.1 ks with
  |true=>rfl
  |false=>
  simp only [cond_false,Bool.not_false,Bool.true_and]
  have htr:∀(K:((List Int×Unit)⊕(Bool×Unit))→Option (Bool×Unit)),Option.bind ((bif (decide ((wh.length:Int)>(0:Int))) then
      Option.bind (bQ.F (wh,ks,())) fun y11=>
      (bif (!y11.1) then
      some (.inr (false,()))
      else
      some (.inl (ks,())))
      else
      some (.inl (ks,()))):Option (((List Int)×Unit)⊕(Bool×Unit))) K=if (wh.isEmpty||js wh ks)=true then K (.inl (ks,())) else K (.inr (false,())):=by
    intro K
    rw [CR]
    cases wh with
    |nil=>rfl
    |cons x r=>
      have:decide ((((x::r).length:Nat):Int)>(0:Int))=true:=by simp
      rw [this]
      cases js (x::r) ks<;>rfl
  refine (htr _).trans ?_
  by_cases ht:(wh.isEmpty||js wh ks)=true
  · rw [if_pos ht,ht]
    simp only [Bool.true_and]
    have hp:pk.length≤40:=hv.most
    have ha:ag.length≤40:=hv.most2
    refine (sQ (fun i (_:Unit)=>(i,())) pk (fun _ _=>True) (fun (n:Int) (_:Unit)=>if decide (n<(ks.length:Int))=true then .inl () else .inr (.inr (false,()))) (fun _=> .inl ()) (by
      intro i hi st _
      have d1:decide ((i:Int)<(pk.length:Int))=true:=by simp;omega
      have d0:decide (0≤(i:Int))=true:=by simp
      refine ⟨?_,fun _ _=>trivial⟩
      simp only [d1,d0,Bool.and_self,cond_true,Int.toNat_natCast,bU hi,cw hi (show pk.length<9223372036854775808 by omega)]
      by_cases e:pk[i]<(ks.length:Int)
      · have e1:decide (pk[i]≥(ks.length:Int))=false:=by simp;omega
        simp [e,e1]
      · have e1:decide (pk[i]≥(ks.length:Int))=true:=by simp;omega
        simp [e,e1]) (by
      intro st _
      have f1:decide ((pk.length:Int)<(pk.length:Int))=false:=by simp
      simp only [f1,cond_false]) () trivial).trans ?_
    rw [tT]
    cases pk.all (fun n=>decide (n<(ks.length:Int))) with
    |false=>rfl
    |true=>
    simp only [if_true,Bool.true_and]
    refine (sQ (fun i (_:Unit)=>(i,())) ag (fun _ _=>True) (fun (x:Agg) (_:Unit)=>if (!tS ks x)=true then .inl () else .inr (.inr (false,()))) (fun _=> .inl ()) (by
      intro i hi st _
      have d1:decide ((i:Int)<(ag.length:Int))=true:=by simp;omega
      have d0:decide (0≤(i:Int))=true:=by simp
      have gi:ag.getD i ei.z=ag[i]:=bU hi _
      have hA:=(hv.aggs _ (List.getElem_mem hi)).2.2.1
      refine ⟨?_,fun _ _=>trivial⟩
      simp only [d1,d0,Bool.and_self,cond_true,Int.toNat_natCast,gi,cw hi (show ag.length<9223372036854775808 by omega),D9,b_eq]
      unfold tS
      by_cases z0:ag[i].1=0
      · have z1:¬ag[i].1=1:=by omega
        simp [z0]
      · by_cases w:ag[i].2≥(ks.length:Int)
        · have w':decide ((ks.length:Int)≤ag[i].2)=true:=by simpa using w
          simp [z0,w']
        · have w':decide ((ks.length:Int)≤ag[i].2)=false:=by simpa using w
          have w2:decide (ag[i].2≥(ks.length:Int))=false:=w'
          have w3:(decide (0≤ag[i].2)&&decide (ag[i].2<(ks.length:Int)))=true:=by simp;omega
          rw [w3,w']
          by_cases z1:ag[i].1=1
          · by_cases z2:ks.getD ag[i].2.toNat 0=2<;>simp [z1,z2,-List.getD_eq_getElem?_getD]
          · simp [z0,z1]) (by
      intro st _
      have f1:decide ((ag.length:Int)<(ag.length:Int))=false:=by simp
      simp only [f1,cond_false]) () trivial).trans ?_
    rw [tT]
    cases ag.all (fun x=> !tS ks x) with
    |false=>rfl
    |true=>
    simp only [if_true,Bool.true_and]
    have w:IntKind.i64.wrap ((pk.length:Int)+(ag.length:Int))=((pk.length+ag.length:Nat):Int):=by rw [dl]<;>omega
    rw [w]
    unfold Ea
    have g1:decide (((pk.length+ag.length:Nat):Int)≥1)=decide (1≤pk.length+ag.length):=by rw [decide_eq_decide];omega
    have g2:decide (((pk.length+ag.length:Nat):Int)≤40)=decide (pk.length+ag.length≤40):=by rw [decide_eq_decide];omega
    have g3:((ag.length:Int)==0)=ag.isEmpty:=by cases ag<;>simp;omega
    rw [g1,g2,g3]
    simp only []
    generalize decide (1≤pk.length+ag.length)=x1,decide (pk.length+ag.length≤40)=x2,ag.isEmpty=x3
    cases gr<;>cases x1<;>cases x3<;>rfl
  · rw [if_neg ht]
    simp only [Bool.not_eq_true] at ht
    rw [ht];rfl
end Go.Proofs.Ytleadolkcmagfaa
end
section
set_option maxRecDepth 100000
namespace Go.Proofs.Ytleadolkcmagfaa
open Go Lv Go.Proofs Go.RowKit Go.Shelf Dl
theorem xR {d:Dl.Def} (h:fo d≠ []):mA d:=by
 have h1:=HX h
 rcases CE (fo d) with h2|h2|⟨d',h2,h3⟩
 ·rw [h1] at h2;injection h2 with _ h;cases h
 ·rw [h1] at h2;injection h2 with _ h;cases h
 ·rw [h1] at h2;injection h2 with h _;rw [h];exact h3
theorem J0 {d:Dl.Def} (h:Fit d):Fit (0,(d.2.1,xi)):=
 ⟨h.cols,h.checks,(by decide:(0:Nat)≤400),(by decide:(0:Nat)≤400),h.each,⟨(by decide:(0:Nat)≤120),fun x hx=>by cases hx⟩,h.names,h.n1,(by decide:(0:Nat)≤100),(by decide:(0:Nat)≤100),(by decide:(0:Nat)≤100),(⟨by decide,by decide⟩:I64 0),(⟨by decide,by decide⟩:I64 0),(fun n hn=>by cases hn),(fun a ha=>by cases ha)⟩
noncomputable def iI (l:List Dl.Def) (d:Dl.Def):Option Int:=
 if fo d=[] then some 1 else if 20≤l.length then some 95 else if 0≤eE l (nameP d) then some 90
 else if d.1=0 then ou l d.2.1 else (qc l d.2.2).map fun b=>if b=true then 0 else 94
theorem A6 {d:Dl.Def} (h:mA d) (hk:d.1≠0):tI d.2.2:=by
 cases h with
 |tab _=>exact absurd rfl hk
 |view h=>exact h
theorem xS {d:Dl.Def} (h:mA d) (hk:d.1=0):eH d.2.1:=by
 cases h with
 |tab h=>exact h
 |view _=>cases hk
theorem Kn (l:List Dl.Def) (hl:Ln l) (hl':∀d∈l,Fit d) (k:Int) (tn:ByteArray) (c:List Col) (ck:List (List ae)) (vn vf vw:ByteArray) (o1 o2:Int) (wh:List ae) (pk:List Int) (gr:Bool) (ag:List Agg) (h:Fit (k,((tn,(c,ck)),(vn,(vf,(vw,((o1,o2),(wh,(pk,(gr,ag)))))))))):cJ.F (l,k,tn,c,ck,vn,vf,vw,o1,o2,wh,pk,gr,ag,())=(iI l (k,((tn,(c,ck)),(vn,(vf,(vw,((o1,o2),(wh,(pk,(gr,ag)))))))))).map fun x=>(x,()):=by
 rw [cJ.eq]
 unfold cJ.B iI
 simp only [May_s k tn c ck vn vf vw o1 o2 wh pk gr ag h,Option.bind_some,Bool.not_not]
 by_cases q1:fo (k,((tn,(c,ck)),(vn,(vf,(vw,((o1,o2),(wh,(pk,(gr,ag)))))))))=[]
 ·simp [q1]
 have q1':decide (fo (k,((tn,(c,ck)),(vn,(vf,(vw,((o1,o2),(wh,(pk,(gr,ag)))))))))=[])=false:=by simpa using q1
 rw [q1',if_neg q1]
 simp only [cond_false]
 by_cases q2:20≤l.length
 ·have:decide ((l.length:Int)≥20)=true:=by simp;omega
  rw [this,if_pos q2];rfl
 have:decide ((l.length:Int)≥20)=false:=by simp;omega
 rw [this,if_neg q2]
 simp only [cond_false,EY,Option.bind_some,tQ l _ hl]
 by_cases q3:0≤eE l (nameP (k,((tn,(c,ck)),(vn,(vf,(vw,((o1,o2),(wh,(pk,(gr,ag))))))))))
 ·have:decide (eE l (nameP (k,((tn,(c,ck)),(vn,(vf,(vw,((o1,o2),(wh,(pk,(gr,ag))))))))))≥0)=true:=by simpa using q3
  rw [this,if_pos q3];rfl
 have:decide (eE l (nameP (k,((tn,(c,ck)),(vn,(vf,(vw,((o1,o2),(wh,(pk,(gr,ag))))))))))≥0)=false:=by simpa using q3
 rw [this,if_neg q3]
 have hd:=xR q1
 simp only [cond_false,b_eq]
 by_cases q4:k=0
 ·simp only [q4,decide_true,cond_true,if_true]
  rw [Iz l hl hl' tn c ck h.cols h.checks (J0 h)]
  cases ou l (tn,(c,ck))<;>rfl
 ·simp only [q4,decide_false,cond_false,if_false]
  rw [K3 l hl hl' vn vf vw o1 o2 wh pk gr ag (A6 hd q4)]
  cases qc l (vn,(vf,(vw,((o1,o2),(wh,(pk,(gr,ag))))))) with
  |none=>rfl
  |some b=>cases b<;>rfl
def Ae {α R : Type} (step : Nat → α → Option (Unit ⊕ R)) (fin : Option R) : List α → Nat → Option R
  | [],_=>fin
  |a::r,i=>match step i a with
    |some (.inl _)=>Ae step fin r (i+1)
    |some (.inr q)=>some q
    |none=>none
theorem K4 {α S R : Type} {body : S → Option (S ⊕ R)} (mk : Int → S) (l : List α) (step : Nat → α → Option (Unit ⊕ R)) (fin : Option R)
    (h:∀(i:Nat) (hi:i<l.length),body (mk i)=match step i l[i] with|some (.inl _)=>some (.inl (mk (i+1:Nat)))|some (.inr q)=>some (.inr q)|none=>none)
    (h':body (mk l.length)=fin.map .inr):bE body (mk 0)=Ae step fin l 0:=by
  have go:∀(k i:Nat),l.length-i=k→i≤l.length→bE body (mk i)=Ae step fin (l.drop i) i:=by
    intro k
    induction k with
    |zero=>
      intro i h1 h2
      have:i=l.length:=by omega
      subst this
      rw [ej,h',List.drop_length]
      cases fin<;>rfl
    |succ k ih=>
      intro i h1 h2
      have hi:i<l.length:=by omega
      rw [ej,h i hi,List.drop_eq_getElem_cons hi]
      simp only [Ae]
      cases step i l[i] with
      |none=>rfl
      |some q=>cases q with
        |inl _=>exact ih (i+1) (by omega) (by omega)
        |inr _=>rfl
  exact go l.length 0 (by omega) (by omega)
noncomputable def Gh (l:List Dl.Def):List Dl.Def→Nat→Option Bool
 | [],_=>some true
 |d::r,i=>(iI (l.take i) d).bind fun e=>if e=0 then Gh l r (i+1) else some false
noncomputable def yl (l:List Dl.Def):Option Bool:=Gh l l 0
theorem CT (l : List Dl.Def) (hl : Ln l) (hl' : ∀ d ∈ l,Fit d) : cn.F (l,()) = (yl l).map fun x => (x,()) := by
  rw [cn.eq]
  unfold cn.B
  have hf:∀(r:List Dl.Def) (i:Nat),Ae (fun (i:Nat) (d:Dl.Def)=>(iI (l.take i) d).map fun e=>if e=0 then (.inl ():Unit⊕(Bool×Unit)) else .inr (false,())) (some (true,())) r i=(Gh l r i).map fun x=>(x,()):=by
    intro r
    induction r with
    |nil=>intro i;rfl
    |cons d r ih=>
      intro i
      simp only [Ae,Gh]
      cases iI (l.take i) d with
      |none=>rfl
      |some e=>
        by_cases he:e=0
        · simp [he,ih]
        · simp [he]
  refine (K4 (fun i=>(i,())) l (fun (i:Nat) (d:Dl.Def)=>(iI (l.take i) d).map fun e=>if e=0 then .inl () else .inr (false,())) (some (true,())) ?_ ?_).trans (hf l 0)
  · intro i hi
    have hl0:l.length<1000000000000000:=hl
    have d1:decide ((i:Int)<(l.length:Int))=true:=by simp;omega
    have d0:decide (0≤(i:Int))=true:=by simp
    have d2:(decide (0≤(0:Int))&&(true&&decide ((i:Int)≤(l.length:Int))))=true:=by simp;omega
    have gi:l.getD i fB.z=l[i]:=bU hi _
    have hz:=Kn (l.take i) (by show (l.take i).length<_;rw [List.length_take];omega) (fun d hd=>hl' d (List.mem_of_mem_take hd)) l[i].1 l[i].2.1.1 l[i].2.1.2.1 l[i].2.1.2.2 l[i].2.2.1 l[i].2.2.2.1 l[i].2.2.2.2.1 l[i].2.2.2.2.2.1.1 l[i].2.2.2.2.2.1.2 l[i].2.2.2.2.2.2.1 l[i].2.2.2.2.2.2.2.1 l[i].2.2.2.2.2.2.2.2.1 l[i].2.2.2.2.2.2.2.2.2 (hl' _ (List.getElem_mem hi))
    simp only [d1,d0,d2,Bool.and_self,cond_true,Int.toNat_natCast,Int.toNat_zero,List.drop_zero,gi,cw hi (show l.length<9223372036854775808 by omega)]
    cases ha:iI (l.take i) l[i] with
    |none=>exact qv (hz.trans (by rw [show iI (l.take i) _=none from ha];rfl))
    |some e=>
      refine (cT (e,()) (hz.trans (by rw [show iI (l.take i) _=some e from ha];rfl))).trans ?_
      by_cases he:e=0
      · simp [he]
      · simp [he,D9]
  · have f1:decide ((l.length:Int)<(l.length:Int))=false:=by simp
    simp only [f1,cond_false,Option.map_some]
theorem IA (l:List Dl.Def) (hl:Ln l) (hl':∀d∈l,Fit d) (k:Int) (tn:ByteArray) (c:List Col) (ck:List (List ae)) (vn vf vw:ByteArray) (o1 o2:Int) (wh:List ae) (pk:List Int) (gr:Bool) (ag:List Agg) (h:Fit (k,((tn,(c,ck)),(vn,(vf,(vw,((o1,o2),(wh,(pk,(gr,ag)))))))))):ch.F (l,k,tn,c,ck,vn,vf,vw,o1,o2,wh,pk,gr,ag,())=
 (yl l).bind fun m=>if m=true then (iI l (k,((tn,(c,ck)),(vn,(vf,(vw,((o1,o2),(wh,(pk,(gr,ag)))))))))).bind fun e=>if e=0 then some (0,l++ [(k,((tn,(c,ck)),(vn,(vf,(vw,((o1,o2),(wh,(pk,(gr,ag)))))))))],()) else some (e,[],()) else some (1,[],()):=by
 rw [ch.eq]
 unfold ch.B
 simp only [CT l hl hl',Kn l hl hl' k tn c ck vn vf vw o1 o2 wh pk gr ag h]
 cases yl l with
 |none=>rfl
 |some m=>
 cases m with
 |false=>rfl
 |true=>
 simp only [Option.map_some,Option.bind_some,Bool.not_true,cond_false,if_true]
 cases ha:iI l (k,((tn,(c,ck)),(vn,(vf,(vw,((o1,o2),(wh,(pk,(gr,ag))))))))) with
 |none=>rfl
 |some e=>
 simp only [Option.map_some,Option.bind_some,D9]
 by_cases he:e=0
 ·subst he
  have hlen:l.length<20:=by
   unfold iI at ha
   split at ha
   ·cases ha
   split at ha
   ·cases ha
   omega
  simp only [ne_eq,not_true_eq_false,decide_false,cond_false,if_true]
  rw [s8 l (by omega) (fun x=>some x) (fun i o=>(i,o,())) (fun o=>some (.inl (o,()))) (by
   intro i hi o ho
   have d1:decide ((i:Int)<(l.length:Int))=true:=by simp;omega
   have d0:decide (0≤(i:Int))=true:=by simp
   have gi:l.getD i fB.z=l[i]:=bU hi _
   have b1:∀z:dX,Nat.ble (o.length+([z]:List dX).length) 651562446089=true:=fun z=>Nat.ble_eq_true_of_le (by simp;omega)
   simp only [d1,d0,Bool.and_self,cond_true,Int.toNat_natCast,gi,CQ l[i].1 l[i].2.1.1 l[i].2.1.2.1 l[i].2.1.2.2 l[i].2.2.1 l[i].2.2.2.1 l[i].2.2.2.2.1 l[i].2.2.2.2.2.1.1 l[i].2.2.2.2.2.1.2 l[i].2.2.2.2.2.2.1 l[i].2.2.2.2.2.2.2.1 l[i].2.2.2.2.2.2.2.2.1 l[i].2.2.2.2.2.2.2.2.2 (hl' _ (List.getElem_mem hi)),Option.bind_some,b1,cw hi (show l.length<9223372036854775808 by omega),Option.map_some]) (by
   intro o ho
   have f1:decide ((l.length:Int)<(l.length:Int))=false:=by simp
   simp only [f1,cond_false,Option.map_some]) [] (by simp),xN]
  have b1:∀z:dX,Nat.ble (l.length+([z]:List dX).length) 651562446089=true:=fun z=>Nat.ble_eq_true_of_le (by simp;omega)
  simp only [List.map_id',Option.bind_some,List.nil_append,CQ k tn c ck vn vf vw o1 o2 wh pk gr ag h,b1,cond_true]
 ·simp [he]
theorem E3 (l:List Dl.Def) (hl:Ln l) (hl':∀d∈l,Fit d) (nm:ByteArray):bK.F (l,nm,())=
 if eE l nm<0 then some (false,[],[],()) else (yl l).bind fun m=>if m=true then (nM l (eE l nm)).bind fun d=>(colsN l 64 d).map fun x=>(true,x.1,x.2,()) else some (false,[],[],()):=by
 rw [bK.eq]
 unfold bK.B
 simp only [tQ l _ hl,CT l hl hl',Option.bind_some]
 by_cases q:eE l nm<0
 ·simp [q]
 have q':decide (eE l nm<0)=false:=by simpa using q
 rw [q',if_neg q]
 cases yl l with
 |none=>rfl
 |some m=>
 cases m with
 |false=>rfl
 |true=>
 simp only [Option.map_some,Option.bind_some,Bool.not_true,cond_false,if_true]
 rcases lx l (eE l nm) with ⟨h1,h2⟩|⟨d,h1,h2,h3,h4⟩
 ·rw [h1,h2];rfl
 rw [h1,h2]
 simp only [cond_true,h3,Option.bind_some]
 have hC:=D7 l hl hl' d.1 d.2.1.1 d.2.1.2.1 d.2.1.2.2 d.2.2.1 d.2.2.2.1 d.2.2.2.2.1 d.2.2.2.2.2.1.1 d.2.2.2.2.2.1.2 d.2.2.2.2.2.2.1 d.2.2.2.2.2.2.2.1 d.2.2.2.2.2.2.2.2.1 d.2.2.2.2.2.2.2.2.2 (hl' d h4)
 cases hc:colsN l 64 d with
 |none=>exact qv (hC.trans (by rw [show colsN l 64 _=none from hc];rfl))
 |some a=>exact cT (a.1,a.2,()) (hC.trans (by rw [show colsN l 64 _=some a from hc];rfl))
end Go.Proofs.Ytleadolkcmagfaa
end
section
set_option maxRecDepth 100000
namespace Go.Proofs.Ytleadolkcmagfaa
open Go Lv Go.Proofs Go.RowKit Go.Shelf Dl
theorem Af (nm : ByteArray) : ∀ (l : List Dl.Def) (i : Nat),(lv nm l i = -1 ∧ ∀ d ∈ l,nameP d ≠ nm) ∨ ∃ (j : Nat) (hj : j < l.length),lv nm l i = ((i + j : Nat) : Int) ∧ nameP l[j] = nm
  | [],i=> .inl ⟨rfl,by simp⟩
  | d :: r,i => by
    simp only [lv]
    by_cases h:nameP d=nm
    · exact .inr ⟨0,by simp,by rw [if_pos h];rfl,h⟩
    · rw [if_neg h]
      rcases Af nm r (i+1) with ⟨h1,h2⟩|⟨j,hj,h1,h2⟩
      · refine .inl ⟨h1,fun x hx=>?_⟩
        rcases List.mem_cons.1 hx with rfl|hx
        · exact h
        · exact h2 x hx
      · exact .inr ⟨j+1,by simp;omega,by rw [h1];congr 1;omega,by simpa using h2⟩
theorem xT (nm:ByteArray):∀(a b:List Dl.Def) (i:Nat),lv nm (a++b) i=if lv nm a i<0 then lv nm b (i+a.length) else lv nm a i
  | [],b,i=>by simp [lv]
  | d :: r,b,i => by
    by_cases h:nameP d=nm
    · have e1:lv nm (d::r) i=(i:Int):=by simp [lv,h]
      have e2:lv nm (d::r++b) i=(i:Int):=by simp [lv,h]
      rw [e1,e2,if_neg (by omega)]
    · have e1:lv nm (d::r) i=lv nm r (i+1):=by simp [lv,h]
      have e2:lv nm (d::r++b) i=lv nm (r++b) (i+1):=by simp [lv,h]
      rw [e1,e2,xT nm r b (i+1)]
      simp only [List.length_cons,Nat.add_assoc,Nat.add_comm 1]
theorem xU {l:List Dl.Def} {nm:ByteArray} (h:0≤eE l nm):∃(j:Nat) (hj:j<l.length),eE l nm=j∧nameP l[j]=nm:=by
 rcases Af nm l 0 with ⟨h1,_⟩|⟨j,hj,h1,h2⟩
 ·unfold eE at h;omega
 ·exact ⟨j,hj,by unfold eE;rw [h1];congr 1;omega,h2⟩
theorem CU {a:List Dl.Def} {nm:ByteArray} (b:List Dl.Def) (h:0≤eE a nm):eE (a++b) nm=eE a nm:=by
 unfold eE at*
 rw [xT,if_neg (by omega)]
theorem s9 {l:List Dl.Def} {j:Nat} (hj:j<l.length):nM l (j:Int)=some l[j]:=by
 unfold nM
 rw [if_pos (by omega),Int.toNat_natCast,bU hj]
theorem xV {l:List Dl.Def} {i:Int} {d:Dl.Def} (h:nM l i=some d):∃(j:Nat) (hj:j<l.length),i=j∧d=l[j]:=by
 unfold nM at h
 split at h
 ·rename_i hi
  have hj:i.toNat<l.length:=by omega
  cases h
  exact ⟨i.toNat,hj,by omega,bU hj _⟩
 ·cases h
theorem IB {a:List Dl.Def} {i:Int} {d:Dl.Def} (b:List Dl.Def) (h:nM a i=some d):nM (a++b) i=some d:=by
 obtain ⟨j,hj,rfl,rfl⟩:=xV h
 rw [s9 (by simp;omega),List.getElem_append_left hj]
theorem ta {a:List Dl.Def} {nm:ByteArray} {d:Dl.Def} (b:List Dl.Def) (h:nM a (eE a nm)=some d):nM (a++b) (eE (a++b) nm)=some d:=by
 obtain ⟨j,hj,h1,rfl⟩:=xV h
 rw [CU b (by omega)]
 exact IB b h
theorem rQ {a:List Dl.Def} (b:List Dl.Def) {g g':Dl.Def→Option (List Int×List Bool)} (hg:∀d r,g d=some r→g' d=some r) {v:mI} {k:List Int} (h:iU a g v=some k):iU (a++b) g' v=some k:=by
 unfold iU at h ⊢
 simp only [Option.bind_eq_some_iff] at h
 obtain ⟨d,h1,x,h2,h3⟩:=h
 rw [ta b h1]
 simp only [Option.bind_some,hg d x h2]
 by_cases e:v.2.2.1=e0
 ·rw [if_pos e] at h3 ⊢;exact h3
 ·rw [if_neg e] at h3 ⊢
  simp only [Option.bind_eq_some_iff] at h3
  obtain ⟨d',k1,y,k2,k3⟩:=h3
  rw [ta b k1]
  simp only [Option.bind_some,hg d' y k2]
  exact k3
theorem Ec {f f':mI→Option (List Int)} (hf:∀v k,f v=some k→f' v=some k) {d:Dl.Def} {r:List Int×List Bool} (h:mE f d=some r):mE f' d=some r:=by
 unfold mE at h ⊢
 by_cases hk:d.1=0
 ·rw [if_pos hk] at h ⊢;exact h
 ·rw [if_neg hk] at h ⊢
  obtain ⟨l,h1,h2⟩:=Option.bind_eq_some_iff.1 h
  rw [hf _ _ h1]
  exact h2
theorem rR {a:List Dl.Def} (b:List Dl.Def):∀{n m:Nat} {d:Dl.Def} {r:List Int×List Bool},colsN a n d=some r→n≤m→colsN (a++b) m d=some r
 |0,_,_,_,h,_=>by cases h
 |n+1,0,_,_,_,h=>by omega
 |n+1,m+1,d,r,h,hm=>Ec (f:=iU a (colsN a n)) (fun v k hk=>rQ b (fun d r hd=>rR b hd (by omega)) hk) h
theorem rS {a:List Dl.Def} {n m:Nat} {d:Dl.Def} {r:List Int×List Bool} (h:colsN a n d=some r) (hm:n≤m):colsN a m d=some r:=by
 have:=rR [] h hm
 rwa [List.append_nil] at this
def ly (l:List Dl.Def):Prop:=∀(i:Nat) (h:i<l.length),iI (l.take i) l[i]=some 0
structure Add0 (p:List Dl.Def) (d:Dl.Def):Prop where
 def_ok:mA d
 many:p.length<20
 new:eE p (nameP d)<0
 tab:d.1=0→ou p d.2.1=some 0
 view:d.1≠0→qc p d.2.2=some true
theorem Gi {p:List Dl.Def} {d:Dl.Def} (h:iI p d=some 0):Add0 p d:=by
 unfold iI at h
 by_cases q1:fo d=[]
 ·rw [if_pos q1] at h;cases h
 rw [if_neg q1] at h
 by_cases q2:20≤p.length
 ·rw [if_pos q2] at h;cases h
 rw [if_neg q2] at h
 by_cases q3:0≤eE p (nameP d)
 ·rw [if_pos q3] at h;cases h
 rw [if_neg q3] at h
 refine ⟨xR q1,by omega,by omega,fun e=>?_,fun e=>?_⟩
 ·rw [if_pos e] at h;exact h
 ·rw [if_neg e] at h
  cases hv:qc p d.2.2 with
  |none=>rw [hv] at h;cases h
  |some b=>rw [hv] at h;cases b with
   |true=>rfl
   |false=>cases h
structure View1 (p:List Dl.Def) (v:mI) (ks:List Int):Prop where
 fr:0≤eE p v.2.1
 wi:v.2.2.1=e0∨0≤eE p v.2.2.1
 jn:iU p (colsN p 64) v=some ks
 pick:∀n∈v.2.2.2.2.2.1,n<(ks.length:Int)
 aggs:∀a∈v.2.2.2.2.2.2.2,tS ks a=false
 many:1≤v.2.2.2.2.2.1.length+v.2.2.2.2.2.2.2.length∧v.2.2.2.2.2.1.length+v.2.2.2.2.2.2.2.length≤40
theorem Ko {p:List Dl.Def} {v:mI} (h:qc p v=some true):∃ks,View1 p v ks:=by
 unfold qc at h
 by_cases q1:eE p v.2.1<0
 ·rw [if_pos q1] at h;cases h
 rw [if_neg q1] at h
 by_cases q2:v.2.2.1≠e0∧eE p v.2.2.1<0
 ·rw [if_pos q2] at h;cases h
 rw [if_neg q2] at h
 simp only [Option.bind_eq_some_iff] at h
 obtain ⟨d,_,a,_,ks,h3,h4⟩:=h
 injection h4 with h4
 simp only [Eb,Ea,Bool.and_eq_true,decide_eq_true_eq,List.all_eq_true,Bool.not_eq_true'] at h4
 obtain ⟨_,_,hp,ha,_,hm⟩:=h4
 refine ⟨ks,by omega,?_,h3,hp,ha,hm⟩
 by_cases e:v.2.2.1=e0
 ·exact .inl e
 ·exact .inr (by
   by_cases q:eE p v.2.2.1<0
   ·exact absurd ⟨e,q⟩ q2
   ·omega)
theorem K5 {p:List Dl.Def} {t:Tab} (h:ou p t=some 0):ot t.2.1 t.2.1 0=true∧qb p t t.2.1=some true:=by
 unfold ou at h
 by_cases q1:ot t.2.1 t.2.1 0=true
 ·rw [if_pos q1] at h
  simp only [Option.bind_eq_some_iff] at h
  obtain ⟨b,h1,h2⟩:=h
  cases b with
  |true=>exact ⟨q1,h1⟩
  |false=>cases h2
 ·rw [if_neg q1] at h;cases h
theorem J1 {l:List Dl.Def} (h:ly l) {i:Nat} (hi:i<l.length):eE l (nameP l[i])=i:=by
 have hn:=(Gi (h i hi)).new
 have:l=l.take i++l[i]::l.drop (i+1):=by rw [←List.drop_eq_getElem_cons hi,List.take_append_drop]
 have e:eE l (nameP l[i])=eE (l.take i++l[i]::l.drop (i+1)) (nameP l[i]):=by rw [←this]
 rw [e]
 unfold eE at*
 rw [xT,if_pos hn]
 simp only [lv,if_pos,List.length_take,Nat.zero_add]
 rw [Nat.min_eq_left (by omega)]
theorem Ed {l:List Dl.Def} (h:ly l):∀d∈l,mA d:=fun d hd=>by
 obtain ⟨i,hi,rfl⟩:=List.getElem_of_mem hd
 exact (Gi (h i hi)).def_ok
theorem qw {l:List Dl.Def} (h:ly l):l.length≤20:=by
 by_cases e:l.length=0
 ·omega
 ·have:=(Gi (h (l.length-1) (by omega))).many
  rw [List.length_take] at this
  omega
theorem xW (l:List Dl.Def) (i:Nat):l.take i++l.drop i=l:=List.take_append_drop i l
theorem J2 {l : List Dl.Def} (h : ly l) : ∀ (i : Nat) (hi : i < l.length),∃ r,colsN l (i + 1) l[i] = some r := by
  intro i
  induction i using Nat.strongRecOn with
  | ind i ih =>
    intro hi
    have A:=Gi (h i hi)
    have hlt:=qw h
    show ∃r,mE (iU l (colsN l i)) l[i]=some r
    unfold mE
    by_cases hk:l[i].1=0
    · rw [if_pos hk];exact ⟨_,rfl⟩
    rw [if_neg hk]
    obtain ⟨ks,V⟩:=Ko (A.view hk)
    have hv:=A6 A.def_ok hk
    have hj:∃K,iU l (colsN l i) l[i].2.2=some K:=by
      have get:∀nm,0≤eE (l.take i) nm→∃d x,nM l (eE l nm)=some d∧colsN l i d=some x:=fun nm hf=>by
        obtain ⟨j,hj,h1,_⟩:=xU hf
        have hj':j<i:=by rw [List.length_take] at hj;omega
        have e:=CU (l.drop i) hf
        rw [xW] at e
        obtain ⟨x,hx⟩:=ih j hj' (by omega)
        exact ⟨l[j],x,by rw [e,h1];exact s9 (by omega),rS hx (by omega)⟩
      unfold iU
      obtain ⟨d,x,h1,h2⟩:=get _ V.fr
      rw [h1]
      simp only [Option.bind_some,h2]
      by_cases e:l[i].2.2.2.2.1=e0
      · exact ⟨x.1,by rw [if_pos e]⟩
      · rw [if_neg e]
        obtain ⟨d',y,k1,k2⟩:=get _ (V.wi.resolve_left e)
        rw [k1]
        simp only [Option.bind_some,k2]
        exact ⟨_,rfl⟩
    obtain ⟨K,hK⟩:=hj
    have e1:=rQ (l.drop i) (g':=colsN l 64) (fun d r hd=>by
      have:=rR (l.drop i) hd (Nat.le_refl 64)
      rwa [xW] at this) V.jn
    rw [xW] at e1
    have e2:=rQ [] (g':=colsN l 64) (fun d r hd=>rS hd (by omega)) hK
    rw [List.append_nil,e1] at e2
    cases e2
    rw [hK]
    simp only [Option.bind_some]
    obtain ⟨a,ha⟩:=tR (f:=atI ks) (l:=l[i].2.2.2.2.2.2.2.1) fun n hn=>by
      have:=V.pick n hn
      have:=hv.pick n hn
      exact ⟨_,by unfold atI;rw [if_pos (by omega)]⟩
    obtain ⟨b,hb⟩:=tR (f:=An ks) (l:=l[i].2.2.2.2.2.2.2.2.2) fun x hx=>by
      have h1:=V.aggs x hx
      have h2:=hv.aggs x hx
      unfold An
      by_cases e:x.1=2∨x.1=3
      · rw [if_pos e]
        unfold tS at h1
        simp only [Bool.or_eq_false_iff,Bool.and_eq_false_iff,decide_eq_false_iff_not] at h1
        have h3:=h2.2.2.1
        exact ⟨_,by unfold atI;rw [if_pos (by omega)]⟩
      · rw [if_neg e];exact ⟨_,rfl⟩
    rw [ha]
    simp only [Option.bind_some,hb]
    exact ⟨_,rfl⟩
theorem xX {l : List Dl.Def} (hl : ∀ d ∈ l,mA d) : ∀ {n : Nat} {d : Dl.Def} {r : List Int × List Bool},mA d → colsN l n d = some r → ∀ k ∈ r.1,1 ≤ k ∧ k ≤ 3
  |0,_,_,_,h=>by cases h
  | n + 1,d,r,hd,h => by
    have h:mE (iU l (colsN l n)) d=some r:=h
    unfold mE at h
    by_cases hk:d.1=0
    · rw [if_pos hk] at h
      cases h
      intro k hk'
      obtain ⟨c,hc,rfl⟩:=List.mem_map.1 hk'
      have:=(xS hd hk).cols c hc
      exact ⟨this.2.1,this.2.2.1⟩
    rw [if_neg hk] at h
    simp only [Option.bind_eq_some_iff] at h
    obtain ⟨ks,h1,a,h2,b,h3,h4⟩:=h
    have gm:∀{i:Int} {d:Dl.Def},nM l i=some d→mA d:=fun hg=>by
      obtain ⟨j,hj,_,rfl⟩:=xV hg
      exact hl _ (List.getElem_mem hj)
    have hks:∀k∈ks,1≤k∧k≤3:=by
      unfold iU at h1
      simp only [Option.bind_eq_some_iff] at h1
      obtain ⟨d1,g1,x,g2,g3⟩:=h1
      have hx:=xX hl (gm g1) g2
      by_cases e:d.2.2.2.2.1=e0
      · rw [if_pos e] at g3;cases g3;exact hx
      · rw [if_neg e] at g3
        simp only [Option.bind_eq_some_iff] at g3
        obtain ⟨d2,k1,y,k2,k3⟩:=g3
        have hy:=xX hl (gm k1) k2
        cases k3
        intro k hk
        rcases List.mem_append.1 hk with hk|hk
        · exact hx k hk
        · exact hy k hk
    have hat:∀{n:Int} {k:Int},atI ks n=some k→1≤k∧k≤3:=fun {n k} ha=>by
      unfold atI at ha
      split at ha
      · rename_i hn
        have hn':n.toNat<ks.length:=by omega
        rw [bU hn'] at ha
        cases ha
        exact hks _ (List.getElem_mem hn')
      · cases ha
    cases h4
    intro k hk
    rcases List.mem_append.1 hk with hk|hk
    · obtain ⟨n,_,hn⟩:=xM h2 k hk
      exact hat hn
    · obtain ⟨n,_,hn⟩:=xM h3 k hk
      unfold An at hn
      split at hn
      · exact hat hn
      · cases hn;omega
structure A7 (l:List Dl.Def) (d:Dl.Def) (r:List Int×List Bool):Prop where
 is:colsN l 64 d=some r
 len:r.2.length=r.1.length
 some:1≤r.1.length
 most:r.1.length≤40
 kinds:∀k∈r.1,1≤k∧k≤3
 tab:d.1=0→r=(d.2.1.2.1.map (·.2.1),d.2.1.2.1.map (·.2.2.1))
 view:d.1≠0→r.1.length=d.2.2.2.2.2.2.2.1.length+d.2.2.2.2.2.2.2.2.2.length
theorem xY {l:List Dl.Def} (h:ly l) (i:Nat) (hi:i<l.length):∃r,A7 l l[i] r:=by
 obtain ⟨r,hr⟩:=J2 h i hi
 have hlen:=qw h
 have A:=Gi (h i hi)
 have hr':=rS hr (show i+1≤64 by omega)
 have hK:=xX (Ed h) A.def_ok hr
 have hr:mE (iU l (colsN l i)) l[i]=some r:=hr
 unfold mE at hr
 by_cases hk:l[i].1=0
 ·rw [if_pos hk] at hr
  cases hr
  have T:=xS A.def_ok hk
  exact ⟨_,hr',by simp,by simpa using T.some,by simpa using T.most,hK,fun _=>rfl,fun e=>absurd hk e⟩
 ·rw [if_neg hk] at hr
  simp only [Option.bind_eq_some_iff] at hr
  obtain ⟨ks,h1,a,h2,b,h3,h4⟩:=hr
  cases h4
  obtain ⟨_,V⟩:=Ko (A.view hk)
  have l1:=lw h2
  have l2:=lw h3
  have hm:=V.many
  exact ⟨_,hr',by simp,by simp;omega,by simp;omega,hK,fun e=>absurd e hk,fun _=>by simp;omega⟩
end Go.Proofs.Ytleadolkcmagfaa
end
section
set_option maxRecDepth 100000
namespace Go.Proofs.Ytleadolkcmagfaa
open Go Lv Go.Proofs Go.RowKit Go.Shelf Dl
theorem IC {of:List Col} (h:1≤of.length) (x:Col):∃b,Gg of x=some b:=by
 cases of with
 |nil=>simp at h
 |cons y r=>exact ⟨_,rfl⟩
theorem Gj {l : List Dl.Def} (h : ly l) (d : Dl.Def) : ∃ e,iI l d = some e := by
  unfold iI
  by_cases q1:fo d=[]
  · exact ⟨1,by rw [if_pos q1]⟩
  rw [if_neg q1]
  by_cases q2:20≤l.length
  · exact ⟨95,by rw [if_pos q2]⟩
  rw [if_neg q2]
  by_cases q3:0≤eE l (nameP d)
  · exact ⟨90,by rw [if_pos q3]⟩
  rw [if_neg q3]
  have hd:=xR q1
  have get:∀nm,0≤eE l nm→∃(j:Nat) (hj:j<l.length),nM l (eE l nm)=some l[j]:=fun nm hf=>by
    obtain ⟨j,hj,h1,_⟩:=xU hf
    exact ⟨j,hj,by rw [h1];exact s9 hj⟩
  by_cases hk:d.1=0
  · rw [if_pos hk]
    have T:=xS hd hk
    have hr:∀x,∃b,xO l d.2.1 x=some b:=fun x=>by
      unfold xO
      by_cases r1:x.2.2.2.2.1=e0
      · exact ⟨_,by rw [if_pos r1]⟩
      rw [if_neg r1]
      by_cases r2:x.2.2.2.2.1=d.2.1.1
      · rw [if_pos r2];exact IC T.some x
      rw [if_neg r2]
      by_cases r3:eE l x.2.2.2.2.1<0
      · exact ⟨_,by rw [if_pos r3]⟩
      rw [if_neg r3]
      obtain ⟨j,hj,h1⟩:=get x.2.2.2.2.1 (by omega)
      rw [h1]
      simp only [Option.bind_some]
      by_cases r4:l[j].1=0
      · rw [if_pos r4];exact IC (xS (Ed h _ (List.getElem_mem hj)) r4).some x
      · exact ⟨_,by rw [if_neg r4]⟩
    have hrs:∀r:List Col,∃b,qb l d.2.1 r=some b:=fun r=>by
      induction r with
      |nil=>exact ⟨_,rfl⟩
      |cons x r ih=>
        obtain ⟨b,hb⟩:=hr x
        obtain ⟨b',hb'⟩:=ih
        simp only [qb,hb,Option.bind_some]
        cases b with
        |true=>exact ⟨b',by simpa using hb'⟩
        |false=>exact ⟨_,rfl⟩
    unfold ou
    by_cases c1:ot d.2.1.2.1 d.2.1.2.1 0=true
    · rw [if_pos c1]
      obtain ⟨b,hb⟩:=hrs d.2.1.2.1
      rw [hb]
      simp only [Option.bind_some]
      cases b with
      |false=>exact ⟨_,rfl⟩
      |true=>
        simp only [if_true]
        by_cases c2:d.2.1.2.2.all (fun e=>js e (Iy d.2.1))=true
        · exact ⟨0,by rw [if_pos c2]⟩
        · exact ⟨93,by rw [if_neg c2]⟩
    · exact ⟨_,by rw [if_neg c1]⟩
  · rw [if_neg hk]
    have hv : ∃ b,qc l d.2.2 = some b := by
      unfold qc
      by_cases v1:eE l d.2.2.2.1<0
      · exact ⟨_,by rw [if_pos v1]⟩
      rw [if_neg v1]
      by_cases v2:d.2.2.2.2.1≠e0∧eE l d.2.2.2.2.1<0
      · exact ⟨_,by rw [if_pos v2]⟩
      rw [if_neg v2]
      obtain ⟨j,hj,h1⟩:=get d.2.2.2.1 (by omega)
      obtain ⟨r,hr⟩:=xY h j hj
      have hJ:∃ks,iU l (colsN l 64) d.2.2=some ks:=by
        unfold iU
        rw [h1]
        simp only [Option.bind_some,hr.is]
        by_cases e:d.2.2.2.2.1=e0
        · exact ⟨_,by rw [if_pos e]⟩
        · rw [if_neg e]
          obtain ⟨j',hj',k1⟩:=get d.2.2.2.2.1 (by
            by_cases q:eE l d.2.2.2.2.1<0
            · exact absurd ⟨e,q⟩ v2
            · omega)
          obtain ⟨r',hr'⟩:=xY h j' hj'
          rw [k1]
          simp only [Option.bind_some,hr'.is]
          exact ⟨_,rfl⟩
      obtain ⟨ks,hks⟩:=hJ
      rw [h1]
      simp only [Option.bind_some,hr.is,hks]
      exact ⟨_,rfl⟩
    obtain ⟨b,hb⟩:=hv
    rw [hb]
    exact ⟨_,rfl⟩
theorem Gk (l : List Dl.Def) : ∀ (k i : Nat),l.length - i = k → i ≤ l.length → ly (l.take i) → ∃ b,Gh l (l.drop i) i = some b ∧ (b = true ↔ ly l) := by
  intro k
  induction k with
  |zero=>
    intro i h1 h2 h
    have:i=l.length:=by omega
    subst this
    rw [List.take_length] at h
    exact ⟨true,by rw [List.drop_length];rfl,by simp [h]⟩
  |succ k ih=>
    intro i h1 h2 h
    have hi:i<l.length:=by omega
    rw [List.drop_eq_getElem_cons hi]
    obtain ⟨e,he⟩:=Gj h l[i]
    simp only [Gh,he,Option.bind_some]
    by_cases q:e=0
    · rw [if_pos q]
      refine ih (i+1) (by omega) (by omega) fun j hj=>?_
      have hj':j<i+1:=by rw [List.length_take] at hj;omega
      rw [List.take_take,List.getElem_take,Nat.min_eq_left (by omega)]
      by_cases hji:j<i
      · have:=h j (by rw [List.length_take];omega)
        rwa [List.take_take,List.getElem_take,Nat.min_eq_left (by omega)] at this
      · have:j=i:=by omega
        subst this
        rw [he,q]
    · rw [if_neg q]
      exact ⟨false,rfl,by simpa using fun hm:ly l=>q (by have:=hm i hi;rw [he] at this;exact Option.some.inj this)⟩
theorem tU (l:List Dl.Def):(yl l=some true∧ly l)∨(yl l=some false∧¬ly l):=by
 obtain ⟨b,h1,h2⟩:=Gk l _ 0 rfl (by omega) (fun i hi=>by simp at hi)
 rw [List.drop_zero] at h1
 cases b with
 |true=>exact .inl ⟨h1,h2.1 rfl⟩
 |false=>exact .inr ⟨h1,fun h=>by have:=h2.2 h;cases this⟩
theorem qd {l:List Dl.Def} (h:ly l):yl l=some true:=by
 rcases tU l with ⟨h1,_⟩|⟨_,h2⟩
 ·exact h1
 ·exact absurd h h2
theorem Gl {l:List Dl.Def} (h:¬ly l):yl l=some false:=by
 rcases tU l with ⟨_,h2⟩|⟨h1,_⟩
 ·exact absurd h2 h
 ·exact h1
theorem E4 {l:List Dl.Def} (h:ly l) {d:Dl.Def} (ha:iI l d=some 0):ly (l++ [d]):=fun i hi=>by
 by_cases q:i<l.length
 ·rw [List.take_append_of_le_length (by omega),List.getElem_append_left q];exact h i q
 ·have:i=l.length:=by simp at hi;omega
  subst this
  rw [List.take_left,List.getElem_append_right (Nat.le_refl _)]
  simpa using ha
theorem ID {l:List Dl.Def} (h:ly l) (hl':∀d∈l,Fit d) {nm:ByteArray} (hf:0≤eE l nm):∃(j:Nat) (hj:j<l.length) (r:List Int×List Bool),eE l nm=j∧nameP l[j]=nm∧A7 l l[j] r∧bK.F (l,nm,())=some (true,r.1,r.2,()):=by
 obtain ⟨j,hj,h1,h2⟩:=xU hf
 obtain ⟨r,hr⟩:=xY h j hj
 refine ⟨j,hj,r,h1,h2,hr,?_⟩
 rw [E3 l (by have:=qw h;show _<_;omega) hl',if_neg (by omega),qd h,h1,s9 hj]
 simp only [Option.bind_some,if_true,hr.is,Option.map_some]
def tbl (nm ref:ByteArray):Dl.Def:=(0,((nm,([((⟨#[107]⟩:ByteArray),(2,(false,(false,(e0,0))))),((⟨#[97]⟩:ByteArray),(2,(true,(false,(ref,0)))))],[])),xi))
def vw1 (nm fr:ByteArray):Dl.Def:=(1,(Dl.tab0,(nm,(fr,(e0,((0,0),([],([1],(true,[(1,0)])))))))))
def Gm (nm:ByteArray):List Dl.Tok:=wd (⟨#[116,97,98,108,101]⟩:ByteArray)::wd nm::[sg (⟨#[40]⟩:ByteArray),wd (⟨#[107]⟩:ByteArray),wd (⟨#[105,110,116]⟩:ByteArray),sg (⟨#[44]⟩:ByteArray),wd (⟨#[97]⟩:ByteArray),wd (⟨#[105,110,116]⟩:ByteArray),wd (⟨#[110,117,108,108]⟩:ByteArray),sg (⟨#[41]⟩:ByteArray)]
theorem K6 {nm:ByteArray} (h:isName nm=true):mA (tbl nm e0):=.tab
  { name := h
    cols:=fun c hc=>by
      simp only [List.mem_cons,List.not_mem_nil,or_false] at hc
      rcases hc with rfl|rfl
      · exact ⟨by decide,by decide,by decide,.inl ⟨rfl,rfl⟩⟩
      · exact ⟨by decide,by decide,by decide,.inl ⟨rfl,rfl⟩⟩
    checks:=fun e he=>by cases he
    some:=(by decide:1≤2)
    most:=(by decide:2≤40)
    most2:=(by decide:0≤40)}
theorem Gn {nm:ByteArray} (h:isName nm=true):fo (tbl nm e0)≠ []:=by
 have ht:nD (tbl nm e0)=fA ((Gm nm).map eQ):=HJ (K6 h)
 have hw:jC nm=true:=by simp only [isName,Bool.and_eq_true] at h;exact h.1
 have hall:gA (Gm nm):=fun t hm=>by
  have hsg:∀c:UInt8,c∈fz→i7 (sg (bs [c])):=fun c hc=> .sign hc
  have hwd:∀w:ByteArray,jC w=true→i7 (wd w):=fun w hw=>i7.word hw
  simp only [Gm,List.mem_cons,List.not_mem_nil,or_false] at hm
  rcases hm with rfl|rfl|rfl|rfl|rfl|rfl|rfl|rfl|rfl|rfl
  ·exact hwd _ (by decide)
  ·exact hwd _ hw
  ·exact hsg 40 (by decide)
  ·exact hwd _ (by decide)
  ·exact hwd _ (by decide)
  ·exact hsg 44 (by decide)
  ·exact hwd _ (by decide)
  ·exact hwd _ (by decide)
  ·exact hwd _ (by decide)
  ·exact hsg 41 (by decide)
 have hn:=F4 h
 have hlen:(nD (tbl nm e0)).length≤200:=by
  rw [ht]
  refine Nat.le_trans (FN _) ?_
  have e2:xh [sg (⟨#[40]⟩:ByteArray),wd (⟨#[107]⟩:ByteArray),wd (⟨#[105,110,116]⟩:ByteArray),sg (⟨#[44]⟩:ByteArray),wd (⟨#[97]⟩:ByteArray),wd (⟨#[105,110,116]⟩:ByteArray),wd (⟨#[110,117,108,108]⟩:ByteArray),sg (⟨#[41]⟩:ByteArray)]=23:=by decide
  have e1:xh (Gm nm)=((eQ (wd (⟨#[116,97,98,108,101]⟩:ByteArray))).length+1)+(((eQ (wd nm)).length+1)+23):=by rw [←e2];rfl
  have e3:(eQ (wd nm)).length=nm.size:=rfl
  have e4:(eQ (wd (⟨#[116,97,98,108,101]⟩:ByteArray))).length=5:=by decide
  rw [e1,e3,e4];omega
 have hp:lm (Gm nm)=some (tbl nm e0):=by
  unfold lm Dt Gm
  rw [show gH 0 [(⟨#[116,97,98,108,101]⟩:ByteArray),(⟨#[118,105,101,119]⟩:ByteArray)] (wd (⟨#[116,97,98,108,101]⟩:ByteArray)::wd nm::[sg (⟨#[40]⟩:ByteArray),wd (⟨#[107]⟩:ByteArray),wd (⟨#[105,110,116]⟩:ByteArray),sg (⟨#[44]⟩:ByteArray),wd (⟨#[97]⟩:ByteArray),wd (⟨#[105,110,116]⟩:ByteArray),wd (⟨#[110,117,108,108]⟩:ByteArray),sg (⟨#[41]⟩:ByteArray)])=some (0,wd nm::[sg (⟨#[40]⟩:ByteArray),wd (⟨#[107]⟩:ByteArray),wd (⟨#[105,110,116]⟩:ByteArray),sg (⟨#[44]⟩:ByteArray),wd (⟨#[97]⟩:ByteArray),wd (⟨#[105,110,116]⟩:ByteArray),wd (⟨#[110,117,108,108]⟩:ByteArray),sg (⟨#[41]⟩:ByteArray)]) from by kernel_rfl]
  simp only [Option.bind_some,if_true]
  unfold ll
  rw [sW h]
  kernel_rfl
 have hr:ke (nD (tbl nm e0))=(tbl nm e0,0):=by
  unfold ke
  rw [if_neg (by omega),ht,FM _ hall]
  simp only [hp]
 unfold fo
 rw [if_neg (by omega),if_pos hr]
 intro e
 rw [e] at hr
 have:ke []=(FO,70):=by kernel_rfl
 rw [this] at hr
 injection hr with _ hr
 cases hr
end Go.Proofs.Ytleadolkcmagfaa
end
section
set_option maxRecDepth 100000
namespace Go.Proofs.Ytleadolkcmagfaa
open Go Lv Go.Proofs Go.RowKit Go.Shelf Dl
theorem A8 {nm ref:ByteArray} (h1:nm.size≤100) (h2:ref.size≤100):Fit (tbl nm ref):=
  ⟨(by decide : 2 ≤ 400),(by decide : 0 ≤ 400),(by decide : 0 ≤ 400),(by decide : 0 ≤ 400),(fun e he => by cases he),⟨(by decide : 0 ≤ 120),fun x hx => by cases hx⟩,(fun c hc => by
    have hc:c∈ [(((⟨#[107]⟩:ByteArray),(2,(false,(false,(e0,0))))):Col),((⟨#[97]⟩:ByteArray),(2,(true,(false,(ref,0)))))]:=hc
    simp only [List.mem_cons,List.not_mem_nil,or_false] at hc
    rcases hc with rfl|rfl
    · exact ⟨by decide,by decide,by decide,by decide⟩
    · exact ⟨(by decide:1≤100),h2,(⟨by decide,by decide⟩:I64 2)⟩),h1,(by decide:0≤100),(by decide:0≤100),(by decide:0≤100),(⟨by decide,by decide⟩:I64 0),(⟨by decide,by decide⟩:I64 0),(fun n hn=>by cases hn),(fun a ha=>by cases ha)⟩
theorem IE {nm fr:ByteArray} (h1:nm.size≤100) (h2:fr.size≤100):Fit (vw1 nm fr):=
  ⟨(by decide : 0 ≤ 400),(by decide : 0 ≤ 400),(by decide : 1 ≤ 400),(by decide : 1 ≤ 400),(fun e he => by cases he),⟨(by decide : 0 ≤ 120),fun x hx => by cases hx⟩,(fun c hc => by cases hc),(by decide : 0 ≤ 100),h1,h2,(by decide : 0 ≤ 100),(⟨by decide,by decide⟩ : I64 0),(⟨by decide,by decide⟩ : I64 0),(fun n hn => by
    have hn:n∈ [(1:Int)]:=hn
    simp only [List.mem_cons,List.not_mem_nil,or_false] at hn
    subst hn;exact ⟨by decide,by decide⟩),(fun a ha=>by
    have ha:a∈ [((1:Int),(0:Int))]:=ha
    simp only [List.mem_cons,List.not_mem_nil,or_false] at ha
    subst ha;exact ⟨by decide,by decide⟩)⟩
theorem qx {d:Dl.Def} {t:List UInt8} (h1:nD d=t) (h2:t.length≤20000) (h3:ke t=(d,0)) (h4:t≠ []):fo d≠ []:=by
 unfold fo
 rw [h1,if_neg (by omega),if_pos h3]
 exact h4
theorem xZ {l:List Dl.Def} {d:Dl.Def} {e:Int} (h1:fo d≠ []) (h2:l.length<20) (h3:eE l (nameP d)<0) (h4:d.1=0) (h5:ou l d.2.1=some e):iI l d=some e:=by
 unfold iI;rw [if_neg h1,if_neg (by omega),if_neg (by omega),if_pos h4,h5]
theorem tV {l:List Dl.Def} {d:Dl.Def} {b:Bool} (h1:fo d≠ []) (h2:l.length<20) (h3:eE l (nameP d)<0) (h4:d.1≠0) (h5:qc l d.2.2=some b):iI l d=some (if b=true then 0 else 94):=by
 unfold iI;rw [if_neg h1,if_neg (by omega),if_neg (by omega),if_neg h4,h5];rfl
theorem IG {l:List Dl.Def} {d:Dl.Def} (h1:fo d≠ []) (h2:l.length<20) (h3:0≤eE l (nameP d)):iI l d=some 90:=by
 unfold iI;rw [if_neg h1,if_neg (by omega),if_pos h3]
theorem A9 {l:List Dl.Def} (h:ly l) (hl':∀d∈l,Fit d) {d:Dl.Def} (hd:Fit d) (ha:iI l d=some 0):ch.F (l,d.1,d.2.1.1,d.2.1.2.1,d.2.1.2.2,d.2.2.1,d.2.2.2.1,d.2.2.2.2.1,d.2.2.2.2.2.1.1,d.2.2.2.2.2.1.2,d.2.2.2.2.2.2.1,d.2.2.2.2.2.2.2.1,d.2.2.2.2.2.2.2.2.1,d.2.2.2.2.2.2.2.2.2,())=some (0,l++ [d],()):=by
 have:=IA l (by have:=qw h;show _<_;omega) hl' d.1 d.2.1.1 d.2.1.2.1 d.2.1.2.2 d.2.2.1 d.2.2.2.1 d.2.2.2.2.1 d.2.2.2.2.2.1.1 d.2.2.2.2.2.1.2 d.2.2.2.2.2.2.1 d.2.2.2.2.2.2.2.1 d.2.2.2.2.2.2.2.2.1 d.2.2.2.2.2.2.2.2.2 hd
 rw [this,qd h,show iI l _=some 0 from ha]
 rfl
theorem Ba {l:List Dl.Def} (h:ly l) (hl':∀d∈l,Fit d) {d:Dl.Def} (hd:Fit d) {e:Int} (ha:iI l d=some e) (he:e≠0):ch.F (l,d.1,d.2.1.1,d.2.1.2.1,d.2.1.2.2,d.2.2.1,d.2.2.2.1,d.2.2.2.2.1,d.2.2.2.2.2.1.1,d.2.2.2.2.2.1.2,d.2.2.2.2.2.2.1,d.2.2.2.2.2.2.2.1,d.2.2.2.2.2.2.2.2.1,d.2.2.2.2.2.2.2.2.2,())=some (e,[],()):=by
 have:=IA l (by have:=qw h;show _<_;omega) hl' d.1 d.2.1.1 d.2.1.2.1 d.2.1.2.2 d.2.2.1 d.2.2.2.1 d.2.2.2.2.1 d.2.2.2.2.2.1.1 d.2.2.2.2.2.1.2 d.2.2.2.2.2.2.1 d.2.2.2.2.2.2.2.1 d.2.2.2.2.2.2.2.2.1 d.2.2.2.2.2.2.2.2.2 hd
 rw [this,qd h,show iI l _=some e from ha]
 simp [he]
theorem Gp {l:List Dl.Def} (h:ly l) (hl':∀d∈l,Fit d):cn.F (l,())=some (true,()):=by
 rw [CT l (by have:=qw h;show _<_;omega) hl',qd h];rfl
def zT:Dl.Def:=tbl (⟨#[116]⟩:ByteArray) e0
def zUX:Dl.Def:=tbl (⟨#[117]⟩:ByteArray) (⟨#[120]⟩:ByteArray)
def zUU:Dl.Def:=tbl (⟨#[117]⟩:ByteArray) (⟨#[117]⟩:ByteArray)
def zVT:Dl.Def:=vw1 (⟨#[118]⟩:ByteArray) (⟨#[116]⟩:ByteArray)
def zVX:Dl.Def:=vw1 (⟨#[118]⟩:ByteArray) (⟨#[120]⟩:ByteArray)
theorem zT_p:fo zT≠ []:=Gn (by decide)
theorem zUX_p:fo zUX≠ []:=qx (t:=([116,97,98,108,101,32,117,32,40,32,107,32,105,110,116,32,44,32,97,32,105,110,116,32,110,117,108,108,32,114,101,102,32,120,32,114,101,115,116,114,105,99,116,32,41]:List UInt8)) (by kernel_rfl) (by decide) (by kernel_rfl) (by decide)
theorem zUU_p:fo zUU≠ []:=qx (t:=([116,97,98,108,101,32,117,32,40,32,107,32,105,110,116,32,44,32,97,32,105,110,116,32,110,117,108,108,32,114,101,102,32,117,32,114,101,115,116,114,105,99,116,32,41]:List UInt8)) (by kernel_rfl) (by decide) (by kernel_rfl) (by decide)
theorem Kp:fo zVT≠ []:=qx (t:=([118,105,101,119,32,118,32,102,114,111,109,32,116,32,112,105,99,107,32,49,32,103,114,111,117,112,32,115,117,109,32,48]:List UInt8)) (by kernel_rfl) (by decide) (by kernel_rfl) (by decide)
theorem zVX_p:fo zVX≠ []:=qx (t:=([118,105,101,119,32,118,32,102,114,111,109,32,120,32,112,105,99,107,32,49,32,103,114,111,117,112,32,115,117,109,32,48]:List UInt8)) (by kernel_rfl) (by decide) (by kernel_rfl) (by decide)
theorem zT_f:Fit zT:=A8 (by decide) (by decide)
theorem Kq:Fit zVT:=IE (by decide) (by decide)
theorem E5:ly []:=fun i hi=>by simp at hi
theorem z_a1:iI [] zT=some 0:=xZ zT_p (by decide) (by decide) rfl (by kernel_rfl)
theorem Gq:ly [zT]:=E4 E5 z_a1
theorem z_a2:iI [zT] zVT=some 0:=tV (b:=true) Kp (by decide) (by decide) (by decide) (by kernel_rfl)
theorem z_m2:ly [zT,zVT]:=E4 Gq z_a2
theorem IH:∀d∈ [zT],Fit d:=fun d hd=>by
 simp only [List.mem_cons,List.not_mem_nil,or_false] at hd
 subst hd;exact zT_f
theorem z_l2:∀d∈ [zT,zVT],Fit d:=fun d hd=>by
 simp only [List.mem_cons,List.not_mem_nil,or_false] at hd
 rcases hd with rfl|rfl
 ·exact zT_f
 ·exact Kq
theorem z_no:yl [zVT]=some false:=Gl fun h=>by
 have:=h 0 (by decide)
 have e:iI [] zVT=some 94:=tV (b:=false) Kp (by decide) (by decide) (by decide) (by kernel_rfl)
 rw [show iI (List.take 0 [zVT]) [zVT][0]=iI [] zVT from rfl,e] at this
 cases this
theorem J3:cW.F ()=some (true,()):=by
 rw [cW.eq]
 unfold cW.B
 have tab:∀n r,cS.F (n,r,())=some ((0:Int),n,([]:List (List ae)),(⟨#[]⟩:ByteArray),(⟨#[]⟩:ByteArray),(⟨#[]⟩:ByteArray),(0:Int),(0:Int),([]:List ae),([]:List Int),false,([]:List ct),(tbl n r).2.1.2.1,()):=fun n r=>by
  rw [cS.eq];rfl
 have vw:∀n r,dI.F (n,r,())=some ((1:Int),(⟨#[]⟩:ByteArray),([]:List ba),([]:List (List ae)),n,r,(⟨#[]⟩:ByteArray),(0:Int),(0:Int),([]:List ae),true,[(1:Int)],[((1:Int),(0:Int))],()):=fun n r=>by
  rw [dI.eq];rfl
 refine (cT _ (tab _ _)).trans ?_
 refine (cT _ (A9 E5 (by simp) zT_f z_a1)).trans ?_
 refine (cT _ (vw _ _)).trans ?_
 refine (cT _ (A9 Gq IH Kq z_a2)).trans ?_
 have hk:bK.F ([zT,zVT],(⟨#[118]⟩:ByteArray),())=some (true,[2,2],[true,true],()):=by
  rw [E3 _ (by decide) z_l2,if_neg (by decide),qd z_m2]
  kernel_rfl
 refine (cT _ hk).trans ?_
 refine (cT _ (tab _ _)).trans ?_
 refine (cT _ (Ba Gq IH zT_f (IG zT_p (by decide) (by decide)) (by decide))).trans ?_
 refine (cT _ (tab _ _)).trans ?_
 refine (cT _ (Ba Gq IH (d:=zUX) (A8 (by decide) (by decide)) (xZ (e:=92) zUX_p (by decide) (by decide) rfl (by kernel_rfl)) (by decide))).trans ?_
 refine (cT _ (vw _ _)).trans ?_
 refine (cT _ (Ba Gq IH (d:=zVX) (IE (by decide) (by decide)) (tV (b:=false) zVX_p (by decide) (by decide) (by decide) (by kernel_rfl)) (by decide))).trans ?_
 refine (cT _ (tab _ _)).trans ?_
 refine (cT _ (A9 Gq IH (d:=zUU) (A8 (by decide) (by decide)) (xZ (e:=0) zUU_p (by decide) (by decide) rfl (by kernel_rfl)))).trans ?_
 refine (cT (true,()) (EM [2,2] [2,2] (by decide))).trans ?_
 refine (cT (true,()) (JX [true,true] [true,true] (by decide))).trans ?_
 refine (cT _ (tQ [zT,zVT] (⟨#[118]⟩:ByteArray) (by decide))).trans ?_
 refine (cT _ (Gp z_m2 z_l2)).trans ?_
 refine (cT (false,()) ?_).trans rfl
 refine (CT [zVT] (by decide) (fun d hd=>z_l2 d (by simp at hd;simp [hd]))).trans ?_
 rw [z_no];rfl
end Go.Proofs.Ytleadolkcmagfaa
end
section
set_option maxRecDepth 100000
namespace Go.Proofs.Ytleadolkcmagfaa
open Go Lv Go.Proofs Go.RowKit Go.Shelf Dl
theorem bindE {α:Type} {x:Option α} {K:α→Option (Bool×Unit)} {P:Bool→Prop} {Q:α→Prop} (h:∃r,x=some r∧Q r) (h':∀r,Q r→∃b,K r=some (b,())∧P b):∃b,Option.bind x K=some (b,())∧P b:=by
 obtain ⟨r,h1,h2⟩:=h
 rw [h1];exact h' r h2
theorem K7 {α:Type} {x:Option α} {K:α→Option (Bool×Unit)} {Q:α→Prop} (h:∃r,x=some r∧Q r) (h':∀r,Q r→∃b,K r=some (b,())):∃b,Option.bind x K=some (b,()):=by
 obtain ⟨r,h1,h2⟩:=h
 rw [h1];exact h' r h2
theorem K8 (l : List Dl.Def) (hl : Ln l) (hD : ∀ d ∈ l,DLn d) (hF : ∀ d ∈ l,Sm d → Fit d) : ∃ b,ee.F (l,()) = some (b,()) ∧ (b = false → ∀ d ∈ l,Sm d) := by
  rw [ee.eq]
  unfold ee.B
  have hl0:l.length<1000000000000000:=hl
  refine bindE (Q:=fun (r:(Int×Unit)⊕(Bool×Unit))=>r=.inr (true,())∨((∃n,r=.inl (n,()))∧∀d∈l,Sm d)) (ry (fun x=>l.length-x.2.1.toNat) (fun x=>∃(i:Nat) (n:Int),x=(n,(i:Int),())∧i≤l.length∧∀(j:Nat) (hj:j<l.length),j<i→Sm l[j]) (fun _ (r:(Int×Unit)⊕(Bool×Unit))=>r=.inr (true,())∨((∃n,r=.inl (n,()))∧∀d∈l,Sm d)) ?_ _ ⟨0,0,rfl,by omega,fun j hj h=>by omega⟩) ?_
  · rintro _ ⟨i,n,rfl,hi,hsm⟩
    by_cases hlt:i<l.length
    · have d1:decide ((i:Int)<(l.length:Int))=true:=by simp;omega
      have d0:decide (0≤(i:Int))=true:=by simp
      have gi:l.getD i fB.z=l[i]:=bU hlt _
      have hm:l[i]∈l:=List.getElem_mem hlt
      obtain ⟨b,hb1,hb2⟩:=big_s l[i].1 l[i].2.1.1 l[i].2.1.2.1 l[i].2.1.2.2 l[i].2.2.1 l[i].2.2.2.1 l[i].2.2.2.2.1 l[i].2.2.2.2.2.1.1 l[i].2.2.2.2.2.1.2 l[i].2.2.2.2.2.2.1 l[i].2.2.2.2.2.2.2.1 l[i].2.2.2.2.2.2.2.2.1 l[i].2.2.2.2.2.2.2.2.2 (hD _ hm)
      simp only [d1,d0,Bool.and_self,cond_true,Int.toNat_natCast,gi,hb1,Option.bind_some]
      cases b with
      |true=>exact .inr ⟨_,rfl,.inl rfl⟩
      |false=>
        have hS:Sm l[i]:=hb2 rfl
        have hP:=Ir l[i].1 l[i].2.1.1 l[i].2.1.2.1 l[i].2.1.2.2 l[i].2.2.1 l[i].2.2.2.1 l[i].2.2.2.2.1 l[i].2.2.2.2.2.1.1 l[i].2.2.2.2.2.1.2 l[i].2.2.2.2.2.2.1 l[i].2.2.2.2.2.2.2.1 l[i].2.2.2.2.2.2.2.2.1 l[i].2.2.2.2.2.2.2.2.2 (hF _ hm hS) hS
        simp only [cond_false,hP,Option.bind_some]
        generalize decide (_>(2000:Int))=q
        cases q with
        |true=>exact .inr ⟨_,rfl,.inl rfl⟩
        |false=>
          refine .inl ⟨_,rfl,⟨i+1,_,by rw [cw hlt (by omega)],by omega,fun j hj h=>?_⟩,by show l.length-Int.toNat (IntKind.i64.wrap _)<_;rw [cw hlt (by omega),Int.toNat_natCast];omega,fun _ h=>h⟩
          by_cases hji:j<i
          · exact hsm j hj hji
          · have:j=i:=by omega
            subst this;exact hS
    · have d1:decide ((i:Int)<(l.length:Int))=false:=by simp;omega
      refine .inr ⟨.inl (n,()),?_,.inr ⟨⟨n,rfl⟩,fun d hd=>?_⟩⟩
      · simp only [d1,cond_false]
      · obtain ⟨j,hj,rfl⟩:=List.getElem_of_mem hd
        exact hsm j hj (by omega)
  · rintro r (rfl|⟨⟨n,rfl⟩,hS⟩)
    · exact ⟨true,rfl,fun h=>by cases h⟩
    · have hj:∃b,Option.bind (bE (S:=Int×Int×Unit) (fun (x5,x6,_)=>
          (bif (decide (x6<(l.length:Int))) then
          bif (decide (0≤x6)&&decide (x6<(l.length:Int))) then
          let e12:dX:=(List.getD l (Int.toNat x6) fB.z)
          (bif (!(e12.2.2.2.2.1.toList==(⟨#[]⟩:ByteArray).toList)) then
          let e13:Int:=(IntKind.i64.wrap (x5+(1:Int)))
          let e14:Int:=(IntKind.i64.wrap (x6+(1:Int)))
          some (.inl (e13,e14,()))
          else
          let e15:Int:=(IntKind.i64.wrap (x6+(1:Int)))
          some (.inl (x5,e15,())))
          else none
          else
          some (.inr (.inl (x5,()))))) ((0:Int),(0:Int),()):Option ((Int×Unit)⊕(Bool×Unit))) (fun r16=>match r16 with
          | .inl (x5_16,_)=>
          ((bif (decide ((l.length:Int)>(22:Int))) then
          some (true,())
          else
          (bif (decide (n>(200:Int))) then
          some (true,())
          else
          some ((decide (x5_16>(6:Int))),()))))
          | .inr r=>some r)=some (b,()):=by
        refine K7 (Q:=fun (r:(Int×Unit)⊕(Bool×Unit))=>∃m,r=.inl (m,())) (ry (fun x=>l.length-x.2.1.toNat) (fun x=>∃(i:Nat) (n:Int),x=(n,(i:Int),())∧i≤l.length) (fun _ (r:(Int×Unit)⊕(Bool×Unit))=>∃m,r=.inl (m,())) ?_ _ ⟨0,0,rfl,by omega⟩) ?_
        · rintro _ ⟨i,n,rfl,hi⟩
          by_cases hlt:i<l.length
          · have d1:decide ((i:Int)<(l.length:Int))=true:=by simp;omega
            have d0:decide (0≤(i:Int))=true:=by simp
            simp only [d1,d0,Bool.and_self,cond_true,cw hlt (show l.length<9223372036854775808 by omega)]
            generalize (!((List.getD l (Int.toNat (i:Int)) fB.z).2.2.2.2.1.toList==(⟨#[]⟩:ByteArray).toList))=q
            cases q
            · exact .inl ⟨_,rfl,⟨i+1,_,rfl,by omega⟩,by show l.length-Int.toNat _<l.length-Int.toNat _;rw [Int.toNat_natCast,Int.toNat_natCast];omega,fun _ h=>h⟩
            · exact .inl ⟨_,rfl,⟨i+1,_,rfl,by omega⟩,by show l.length-Int.toNat _<l.length-Int.toNat _;rw [Int.toNat_natCast,Int.toNat_natCast];omega,fun _ h=>h⟩
          · have d1:decide ((i:Int)<(l.length:Int))=false:=by simp;omega
            refine .inr ⟨.inl (n,()),?_,n,rfl⟩
            simp only [d1,cond_false]
        · rintro r ⟨m,rfl⟩
          simp only []
          cases decide ((l.length:Int)>22)
          · cases decide (n>200)<;>exact ⟨_,rfl⟩
          · exact ⟨_,rfl⟩
      obtain ⟨b,hb⟩:=hj
      exact ⟨b,hb,fun _=>hS⟩
structure Kr (l:List Dl.Def):Prop where
 ln:Ln l
 dln:∀d∈l,DLn d
 fit:∀d∈l,Sm d→Fit d
theorem K9 {l:List Dl.Def} (h:In PP (.sl 38 fB) l):Kr l:=by
 obtain ⟨h1,h2⟩:=h
 exact ⟨rL (b:=216) (by kernel_rfl) (by decide) h1,fun d hd=>in_ln (h2 d hd),fun d hd=>KT (h2 d hd)⟩
end Go.Proofs.Ytleadolkcmagfaa
end
section
set_option maxRecDepth 100000
namespace Go.Proofs.Ytleadolkcmagfaa
open Go Lv Go.Proofs Go.RowKit Go.Shelf Dl
theorem II {l:List Dl.Def} (M:ly l) (hf:∀d∈l,Fit d) {i:Nat} (hi:i<l.length):∃r,A7 l l[i] r∧bK.F (l,nameP l[i],())=some (true,r.1,r.2,()):=by
 have e:=J1 M hi
 obtain ⟨j,hj,r,h1,_,h2,h3⟩:=ID M hf (nm:=nameP l[i]) (by omega)
 have:j=i:=by omega
 subst this
 exact ⟨r,h2,h3⟩
theorem Gr {p:List Dl.Def} {d:Dl.Def} (A:Add0 p d) (hk:d.1=0):∃x r,d.2.1.2.1=x::r∧x.2.2.1=false∧x.2.1≠1:=by
 have T:=xS A.def_ok hk
 have h:=(K5 (A.tab hk)).1
 cases hc:d.2.1.2.1 with
 |nil=>have:=T.some;rw [hc] at this;simp at this
 |cons x r=>
  rw [hc] at h
  refine ⟨x,r,rfl,?_⟩
  simp only [ot,qa,Bool.and_eq_true,Bool.not_eq_true',Bool.or_eq_false_iff,decide_true,Bool.true_and,decide_eq_false_iff_not] at h
  exact ⟨h.1.2.1,h.1.2.2.1⟩
theorem Gs (l : List Dl.Def) (C : Kr l) (p : Int) : bI.F (l,p,()) = some (true,()) := by
  rw [bI.eq]
  unfold bI.B
  obtain ⟨b,hb,hs⟩:=K8 l C.ln C.dln C.fit
  simp only [J3,hb,Option.bind_some,Bool.not_true,cond_false]
  cases b with
  |true=>rfl
  |false=>
  have hf:∀d∈l,Fit d:=fun d hd=>C.fit d hd (hs rfl d hd)
  simp only [cond_false,CT l C.ln hf]
  rcases tU l with ⟨hm,M⟩|⟨hm,_⟩
  · simp only [hm,Option.map_some,Option.bind_some,Bool.not_true,cond_false]
    by_cases h0:p<0
    · have:decide (p<0)=true:=by simpa using h0
      simp only [this,cond_true,Option.bind_some]
    have h0':decide (p<0)=false:=by simpa using h0
    by_cases h1:p≥(l.length:Int)
    · have:decide (p≥(l.length:Int))=true:=by simpa using h1
      simp only [this,h0',cond_false,cond_true,Option.bind_some]
    have h1':decide (p≥(l.length:Int))=false:=by simpa using h1
    obtain ⟨i,rfl⟩:∃n:Nat,p=n:=⟨p.toNat,by omega⟩
    have hi:i<l.length:=by omega
    have d2:(decide (0≤(i:Int))&&decide ((i:Int)<(l.length:Int)))=true:=by simp;omega
    have gi:l.getD i fB.z=l[i]:=bU hi _
    obtain ⟨r,R,hr⟩:=II M hf hi
    have e1:((r.1.length:Int) !=(r.2.length:Int))=false:=by rw [R.len];simp
    simp only [h0',h1',cond_false,Option.bind_some]
    rw [d2]
    simp only [cond_true,Int.toNat_natCast,gi]
    refine (cT _ (JW l[i].1 l[i].2.1.1 l[i].2.1.2.1 l[i].2.1.2.2 l[i].2.2.1 l[i].2.2.2.1 l[i].2.2.2.2.1 l[i].2.2.2.2.2.1.1 l[i].2.2.2.2.2.1.2 l[i].2.2.2.2.2.2.1 l[i].2.2.2.2.2.2.2.1 l[i].2.2.2.2.2.2.2.2.1 l[i].2.2.2.2.2.2.2.2.2)).trans ?_
    refine (cT _ hr).trans ?_
    simp only [Bool.not_true,cond_false,e1,Option.bind_some,b_eq]
    by_cases hk:l[i].1=0
    · obtain ⟨x,q,hc,hx1,hx2⟩:=Gr (Gi (M i hi)) hk
      have hr':=R.tab hk
      rw [hc] at hr'
      have hK:=R.kinds x.2.1 (by rw [hr'];simp)
      rw [hr']
      simp only [hk,decide_true,cond_true,List.map_cons,hc,List.length_cons,List.length_map]
      have d3:(decide (0≤(0:Int))&&decide ((0:Int)<((q.length+1:Nat):Int)))=true:=by simp
      rw [d3]
      simp only [cond_true,List.getD_cons_zero,hx1,Bool.not_false]
      by_cases e:x.2.1=2
      · simp [e]
      · have:x.2.1=3:=by omega
        simp [this]
    · have hv:=R.view hk
      have D:=Ed M _ (List.getElem_mem hi)
      have V:=A6 D hk
      have v1:=V.most
      have v2:=V.most2
      have w:IntKind.i64.wrap ((l[i].2.2.2.2.2.2.2.1.length:Int)+(l[i].2.2.2.2.2.2.2.2.2.length:Int))=((l[i].2.2.2.2.2.2.2.1.length+l[i].2.2.2.2.2.2.2.2.2.length:Nat):Int):=by rw [dl]<;>omega
      simp only [hk,decide_false,cond_false,w,hv,decide_true]
  · simp only [hm,Option.map_some,Option.bind_some,Bool.not_false,cond_true]
end Go.Proofs.Ytleadolkcmagfaa
end
section
set_option maxRecDepth 100000
namespace Go.Proofs.Ytleadolkcmagfaa
open Go Lv Go.Proofs Go.RowKit Go.Shelf Dl
theorem pure6 (x:yf [(.sl 38 fB,false),(.int .i64,false)]) (h:Ey PP _ x):bI.F (xc 0 _ x)=some (true,()):=Gs x.1 (K9 h.1) x.2.1
end Go.Proofs.Ytleadolkcmagfaa
end
section
set_option maxRecDepth 100000
namespace Go.Proofs.YtleadolkcmagfaaGreatDoor
open Go Lv Go.Proofs Go.RowKit Go.ChangeShapes Go.WideShapes Go.ChangeAt Go.Proofs.Ytleadolkcmagfaa
noncomputable abbrev Ag : List (String × DataW Unit) := [("math/bits.deBruijn32tab", Rows.laid_math_bits_deBruijn32tab), ("math/bits.deBruijn64tab", Rows.laid_math_bits_deBruijn64tab), ("internal/strconv.uint64pow10", Rows.laid_internal_strconv_uint64pow10), ("unicode/utf8.acceptRanges", Rows.laid_unicode_utf8_acceptRanges), ("strconv.ErrRange", Rows.laid_strconv_ErrRange), ("strconv.ErrSyntax", Rows.laid_strconv_ErrSyntax), ("unicode/utf8.first", Rows.laid_unicode_utf8_first)]
theorem J4:(Rows.laid_internal_strconv_uint64pow10:DataW Unit)=Lib.tabData .u64 Lib.pow10Tab:=by kernel_rfl
theorem gMax : Tryz.prog.globalNamed "internal/bytealg.MaxLen" = some 0 := by kernel_rfl
theorem gPow : Tryz.prog.globalNamed "internal/strconv.uint64pow10" = some 1 := by kernel_rfl
theorem gSyn : Tryz.prog.globalNamed "strconv.ErrSyntax" = some 4 := by kernel_rfl
theorem gRan : Tryz.prog.globalNamed "strconv.ErrRange" = some 5 := by kernel_rfl
theorem tPow:(Tryz.prog.globals[1]?).map (·.type)=some 218:=by kernel_rfl
theorem tSyn:(Tryz.prog.globals[4]?).map (·.type)=some 155:=by kernel_rfl
theorem tRan:(Tryz.prog.globals[5]?).map (·.type)=some 155:=by kernel_rfl
theorem Bb {P:Program} {W:World} {n:String} {g:Nat} {cs:Array Value} (hg:P.globalNamed n=some g) (h:W.var? P n=some cs):g<W.heap.size:=by
 simp only [World.var?,hg,Option.bind_some] at h
 split at h
 ·rename_i he;exact (Array.getElem?_eq_some_iff.1 he).1
 ·cases h
theorem IJ {P:Program} {W:World} {n:String} {g:Nat} {v:Value} (hg:P.globalNamed n=some g) (h:W.cell? ⟨g,0,none⟩=some v):∃cs,W.var? P n=some cs∧cs[0]?=some v:=by
 simp only [World.var?,hg,Option.bind_some]
 unfold World.cell? at h
 split at h
 ·rename_i he
  rw [he]
  exact ⟨_,rfl,by simpa using h⟩
 ·cases h
noncomputable def fS:Field:=match Tryz.prog.underlying 249 with|some (.struct fs)=>fs.getD 0 default|_=>default
theorem star : "*" ++ "errors.errorString" = "*errors.errorString" := by decide
theorem IK (u : TypeId) (h : Tryz.prog.typeName? 3 u = some "*errors.errorString") : u = 247 :=
 typeName_ptr_named (nm := "errors.errorString") (by rw [star]; kernel_rfl) (by kernel_rfl) (by decide) u (by rw [star]; exact h)
theorem La {W:World} (hsh:W.ShapedOpen Tryz.prog) (h0:laidMetH Tryz.prog Ag W):Glb (· <W.heap.size) W:=by
 have h:laidMet Tryz.prog Ag W:=by rw [MakeChecks.laidMetH_plain _ _ _ (by kernel_rfl)] at h0;exact h0
 have h1:=h.tail.tail
 have hpow : Lib.TabIs Tryz.prog W "internal/strconv.uint64pow10" .u64 Lib.pow10Tab := by
  rw [J4] at h1
  exact Lib.tabIs_of_head (n:=20) (e:=108) gPow tPow (by kernel_rfl) (by kernel_rfl) (by kernel_rfl) (by kernel_rfl) h1
 have h2:=h1.tail.tail
 obtain ⟨a, s, hr, _⟩ := laid_sentinel (ti := 155) (tp := 247) (te := 249) (ts := 9) (ms := #[⟨"Error", 119⟩]) (f := fS) h2 gRan tRan (by kernel_rfl) IK (by kernel_rfl) (by kernel_rfl) rfl rfl (by kernel_rfl) (by kernel_rfl) (by kernel_rfl)
 obtain ⟨a', s', hs, _⟩ := laid_sentinel (ti := 155) (tp := 247) (te := 249) (ts := 9) (ms := #[⟨"Error", 119⟩]) (f := fS) h2.tail gSyn tSyn (by kernel_rfl) IK (by kernel_rfl) (by kernel_rfl) rfl rfl (by kernel_rfl) (by kernel_rfl) (by kernel_rfl)
 obtain ⟨m,hm⟩:=cell_of_shapedOpen_int (g:=0) (t:=3) (zero:=#[.int .i64 0]) (k:=.i64) hsh (of_decide_eq_true (by kernel_rfl)) (by kernel_rfl) rfl (by kernel_rfl) (by kernel_rfl) (by kernel_rfl)
 have hm:W.cell? ⟨0,0,none⟩=some (.int .i64 m):=hm
 obtain ⟨cs,hc,hc0⟩:=IJ gMax hm
 have hpow' : W.var? Tryz.prog "internal/strconv.uint64pow10" = some (Lib.pow10Tab.map fun z => Value.int .u64 z).toArray := hpow
 have hall:∀v∈jk,zL Tryz.prog W v:=by
  intro v hv
  simp only [jk,List.mem_cons,List.not_mem_nil,or_false] at hv
  rcases hv with rfl|rfl|rfl|rfl
  ·exact ⟨gMax,cs,hc,m,hc0⟩
  ·exact ⟨gPow,_,hpow',rfl⟩
  ·exact ⟨gSyn,_,hs,_,_,rfl⟩
  ·exact ⟨gRan,_,hr,_,_,rfl⟩
 refine ⟨fun b hb=>?_,hall⟩
 have hb:b∈ [0,1,4,5]:=hb
 simp only [List.mem_cons,List.not_mem_nil,or_false] at hb
 rcases hb with rfl|rfl|rfl|rfl
 ·exact Bb gMax hc
 ·exact Bb gPow hpow'
 ·exact Bb gSyn hs
 ·exact Bb gRan hr
end Go.Proofs.YtleadolkcmagfaaGreatDoor
end
