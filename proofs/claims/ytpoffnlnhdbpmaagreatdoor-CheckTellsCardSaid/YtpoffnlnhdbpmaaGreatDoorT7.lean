import Derived.Test.YtpoffnlnhdbpmaaGreatDoorT6
import Derived.Sort.Walk0
import Derived.Lib.SlicesS
set_option linter.all false
set_option linter.unusedVariables false
set_option linter.unusedSimpArgs false
set_option linter.unusedSectionVars false
section
set_option maxRecDepth 100000
namespace Go.Proofs.Ytpoffnlnhdbpmaa
open Go Lv Go.Proofs Go.RowKit Go.Shelf
variable [Lk]
variable {n:Nat} {L:List aX}
end Go.Proofs.Ytpoffnlnhdbpmaa
end
section
set_option maxRecDepth 100000
namespace Go.Proofs.Ytpoffnlnhdbpmaa
open Go Lv Go.Proofs Go.RowKit Go.Shelf
variable [Lk]
end Go.Proofs.Ytpoffnlnhdbpmaa
end
section
set_option maxRecDepth 100000
namespace Go.Proofs.Ytpoffnlnhdbpmaa
open Go Lv Go.Proofs Go.RowKit Go.Shelf
variable [Lk]
theorem tc (o:Int):Tot (dN.F (o,())) fun y=>y.1≤2∧((o=5∨o=6)→y.1=2):=by
 rw [dN.eq];unfold dN.B
 refine aY (fun x=>x.1=true→o=0∨o=1) (by simp<;>omega) fun x hx=>ac.2 ⟨fun e=>ai.2 ⟨by simp,fun h=>by have:=hx e;omega⟩,fun _=>?_⟩
 refine aY (fun x=>x.1=true→o=9∨o=10) (by simp<;>omega) fun x hx=>ac.2 ⟨fun e=>ai.2 ⟨by simp,fun h=>by have:=hx e;omega⟩,fun _=>?_⟩
 simp
 omega
theorem CB (ok:Bool) (ks st:List Int) (h:st.length≤100000):Tot (bx.F (ok,ks,st,())) fun y=>y.2.2.2.1.length≤st.length:=by
 rw [bx.eq];unfold bx.B
 refine ac.2 ⟨fun _=>by simp,fun e=>?_⟩
 simp at e
 have:st.length≠0:=fun h=>e (List.length_eq_zero_iff.1 h)
 have hw:wr ((st.length:Int)-1)=(st.length:Int)-1:=bB (by omega) (by omega)
 simp only [hw]
 exact ah.2 ⟨by simp;omega,ah.2 ⟨by simp;omega,ai.2 (by simp)⟩⟩
theorem AR (k:Int) (ok:Bool) (ks st:List Int) (h:st.length≤100000):Tot (br.F (k,ok,ks,st,())) fun y=>y.2.2.1.length=st.length+1:=by
 rw [br.eq];unfold br.B
 simp
 omega
theorem CC (k:Int) (l:List Int) (h:l.length≤1000):Tot (eF.F (k,l,())) fun _=>True:=by
 rw [eF.eq];unfold eF.B
 refine ic l.length fun i h0 h1=>?_
 simp [eo]
 omega
theorem qt (o:Int) (l:List Int) (h:l.length≤1000) (h2:(o=5∨o=6)→l.length=2):Tot (cE.F (o,l,())) fun _=>True:=by
 rw [cE.eq];unfold cE.B
 have al:∀k (b:Int),Tot (Option.bind (eF.F (k,l,())) fun y=>some (b,y.1,())) fun _=>True:=fun k b=>af.2 ((CC k l h).mono fun _ _=>ai.2 trivial)
 refine aY (fun _=>True) (by simp) fun x _=>ac.2 ⟨fun _=>al _ _,fun _=>?_⟩
 refine aY (fun x=>x.1=true→o=5∨o=6) (by simp<;>omega) fun x hx=>ac.2 ⟨fun e=>?_,fun _=>?_⟩
 ·have:=h2 (hx e)
  simp
  omega
 ·exact ac.2 ⟨fun _=>ac.2 ⟨fun _=>al _ _,fun _=>by simp⟩,fun _=>ac.2 ⟨fun _=>ac.2 ⟨fun _=>al _ _,fun _=>by simp⟩,fun _=>ac.2 ⟨fun _=>al _ _,fun _=>by simp⟩⟩⟩
theorem yU (a b c d:Int) (s:ByteArray) (ok:Bool) (ks st:List Int) (h:st.length≤10000):Tot (cg.F (a,b,c,d,s,ok,ks,st,())) fun y=>y.2.2.2.1.length≤st.length+1:=by
 rw [cg.eq];unfold cg.B
 obtain ⟨⟨t,_⟩,ht,t2,t3⟩:=tc a
 dsimp only at t2 t3
 simp only [ht,Qa]
 refine aY (fun x=>(x.1.length:Int)=max 0 t∧x.2.2.2.1.length≤st.length) ?_ ?_
 ·refine dk (fun x=>t.toNat-x.1.toNat) (fun x=>0≤x.1∧x.1≤max 0 t∧(x.2.1.length:Int)=x.1∧x.2.2.2.2.1.length≤st.length) ⟨by simp,by simp;omega,by simp,by simp⟩ ?_
  rintro ⟨i,l,ok',ks',st',_⟩ ⟨i1,i2,i3,i4⟩
  dsimp only at i1 i2 i3 i4 ⊢
  refine ac.2 ⟨fun h5=>?_,fun h5=>aH.2 ⟨by simp at h5;dsimp only;omega,i4⟩⟩
  simp at h5
  have hw:wr (i+1)=i+1:=bB (by omega) (by omega)
  refine af.2 ((CB _ _ _ (by omega)).mono fun y hy=>ah.2 ⟨by simp;omega,?_⟩)
  simp only [av,hw]
  exact ⟨⟨by omega,by omega,by simp;omega,by omega⟩,by omega⟩
 rintro ⟨l,ok',ks',st',_⟩ ⟨h1,h2⟩
 dsimp only at h1 h2 ⊢
 refine aY (fun x=>x.1=false→0≤t) ?_ fun x hx=>ac.2 ⟨fun _=>ai.2 (by dsimp only;omega),fun e=>?_⟩
 ·exact ac.2 ⟨fun _=>av.2 (fun h=>by cases h),fun _=>av.2 (fun h=>by simpa using h)⟩
 have ht0:=hx e
 have psh:∀k,Tot (br.F (k,ok',ks',st',())) fun y=>y.2.2.1.length≤st.length+1:=fun k=>(AR k ok' ks' st' (by omega)).mono fun y hy=>by omega
 refine ac.2 ⟨fun _=>?_,fun _=>ac.2 ⟨fun _=>?_,fun _=>?_⟩⟩
 ·refine aY (fun x=>x.1=false→0≤b∧b<(ks'.length:Int)) ?_ fun x hx=>ac.2 ⟨fun _=>ai.2 (by dsimp only;omega),fun e=>?_⟩
  ·simp
   omega
  ·have:=hx e
   exact ah.2 ⟨by simp;omega,af.2 ((psh _).mono fun y hy=>ai.2 hy)⟩
 ·exact af.2 ((psh _).mono fun y hy=>af.2 ((ln _ _ _).mono fun _ _=>ai.2 hy))
 ·exact af.2 ((qt a l (by omega) (fun h=>by have:=t3 h;omega)).mono fun z _=>af.2 ((psh _).mono fun y hy=>ai.2 hy))
theorem vN (e:List ak) (ks:List Int):Tot (eU.F (e,ks,())) fun _=>True:=by
 rw [eU.eq];unfold eU.B
 refine ac.2 ⟨fun _=>by simp,fun h=>?_⟩
 simp at h
 refine aY (fun _=>True) ?_ fun x _=>?_
 ·refine dk (fun x=>e.length-x.1.toNat) (fun x=>0≤x.1∧x.1≤(e.length:Int)∧(x.2.2.2.1.length:Int)≤x.1) (by simp) ?_
  rintro ⟨i,ok,k,st,_⟩ ⟨i1,i2,i3⟩
  dsimp only at i1 i2 i3 ⊢
  refine ac.2 ⟨fun h5=>?_,fun h5=>aH.2 trivial⟩
  simp at h5
  have hw:wr (i+1)=i+1:=bB (by omega) (by omega)
  refine ah.2 ⟨by simp;omega,af.2 ((yU _ _ _ _ _ _ _ _ (by omega)).mono fun y hy=>ac.2 ⟨fun _=>aH.2 trivial,fun _=>?_⟩)⟩
  simp only [av,hw]
  exact ⟨⟨by omega,by omega,by omega⟩,by omega⟩
 ·rw [b7.eq];unfold b7.B
  refine af.2 (Tot.mono (P:=fun _=>True) ?_ fun y _=>ac.2 ⟨fun _=>ai.2 trivial,fun _=>ai.2 trivial⟩)
  simp
  omega
theorem tf (e:List ak) (ks:List Int):Tot (dh.F (e,ks,())) fun _=>True:=by
 rw [dh.eq];unfold dh.B
 exact af.2 ((vN e ks).mono fun y _=>ac.2 ⟨fun _=>ac.2 ⟨fun _=>ai.2 trivial,fun _=>ai.2 trivial⟩,fun _=>ai.2 trivial⟩)
theorem AU:(List.range 1000).all (fun n=>decide (bX.B (1,(n:Int),())=some (0,(n:Int),())))=true:=by
 kernel_rfl
theorem CD (n:Nat) (h:n<1000):Tot (aM.F ([true],(n:Int),())) fun y=>y.1.length=n:=by
 rw [aM.eq];unfold aM.B
 have hm:dx.F ((IntKind.u64.wrap ((([true]:List Bool).length:Int))),(IntKind.u64.wrap ((n:Int))),())=some (0,(n:Int),()):=by
  have e1:IntKind.u64.wrap ((([true]:List Bool).length:Int))=1:=by decide
  have e2:IntKind.u64.wrap ((n:Int))=n:=by rw [ou];omega
  rw [e1,e2,dx.eq]
  unfold dx.B
  have:=of_decide_eq_true (List.all_eq_true.1 AU n (List.mem_range.2 h))
  show Option.bind (bX.F (1,(n:Int),())) _=_
  rw [bX.eq,this]
  rfl
 refine aY (fun _=>True) (ac.2 ⟨fun h=>by simp at h;omega,fun _=>av.2 trivial⟩) fun _ _=>?_
 have hw:wr (n:Int)=n:=bB (by omega) (by omega)
 simp only [hm,Qa,hw,Int.toNat_natCast]
 refine aY (fun _=>True) (by simp;omega) fun _ _=>ah.2 ⟨by simp;omega,?_⟩
 have hmin:∀a b:Nat,Nat.min a b=min a b:=fun _ _=>rfl
 refine dk (fun x=>n-x.1.toNat) (fun x=>0≤x.1∧x.1≤(n:Int)∧(1≤n→1≤x.1)∧x.2.1.length=n) (by simp [hmin];omega) ?_
 rintro ⟨i,l,_⟩ ⟨i1,i2,i3,i4⟩
 dsimp only at i1 i2 i3 i4 ⊢
 refine ac.2 ⟨fun h5=>?_,fun h5=>aH.2 i4⟩
 simp at h5
 simp only [hmin,Int.toNat_zero,Int.toNat_natCast,List.drop_zero,Nat.sub_zero,List.length_take,i4]
 have e:min (min i.toNat n) (n-i.toNat)=min i.toNat (n-i.toNat):=by omega
 simp only [e]
 have hw:wr (i+((min i.toNat (n-i.toNat):Nat):Int))=i+((min i.toNat (n-i.toNat):Nat):Int):=bB (by omega) (by omega)
 simp only [hw]
 refine ah.2 ⟨by simp;omega,ah.2 ⟨by simp;omega,?_⟩⟩
 simp
 omega
end Go.Proofs.Ytpoffnlnhdbpmaa
end
section
set_option maxRecDepth 100000
namespace Go.Proofs.Ytpoffnlnhdbpmaa
open Go Lv Go.Proofs Go.RowKit Go.Shelf
variable [Lk]
@[simp] theorem rf (d : bL) : dU.F (d.1,d.2.1.1,d.2.1.2.1,d.2.1.2.2,d.2.2.1,d.2.2.2.1,d.2.2.2.2.1,d.2.2.2.2.2.1.1,d.2.2.2.2.2.1.2,d.2.2.2.2.2.2.1,d.2.2.2.2.2.2.2.1,d.2.2.2.2.2.2.2.2.1,d.2.2.2.2.2.2.2.2.2,()) = some (nmD d,()) := by
 rw [dU.eq];unfold dU.B nmD
 dsimp only
 cases (d.1==0)<;>rfl
theorem jW (c : List bL) (s : ByteArray) (h : c.length < 1000000000000000) : cK.F (c,s,()) = some (lV c s,()) := by
  have:Tot (cK.F (c,s,())) fun y=>y.1=lV c s:=by
    rw [cK.eq];unfold cK.B
    refine dk (fun x=>c.length-x.1.toNat) (fun x=>∃i:Nat,x.1=(i:Int)∧i≤c.length∧∀(j:Nat) (hj:j<c.length),j<i→sq (nmD c[j]) s=false) ⟨0,rfl,by omega,fun j _ h=>by omega⟩ ?_
    rintro ⟨_,u⟩ ⟨i,rfl,h1,h2⟩
    refine ac.2 ⟨fun h5=>?_,fun h5=>?_⟩
    · simp at h5
      have hw:wr ((i:Int)+1)=((i+1:Nat):Int):=by rw [bB (by omega) (by omega)];omega
      simp only [cD h5,rf,Qa,hw]
      refine aY (fun x=>x.1=sq (nmD c[i]) s) (ah.2 ⟨by simp;omega,av.2 rfl⟩) fun x hx=>ac.2 ⟨fun h6=>?_,fun h6=>?_⟩
      · rw [hx] at h6
        simp only [aH]
        have:fnd c s=some i:=List.findIdx?_eq_some_iff_getElem.2 ⟨h5,h6,fun j hj=>by rw [h2 j (by omega) hj];simp⟩
        unfold lV
        rw [this]
      · rw [hx] at h6
        simp only [av]
        refine ⟨⟨i+1,rfl,by omega,fun j hj hji=>?_⟩,by simp;omega⟩
        by_cases e:j=i
        · subst e;exact h6
        · exact h2 j hj (by omega)
    · simp at h5
      simp only [aH]
      have:fnd c s=none:=List.findIdx?_eq_none_iff.2 fun x hx=>by
        obtain ⟨j,hj,rfl⟩:=List.getElem_of_mem hx
        exact h2 j hj (by omega)
      unfold lV
      rw [this]
  obtain ⟨⟨y,_⟩,h1,h2⟩:=this
  rw [h1]
  simp at h2
  rw [h2]
theorem qu (c:List bL) (hc:c.length≤22) (f:TS aA.d.si→Option (TS aA.d.so)) (vn vf vw:ByteArray) (o1 o2:Int) (wh:List ak) (pk:List Int) (gr:Bool) (ag:List cU)
 (hw:∀d∈c,wD d≤800) (hf:∀s i,fnd c s=some i→(s=vf∨s=vw∧sq vw ⟨#[]⟩=false)→∀hi:i<c.length,Tot (f (c,dA c[i])) fun y=>y.1.length=wD c[i]) (h1:∃i,fnd c vf=some i) (h2:sq vw ⟨#[]⟩=false→∃i,fnd c vw=some i):
 Tot (aI.b f (c,vn,vf,vw,o1,o2,wh,pk,gr,ag,())) fun y=>y.1.length=wJ c vf vw:=by
 unfold aI.b
 obtain ⟨i,hi⟩:=h1
 have li:=jJ hi
 have hn:∀s j,fnd c s=some j→∀hj:j<c.length,wN c s=wD c[j]:=fun s j h hj=>by
  unfold wN
  rw [h]
  simp only [List.getD_eq_getElem?_getD,List.getElem?_eq_getElem hj,Option.getD_some]
 simp only [jW c _ (show c.length<1000000000000000 by omega),Qa,iB hi,cD li]
 refine ah.2 ⟨by simp;omega,af.2 ((hf _ _ hi (.inl rfl) li).mono fun y hy=>?_)⟩
 have g1:=hw _ (List.getElem_mem li)
 refine ac.2 ⟨fun e=>?_,fun e=>?_⟩
 ·have e:sq vw ⟨#[]⟩=false:=by simpa using e
  obtain ⟨j,hj⟩:=h2 e
  have lj:=jJ hj
  have g2:=hw _ (List.getElem_mem lj)
  simp only [iB hj,cD lj]
  refine ah.2 ⟨by simp;omega,af.2 ((hf _ _ hj (.inr ⟨rfl,e⟩) lj).mono fun z hz=>?_)⟩
  refine ah.2 ⟨by simp;omega,?_⟩
  simp only [ai]
  unfold wJ
  rw [e,hn _ _ hi li,hn _ _ hj lj,Qb]
  simp [hy,hz]
 ·have e:sq vw ⟨#[]⟩=true:=by simpa using e
  simp only [ai]
  unfold wJ
  rw [e,hy,hn _ _ hi li,Qc,Nat.add_zero]
theorem AV (c:List bL) (d:bL) (hk:d.1≠0) (hd:Sd d) (f:TS aI.d.si→Option (TS aI.d.so)) (hf:Tot (f (c,d.2.2.1,d.2.2.2.1,d.2.2.2.2.1,d.2.2.2.2.2.1.1,d.2.2.2.2.2.1.2,d.2.2.2.2.2.2.1,d.2.2.2.2.2.2.2.1,d.2.2.2.2.2.2.2.2.1,d.2.2.2.2.2.2.2.2.2,())) fun y=>y.1.length=wJ c d.2.2.2.1 d.2.2.2.2.1)
 (hp:∀n∈d.2.2.2.2.2.2.2.1,0≤n∧n<(wJ c d.2.2.2.1 d.2.2.2.2.1:Int)) (ha:∀a∈d.2.2.2.2.2.2.2.2.2,a.1≥2→0≤a.2∧a.2<(wJ c d.2.2.2.1 d.2.2.2.2.1:Int)):Tot (aA.b f (c,dA d)) fun y=>y.1.length=wD d:=by
 unfold aA.b
 have e:(d.1==0)=false:=by simpa using hk
 have g1:=hd.s5
 have g2:=hd.s6
 have hw:wD d=d.2.2.2.2.2.2.2.1.length+d.2.2.2.2.2.2.2.2.2.length:=by unfold wD;rw [e,Qb]
 dsimp only [dA]
 rw [e,Qb]
 generalize d.2.2.2.2.2.2.2.1=pk at*
 generalize d.2.2.2.2.2.2.2.2.2=ag at*
 refine aY (fun x=>x.1=[]) (av.2 rfl) ?_
 rintro ⟨_,u⟩ rfl
 refine af.2 (hf.mono fun y hy=>?_)
 refine aY (fun x=>x.1.length=pk.length) ?_ ?_
 ·refine dk (fun x=>pk.length-x.1.toNat) (fun x=>0≤x.1∧x.1≤(pk.length:Int)∧(x.2.1.length:Int)=x.1) (by simp) ?_
  rintro ⟨i,l,_⟩ ⟨i1,i2,i3⟩
  dsimp only at i1 i2 i3 ⊢
  refine ac.2 ⟨fun h5=>?_,fun h5=>by simp at h5 ⊢;omega⟩
  simp at h5
  have:=hp _ (d9 (z:=(0:Int)) i1 h5)
  refine ah.2 ⟨by simp;omega,ah.2 ⟨by simp;omega,?_⟩⟩
  simp [eo]
  omega
 rintro ⟨l,_⟩ h1
 dsimp only at h1 ⊢
 refine aY (fun x=>x.1.length=wD d) ?_ fun x hx=>?_
 ·refine dk (fun x=>ag.length-x.1.toNat) (fun x=>0≤x.1∧x.1≤(ag.length:Int)∧(x.2.1.length:Int)=pk.length+x.1) (by simp;omega) ?_
  rintro ⟨i,l,_⟩ ⟨i1,i2,i3⟩
  dsimp only at i1 i2 i3 ⊢
  refine ac.2 ⟨fun h5=>?_,fun h5=>by simp at h5;simp [hw];omega⟩
  simp at h5
  have:=ha _ (d9 (z:=ep.z) i1 h5)
  refine ah.2 ⟨by simp;omega,ac.2 ⟨fun h6=>?_,fun h6=>ac.2 ⟨fun h7=>?_,fun h7=>?_⟩⟩⟩
  ·have h6:(gt ag i ep.z).1=2:=by simpa using h6
   have:=this (by omega)
   refine ah.2 ⟨by simp;omega,?_⟩
   simp [eo]
   omega
  ·have h7:(gt ag i ep.z).1=3:=by simpa using h7
   have:=this (by omega)
   refine ah.2 ⟨by simp;omega,?_⟩
   simp [eo]
   omega
  ·simp [eo]
   omega
 ·exact af.2 ((CD _ (by omega)).mono fun z _=>ai.2 hx)
theorem AW (c:List bL) (d:bL) (hk:d.1=0) (hd:Sd d) (f:TS aI.d.si→Option (TS aI.d.so)):Tot (aA.b f (c,dA d)) fun y=>y.1.length=wD d:=by
 unfold aA.b
 have e:(d.1==0)=true:=by simpa using hk
 have hw:wD d=d.2.1.2.1.length:=by unfold wD;rw [e,Qc]
 have:=hd.s1
 dsimp only
 rw [e,Qc,hw]
 refine aY (fun _=>False) ?_ (fun _ h=>h.elim)
 refine dk (fun x=>d.2.1.2.1.length-x.1.toNat) (fun x=>0≤x.1∧x.1≤(d.2.1.2.1.length:Int)∧(x.2.1.length:Int)=x.1∧(x.2.2.1.length:Int)=x.1) (by simp) ?_
 rintro ⟨i,l,m,_⟩ ⟨i1,i2,i3,i4⟩
 dsimp only at i1 i2 i3 i4 ⊢
 simp [eo]
 omega
theorem pr_t (c : List bL) (h : Gc c) : ∀ (n j : Nat),j < n → (hj : j < c.length) → Tot (aA.r n (c,dA c[j])) fun y => y.1.length = wD c[j]
  |0,_,h,_=>by omega
  | n + 1,j,hn,hj => by
    have hS:=h.s _ (List.getElem_mem hj)
    show Tot (aA.b (aI.b (aA.r n)) (c,dA c[j])) _
    by_cases hk:c[j].1=0
    · exact AW c _ hk hS _
    · have g:=h.g j hj
      obtain ⟨i,hi⟩:=g.f hk
      have e:=h.wj hj hk
      refine AV c _ hk hS _ (qu c h.len _ _ _ _ _ _ _ _ _ _ (fun d hd=>ni (h.s d hd)) (fun s k hs hor hk'=>?_) ⟨i,(jF hi).1⟩ fun e'=>?_) (by rw [←e];exact g.pk hk) (by rw [←e];exact g.ag hk)
      · have:k<j:=by
          rcases hor with rfl|⟨rfl,e'⟩
          · have:=jF hi
            rw [this.1] at hs
            cases hs
            exact this.2
          · obtain ⟨m,hm⟩:=g.w hk e'
            have:=jF hm
            rw [this.1] at hs
            cases hs
            exact this.2
        exact pr_t c h n k (by omega) hk'
      · obtain ⟨m,hm⟩:=g.w hk e'
        exact ⟨m,(jF hm).1⟩
theorem CE (c:List bL) (hc:Gc c) (n:ByteArray) (cs:List aB) (es:List (List ak)) (h:cs.length≤400) (h1:1≤cs.length) (he:es.length≤400):Tot (c8.F (c,n,cs,es,())) fun _=>True:=by
 rw [c8.eq];unfold c8.B
 have hl:=hc.len
 refine af.2 (Tot.mono (P:=fun _=>True) ?_ fun y _=>?_)
 ·rw [aA.eq]
  show Tot (aA.b (aI.b (aA.r 63)) _) _
  unfold aA.b
  refine aY (fun _=>False) ?_ (fun _ h=>h.elim)
  refine dk (fun x=>cs.length-x.1.toNat) (fun x=>0≤x.1∧x.1≤(cs.length:Int)∧(x.2.1.length:Int)=x.1∧(x.2.2.1.length:Int)=x.1) (by simp) ?_
  rintro ⟨i,l,m,_⟩ ⟨i1,i2,i3,i4⟩
  dsimp only at i1 i2 i3 i4 ⊢
  simp [eo]
  omega
 refine aY (fun _=>True) ?_ fun _ _=>?_
 ·refine ic cs.length fun i h0 h1=>ac.2 ⟨fun h5=>?_,fun _=>aH.2 trivial⟩
  simp at h5
  have w4:wr (i+1)=i+1:=bB (by omega) (by omega)
  refine ah.2 ⟨by simp;omega,aY (fun _=>True) ?_ fun _ _=>ac.2 ⟨fun _=>aH.2 trivial,fun _=>by simp [w4];omega⟩⟩
  refine ic cs.length fun j g0 g1=>ac.2 ⟨fun h6=>?_,fun _=>iC.2 ?_⟩
  ·simp at h6
   have w5:wr (j+1)=j+1:=bB (by omega) (by omega)
   refine aY (fun _=>True) (ah.2 ⟨by simp;omega,av.2 trivial⟩) fun _ _=>ac.2 ⟨fun _=>iC.2 ?_,fun _=>by simp [w5];omega⟩
   repeat' first|exact av.2 trivial|refine ac.2 ⟨fun _=>?_,fun _=>?_⟩
  ·repeat' first|exact av.2 trivial|refine ac.2 ⟨fun _=>?_,fun _=>?_⟩
 refine aY (fun _=>True) ?_ fun _ _=>?_
 ·refine ic cs.length fun i h0 h1'=>?_
  refine ac.2 ⟨fun h5=>?_,fun _=>by simp⟩
  simp at h5
  have w4:wr (i+1)=i+1:=bB (by omega) (by omega)
  refine ah.2 ⟨by simp;omega,ac.2 ⟨fun _=>by simp [w4];omega,fun _=>?_⟩⟩
  refine aY (fun x=>1≤x.2.1.length) ?_ ?_
  ·refine ac.2 ⟨fun _=>?_,fun _=>av.2 h1⟩
   simp only [jW c _ (show c.length<1000000000000000 by omega),Qa]
   refine ac.2 ⟨fun _=>aH.2 trivial,fun hn=>?_⟩
   obtain ⟨k,hk⟩:=jj (c:=c) (by simpa using hn)
   have lk:=jJ hk
   simp only [iB hk,cD lk]
   exact ah.2 ⟨by simp;omega,ac.2 ⟨fun _=>aH.2 trivial,fun h0=>ah.2 ⟨by simp;omega,av.2 ((hc.g k lk).t (by simpa using h0))⟩⟩⟩
  ·rintro ⟨a,b,e,_⟩ hx
   dsimp only at hx ⊢
   refine ah.2 ⟨by rw [iq];omega,?_⟩
   simp [w4]
   omega
 refine dk (fun x=>es.length-x.1.toNat) (fun x=>0≤x.1∧x.1≤(es.length:Int)) (by simp) ?_
 rintro ⟨i,l,_⟩ ⟨i1,i2⟩
 dsimp only at i1 i2 ⊢
 refine ac.2 ⟨fun h5=>?_,fun h5=>iC.2 (by simp)⟩
 simp at h5
 have w4:wr (i+1)=i+1:=bB (by omega) (by omega)
 refine aY (fun _=>True) (ah.2 ⟨by simp;omega,af.2 ((tf _ _).mono fun u _=>av.2 trivial)⟩) fun _ _=>ac.2 ⟨fun _=>iC.2 (by simp),fun _=>by simp [w4];omega⟩
theorem yV (c:List bL) (hc:Gc c) (vn vf vw:ByteArray) (o1 o2:Int) (wh:List ak) (pk:List Int) (gr:Bool) (ag:List cU) (hp:pk.length≤400) (ha:ag.length≤400) (v12:(0≤o1∧o1≤99)∧0≤o2∧o2≤99) (v6:∀a∈ag,0≤a.2):
 Tot (dE.F (c,vn,vf,vw,o1,o2,wh,pk,gr,ag,())) fun _=>True:=by
 rw [dE.eq];unfold dE.B
 have hl:=hc.len
 obtain ⟨⟨v1,v2⟩,v3,v4⟩:=v12
 simp only [jW c _ (show c.length<1000000000000000 by omega),Qa]
 refine aY (fun _=>(∃i,fnd c vf=some i)∧(sq vw ⟨#[]⟩=false→∃i,fnd c vw=some i)) ?_ ?_
 ·refine ac.2 ⟨fun _=>by simp,fun h1=>ac.2 ⟨fun h2=>ac.2 ⟨fun _=>by simp,fun h3=>?_⟩,fun h2=>?_⟩⟩
  ·simp only [av]
   exact ⟨jj (by simpa using h1),fun _=>jj (by simpa using h3)⟩
  ·simp only [av]
   exact ⟨jj (by simpa using h1),fun e=>by simp [e] at h2⟩
 rintro _ ⟨⟨i,hi⟩,g2⟩
 have li:=jJ hi
 have hrt:∀k (hk:k<c.length),Tot (aA.r 64 (c,dA c[k])) fun y=>y.1.length=wD c[k]:=fun k hk=>pr_t c hc 64 k (by omega) hk
 simp only [iB hi,cD li]
 refine ah.2 ⟨by simp;omega,af.2 (Tot.mono (P:=fun y=>y.1.length=wD c[i]) (by rw [aA.eq];exact hrt i li) fun z hz=>?_)⟩
 refine af.2 (Tot.mono (P:=fun y=>y.1.length=wJ c vf vw) ?_ fun y hy=>?_)
 ·rw [aI.eq]
  exact qu c hl _ _ _ _ _ _ _ _ _ _ (fun d hd=>ni (hc.s d hd)) (fun s k hs _ hk=>hrt k hk) ⟨i,hi⟩ g2
 have hwi:=ni (hc.s _ (List.getElem_mem li))
 have hwj:wD c[i]≤wJ c vf vw∧wJ c vf vw≤1600:=by
  have e1:wN c vf=wD c[i]:=by unfold wN;rw [hi];simp only [List.getD_eq_getElem?_getD,List.getElem?_eq_getElem li,Option.getD_some]
  unfold wJ
  rw [e1]
  refine ⟨by omega,?_⟩
  cases e:sq vw ⟨#[]⟩ with
  |true=>simp;omega
  |false=>
   obtain ⟨k,hk⟩:=g2 e
   have lk:=jJ hk
   have:=ni (hc.s _ (List.getElem_mem lk))
   have e2:wN c vw=wD c[k]:=by unfold wN;rw [hk];simp only [List.getD_eq_getElem?_getD,List.getElem?_eq_getElem lk,Option.getD_some]
   rw [e2]
   simp
   omega
 refine ah.2 ⟨by simp;omega,aY (fun _=>True) ?_ fun _ _=>ac.2 ⟨fun _=>ai.2 trivial,fun _=>?_⟩⟩
 ·refine ac.2 ⟨fun _=>ah.2 ⟨by decide,ac.2 ⟨fun _=>av.2 trivial,fun h1=>ah.2 ⟨by decide,ac.2 ⟨fun _=>av.2 trivial,fun h2=>?_⟩⟩⟩⟩,fun _=>av.2 trivial⟩
  simp at h1 h2
  exact ah.2 ⟨by decide,ah.2 ⟨by simp;omega,ah.2 ⟨by decide,ah.2 ⟨by simp;omega,av.2 trivial⟩⟩⟩⟩
 refine aY (fun x=>x.1=y.1) ?_ ?_
 ·refine ac.2 ⟨fun _=>af.2 ((tf _ _).mono fun u _=>ac.2 ⟨fun _=>by simp,fun _=>by simp⟩),fun _=>by simp⟩
 rintro ⟨l,_⟩ rfl
 dsimp only
 refine aY (fun _=>True) ?_ fun _ _=>?_
 ·refine ic pk.length fun j j0 j1=>?_
  simp [eo]
  omega
 refine aY (fun _=>True) ?_ fun _ _=>?_
 ·refine ic ag.length fun j j0 j1=>ac.2 ⟨fun h5=>?_,fun _=>aH.2 trivial⟩
  simp at h5
  have w4:wr (j+1)=j+1:=bB (by omega) (by omega)
  have:=v6 _ (d9 (z:=ep.z) j0 h5)
  refine ah.2 ⟨by simp;omega,aY (fun _=>True) ?_ fun _ _=>ac.2 ⟨fun _=>aH.2 trivial,fun _=>by simp [w4];omega⟩⟩
  refine ac.2 ⟨fun h=>ac.2 ⟨fun _=>av.2 trivial,fun h2=>ac.2 ⟨fun _=>ah.2 ⟨by simp at h2;simp;omega,av.2 trivial⟩,fun _=>av.2 trivial⟩⟩,fun h=>ac.2 ⟨fun h2=>?_,fun _=>av.2 trivial⟩⟩
  simp at h h2
  omega
 repeat' first|exact ai.2 trivial|refine ac.2 ⟨fun _=>?_,fun _=>?_⟩
abbrev cb:=Lib.compareBytes
theorem rg:∀l,cb l l=0
 | []=>rfl
 |a::r=>by simp [cb,Lib.compareBytes];exact rg r
theorem yW:∀a b,cb a b=-1∨cb a b=0∨cb a b=1
  | [],[]=> .inr (.inl rfl)
  | [],_::_=> .inl rfl
  |_::_,[]=> .inr (.inr rfl)
  | a :: x,b :: y => by
    have ih:=yW x y
    simp only [cb,Lib.compareBytes] at ih ⊢
    split
    · exact .inl rfl
    · split
      · exact .inr (.inr rfl)
      · exact ih
theorem rh {a b:UInt8} (h1:¬a<b) (h2:¬b<a):a=b:=by
 rcases UInt8.lt_or_lt_of_ne (a:=a) (b:=b)|>fun f=>Classical.em (a=b) with h|h
 ·exact h
 ·rcases UInt8.lt_or_lt_of_ne h with h|h
  ·exact absurd h h1
  ·exact absurd h h2
theorem ri : ∀ a b,cb a b = 0 → a = b
  | [],[],_=>rfl
  | [],_::_,h=>by simp [cb,Lib.compareBytes] at h
  |_::_,[],h=>by simp [cb,Lib.compareBytes] at h
  | a :: x,b :: y,h => by
    simp only [cb,Lib.compareBytes] at h
    split at h
    · cases h
    · split at h
      · cases h
      · rename_i h1 h2
        rw [rh h1 h2,ri x y h]
theorem tg : ∀ a b c,cb a b < 0 → cb b c < 0 → cb a c < 0
  | [],[],c,h,_=>by simp [cb,Lib.compareBytes] at h
  | [],_::_,[],_,h=>by simp [cb,Lib.compareBytes] at h
  | [],_::_,_::_,_,_=>by simp [cb,Lib.compareBytes]
  |_::_,[],_,h,_=>by simp [cb,Lib.compareBytes] at h
  |_::_,_::_,[],_,h=>by simp [cb,Lib.compareBytes] at h
  | a :: x,b :: y,c :: z,h,k => by
    simp only [cb,Lib.compareBytes] at h k ⊢
    by_cases h1:a<b
    · by_cases h2:b<c
      · rw [if_pos (UInt8.lt_trans h1 h2)];decide
      · by_cases h3:c<b
        · rw [if_neg h2,if_pos h3] at k;omega
        · rw [←rh h2 h3,if_pos h1];decide
    · by_cases h4:b<a
      · rw [if_neg h1,if_pos h4] at h;omega
      · have e:=rh h1 h4
        subst e
        rw [if_neg h1,if_neg h1] at h
        by_cases h2:a<c
        · rw [if_pos h2];decide
        · by_cases h3:c<a
          · rw [if_neg h2,if_pos h3] at k;omega
          · rw [if_neg h2,if_neg h3] at k ⊢
            exact tg x y z h k
theorem vO : ∀ a b,Op.bytesLess a b = decide (cb a b < 0)
  | [],[]=>rfl
  | [],_::_=>rfl
  |_::_,[]=>rfl
  | a :: x,b :: y => by
    have ih:=vO x y
    simp only [Op.bytesLess,cb,Lib.compareBytes] at ih ⊢
    by_cases h1:a<b
    · simp [h1]
    · by_cases h2:b<a
      · have:(a==b)=false:=by
          rw [beq_eq_false_iff_ne];rintro rfl;exact h1 h2
        simp [h1,h2,this]
      · have e:=rh h1 h2
        subst e
        simp [h1,ih]
def cI (a b:Int):Int:=if a<b then -1 else if a>b then 1 else 0
noncomputable def cV (x y:ap):Int:=if cI x.1 y.1≠0 then cI x.1 y.1 else if cI x.2.1 y.2.1≠0 then cI x.2.1 y.2.1 else uv x.2.2 y.2.2
theorem jl (a b:Int):(a<b∧cI a b=-1)∨(a=b∧cI a b=0)∨(b<a∧cI a b=1):=by
 unfold cI
 by_cases h1:a<b
 ·exact .inl ⟨h1,if_pos h1⟩
 ·by_cases h2:a>b
  ·exact .inr (.inr ⟨h2,by rw [if_neg h1,if_pos h2]⟩)
  ·exact .inr (.inl ⟨by omega,by rw [if_neg h1,if_neg h2]⟩)
theorem AX (x:ap):cV x x=0:=by
 unfold cV
 have h1:cI x.1 x.1=0:=by simp [cI]
 have h2:cI x.2.1 x.2.1=0:=by simp [cI]
 rw [h1,h2];simp;exact rg _
theorem AY {x y:ap} (h:cV x y=0):x=y:=by
 unfold cV at h
 rcases jl x.1 y.1 with ⟨h1,e⟩|⟨h1,e⟩|⟨h1,e⟩<;>rw [e] at h<;>simp at h
 rcases jl x.2.1 y.2.1 with ⟨h2,e'⟩|⟨h2,e'⟩|⟨h2,e'⟩<;>rw [e'] at h<;>simp at h
 have h3:=ri _ _ (show cb x.2.2.data.toList y.2.2.data.toList=0 from h)
 obtain ⟨a,b,⟨⟨s⟩⟩⟩:=x
 obtain ⟨a',b',⟨⟨s'⟩⟩⟩:=y
 simp only at h1 h2 h3
 subst h1 h2 h3
 rfl
theorem yX {x y z:ap} (h:cV x y<0) (k:cV y z<0):cV x z<0:=by
 unfold cV at h k ⊢
 have hb:=tg x.2.2.data.toList y.2.2.data.toList z.2.2.data.toList
 rcases jl x.1 y.1 with ⟨h1,e1⟩|⟨h1,e1⟩|⟨h1,e1⟩<;>rw [e1] at h<;>simp at h<;>rcases jl y.1 z.1 with ⟨g1,f1⟩|⟨g1,f1⟩|⟨g1,f1⟩<;>rw [f1] at k<;>simp at k<;>rcases jl x.1 z.1 with ⟨q1,p1⟩|⟨q1,p1⟩|⟨q1,p1⟩<;>rw [p1]<;>first|omega|skip
 all_goals simp
 rcases jl x.2.1 y.2.1 with ⟨h2,e2⟩|⟨h2,e2⟩|⟨h2,e2⟩<;>rw [e2] at h<;>simp at h<;>rcases jl y.2.1 z.2.1 with ⟨g2,f2⟩|⟨g2,f2⟩|⟨g2,f2⟩<;>rw [f2] at k<;>simp at k<;>rcases jl x.2.1 z.2.1 with ⟨q2,p2⟩|⟨q2,p2⟩|⟨q2,p2⟩<;>rw [p2]<;>first|omega|skip
 all_goals simp
 exact hb h k
theorem cI_t (a b:Int):cG.F (a,b,())=some (cI a b,()):=by
 rw [cG.eq];unfold cG.B
 have hn:∀n:Int,dm.F (n,())=some (false,()):=fun n=>by rw [dm.eq];unfold dm.B;simp
 simp only [hn,Qa,Qb,cI]
 by_cases h1:a<b
 ·simp [h1]
 ·by_cases h2:a>b
  ·simp [h1,h2]
  ·simp [h1,h2]
theorem Tot.is {A:Type} {x:Option (A×Unit)} {a:A} (h:Tot x fun y=>y.1=a):x=some (a,()):=by
 obtain ⟨⟨y,_⟩,h1,h2⟩:=h
 cases h2
 exact h1
theorem or3_i (a b c:Int):eG.F ([a,b,c],())=some (if a≠0 then a else if b≠0 then b else c,()):=by
 refine Tot.is ?_
 rw [eG.eq];unfold eG.B
 refine dk (fun x=>3-x.1.toNat) (fun x=>x.1=0∨x.1=1∧a=0∨x.1=2∧a=0∧b=0∨x.1=3∧a=0∧b=0∧c=0) (.inl rfl) ?_
 rintro ⟨i,_⟩ h
 dsimp only at h ⊢
 rcases h with rfl|⟨rfl,rfl⟩|⟨rfl,rfl,rfl⟩|⟨rfl,rfl,rfl,rfl⟩
 ·simp [gt,eo]
  exact fun h1 h2=>absurd h2 h1
 ·simp [gt,eo]
  exact fun h1 h2=>absurd h2 h1
 ·simp [gt,eo]
 ·simp
theorem cV_t (x y:ap):dd.F (x.1,x.2.1,x.2.2,y.1,y.2.1,y.2.2,())=some (cV x y,()):=by
 rw [dd.eq];unfold dd.B
 have hs:strings_Compare.F (x.2.2,y.2.2,())=some (uv x.2.2 y.2.2,()):=by rw [strings_Compare.eq];rfl
 dsimp only
 rw [cI_t,Qa,cI_t,Qa]
 refine (congrArg (fun z=>Option.bind z _) hs).trans ?_
 show Option.bind (eG.F ([cI x.1 y.1,cI x.2.1 y.2.1,uv x.2.2 y.2.2],())) (fun y4=>some (y4.1,()))=_
 rw [or3_i]
 rfl
noncomputable def kc:List ap→List ap→Int
 | [],[]=>0
 | [],_::_=>-1
 |_::_,[]=>1
 |x::a,y::b=>if cV x y≠0 then cV x y else kc a b
theorem rj (x y:ap) (a b:List ap):kc (x::a) (y::b)=if cV x y≠0 then cV x y else kc a b:=by rw [kc]
theorem BP (a b : List ap) (ha : a.length ≤ 1000) : dX.F (a,b,()) = some (kc a b,()) := by
  rw [dX.eq];unfold dX.B
  refine Tot.is (af.2 (Tot.mono (P:=fun y=>y.1=kc a b) ?_ fun y hy=>ai.2 hy))
  rw [dW.eq];unfold dW.B
  refine aY (fun _=>a.length≤b.length∧kc a b=kc [] (b.drop a.length)) ?_ fun _ h=>?_
  · refine dk (fun x=>a.length-x.1.toNat) (fun x=>∃i:Nat,x.1=(i:Int)∧i≤a.length∧i≤b.length∧kc a b=kc (a.drop i) (b.drop i)) ⟨0,rfl,by simp,by simp,by simp⟩ ?_
    rintro ⟨_,_⟩ ⟨i,rfl,h1,h2,h3⟩
    dsimp only
    refine ac.2 ⟨fun h5=>?_,fun h5=>?_⟩
    · simp at h5
      have hw:wr ((i:Int)+1)=((i+1:Nat):Int):=by rw [bB (by omega) (by omega)];omega
      refine ah.2 ⟨by simp;omega,ac.2 ⟨fun h6=>?_,fun h6=>?_⟩⟩
      · simp at h6
        refine aH.2 ?_
        dsimp only
        rw [h3,show b.drop i=[] from List.drop_eq_nil_of_le (by omega),List.drop_eq_getElem_cons h5]
        rfl
      · simp at h6
        simp only [cD h5,cD h6,cV_t,Qa,hw]
        rw [List.drop_eq_getElem_cons h5,List.drop_eq_getElem_cons h6] at h3
        rw [rj] at h3
        refine ah.2 ⟨by simp;omega,aY (fun x=>x.1=cV a[i] b[i]) (av.2 rfl) fun x hx=>ac.2 ⟨fun e=>aH.2 ?_,fun e=>av.2 ⟨⟨i+1,rfl,h5,h6,?_⟩,?_⟩⟩⟩
        · rw [hx] at e
          dsimp only
          rw [h3,if_pos (by simpa using e),hx]
        · rw [hx] at e
          rw [h3,if_neg (by simpa using e)]
        · dsimp only
          omega
    · simp at h5
      have:i=a.length:=by omega
      subst this
      refine aH.2 ⟨h2,?_⟩
      rw [h3,List.drop_length]
  · obtain ⟨h1,h2⟩:=h
    rw [h2]
    refine ac.2 ⟨fun h5=>ai.2 ?_,fun h5=>ai.2 ?_⟩
    · simp at h5
      rw [List.drop_eq_getElem_cons h5]
      rfl
    · simp at h5
      rw [List.drop_eq_nil_of_le h5]
      rfl
omit [Lk] in
theorem eqV {x y:ap}:Ty.eq ar x y=true↔x=y:=by
 obtain ⟨a,b,s⟩:=x
 obtain ⟨c,d,t⟩:=y
 simp [Ty.eq,MapKept.bytes_beq]
omit [Lk] in
theorem neV {x y:ap}:Ty.eq ar x y=false↔x≠y:=by
 rw [←Bool.not_eq_true,eqV]
structure Bn (b:List bF):Prop where
 l:b.length<1000000000000000
 r:∀x∈b,∀r∈x.2,r.1.length<1000000000000000
structure Sb (b:List bF):Prop where
 l:b.length≤6
 r:∀x∈b,x.2.length≤12
 k:∀x∈b,∀r∈x.2,r.1.length≤40
theorem AZ (l:List ap) (h:l.length<1000000000000000):Tot (fw.F (l,())) fun y=>y.1=true→l.length≤40:=by
 rw [fw.eq];unfold fw.B
 refine aY (fun _=>True) ?_ fun _ _=>ai.2 fun h=>by simp at h;omega
 refine ic l.length fun i h0 h1=>?_
 simp [eo]
 omega
theorem A0 (l:List bO) (hl:l.length≤12) (h:∀r∈l,r.1.length<1000000000000000):Tot (fy.F (l,())) fun y=>y.1=true→∀r∈l,r.1.length≤40:=by
 rw [fy.eq];unfold fy.B
 refine aY (fun _=>∀r∈l,r.1.length≤40) ?_ fun _ h=>ai.2 fun _=>h
 refine jd (l:=l) (fun r:bO=>r.1.length≤40) (fun i hi=>?_) (by simp)
 have hw:wr ((i:Int)+1)=(i:Int)+1:=bB (by omega) (by omega)
 simp only [cD hi,hw]
 refine ac.2 ⟨fun _=>ah.2 ⟨by simp;omega,af.2 ((AZ _ (h _ (List.getElem_mem hi))).mono fun y hy=>ac.2 ⟨fun _=>aH.2 (fun h=>by cases h),fun e=>av.2 ⟨rfl,hy (by simpa using e)⟩⟩)⟩,fun h=>by simp at h;omega⟩
theorem low_t (l:List bO) (hl:l.length≤12) (h:∀r∈l,r.1.length<1000000000000000):Tot (gN.F (l,())) fun y=>y.1=true→∀r∈l,r.1.length≤40:=by
 rw [gN.eq];unfold gN.B
 refine aY (fun _=>True) ?_ fun _ _=>af.2 ((A0 l hl h).mono fun y hy=>ai.2 hy)
 refine ic l.length fun i h0 h1=>?_
 simp [eo]
 omega
theorem yY (b:List bF) (hb:Bn b):Tot (fz.F (b,())) fun y=>y.1=true→Sb b:=by
 rw [fz.eq];unfold fz.B
 have hl:=hb.l
 refine aY (fun _=>∀x∈b,x.2.length≤12∧∀r∈x.2,r.1.length≤40) ?_ fun _ h=>ai.2 fun e=>⟨by simp at e;omega,fun x hx=>(h x hx).1,fun x hx=>(h x hx).2⟩
 refine jd (l:=b) (fun x:bF=>x.2.length≤12∧∀r∈x.2,r.1.length≤40) (fun i hi=>?_) (by simp)
 have hw:wr ((i:Int)+1)=(i:Int)+1:=bB (by omega) (by omega)
 simp only [cD hi,hw]
 refine ac.2 ⟨fun _=>ah.2 ⟨by simp;omega,ac.2 ⟨fun _=>aH.2 (fun h=>by cases h),fun e=>?_⟩⟩,fun h=>by simp at h;omega⟩
 simp at e
 refine ah.2 ⟨by simp;omega,af.2 ((low_t _ (by omega) (hb.r _ (List.getElem_mem hi))).mono fun y hy=>ac.2 ⟨fun _=>aH.2 (fun h=>by cases h),fun e'=>av.2 ⟨rfl,by omega,hy (by simpa using e')⟩⟩)⟩
theorem CF (x y:ap):Tot (da.F (x.1,x.2.1,x.2.2,y.1,y.2.1,y.2.2,())) fun _=>True:=by
 rw [da.eq];unfold da.B
 simp
theorem uJ (a b:List ap) (h:a.length≤40):Tot (dy.F (a,b,())) fun _=>True:=by
 rw [dy.eq];unfold dy.B
 refine aY (fun _=>True) ?_ fun _ _=>by simp
 refine ic a.length fun i h0 h1=>ac.2 ⟨fun h5=>ac.2 ⟨fun h6=>?_,fun _=>aH.2 trivial⟩,fun _=>aH.2 trivial⟩
 simp at h5 h6
 refine ah.2 ⟨by simp;omega,ah.2 ⟨by simp;omega,af.2 ((CF _ _).mono fun y _=>?_)⟩⟩
 simp [eo]
 omega
theorem qv (l:List ap):Tot (fT.F (l,())) fun _=>True:=by
 rw [fT.eq];unfold fT.B
 refine ac.2 ⟨fun h=>af.2 (Tot.mono (P:=fun _=>True) ?_ fun _ _=>ai.2 trivial),fun _=>by simp⟩
 simp at h
 rw [gu.eq];unfold gu.B
 refine ic l.length fun i h0 h1=>ac.2 ⟨fun h5=>?_,fun _=>aH.2 trivial⟩
 simp at h5
 refine ah.2 ⟨by simp;omega,af.2 ((pw _ _ _).mono fun y _=>?_)⟩
 simp [eo]
 omega
theorem CG (l:List bO) (h:l.length≤12) (hk:∀r∈l,r.1.length≤40):Tot (gv.F (l,())) fun _=>True:=by
 rw [gv.eq];unfold gv.B
 refine ic l.length fun i h0 h1=>ac.2 ⟨fun h5=>?_,fun _=>aH.2 trivial⟩
 simp at h5
 have w4:wr (i+1)=i+1:=bB (by omega) (by omega)
 have w5:wr (i-1)=i-1:=bB (by omega) (by omega)
 refine aY (fun _=>True) ?_ fun _ _=>by simp [w4];omega
 refine ah.2 ⟨by simp;omega,ac.2 ⟨fun _=>av.2 trivial,fun _=>ah.2 ⟨by simp;omega,?_⟩⟩⟩
 rw [fZ.eq];unfold fZ.B
 refine af.2 (Tot.mono (P:=fun _=>True) (by simp) fun y _=>ac.2 ⟨fun _=>av.2 trivial,fun _=>ah.2 ⟨by simp;omega,af.2 ((qv _).mono fun z _=>ac.2 ⟨fun _=>av.2 trivial,fun _=>ac.2 ⟨fun h6=>?_,fun _=>av.2 trivial⟩⟩)⟩⟩)
 simp at h6
 simp only [w5]
 have:=hk _ (d9 (z:=cX.z) (i:=i-1) (by omega) (by omega))
 exact ah.2 ⟨by simp;omega,ah.2 ⟨by simp;omega,af.2 ((uJ _ _ this).mono fun _ _=>av.2 trivial)⟩⟩
def tabs (c:List bL):List gD:=(c.filter fun d=>d.1==0).map fun d=>d.2.1
omit [Lk] in
theorem kO {c:List bL} {i:Nat} (h:i<c.length):tabs (c.take (i+1))=tabs (c.take i)++(bif c[i].1==0 then [c[i].2.1] else []):=by
 unfold tabs
 rw [←List.take_append_getElem h,List.filter_append,List.map_append]
 cases e:(c[i].1==0)<;>simp [e]
omit [Lk] in
theorem py (c:List bL):(tabs c).length≤c.length:=by
 unfold tabs
 rw [List.length_map]
 exact List.length_filter_le _ _
theorem rk (c:List bL) (h:c.length≤1000):eE.F (c,())=some (tabs c,()):=by
 refine Tot.is ?_
 rw [eE.eq];unfold eE.B
 refine dk (fun x=>c.length-x.1.toNat) (fun x=>∃i:Nat,x.1=(i:Int)∧i≤c.length∧x.2.1=tabs (c.take i)) ⟨0,rfl,by omega,rfl⟩ ?_
 rintro ⟨_,o,_⟩ ⟨i,rfl,h1,h2⟩
 dsimp only at h2 ⊢
 subst h2
 have hl:=py (c.take i)
 simp only [List.length_take] at hl
 refine ac.2 ⟨fun h5=>?_,fun h5=>aH.2 ?_⟩
 ·simp at h5
  have hw:wr ((i:Int)+1)=((i+1:Nat):Int):=by rw [bB (by omega) (by omega)];omega
  simp only [cD h5,hw]
  refine ah.2 ⟨by simp;omega,ac.2 ⟨fun e=>ah.2 ⟨by simp;omega,ah.2 ⟨by simp;omega,av.2 ⟨⟨i+1,rfl,h5,?_⟩,by dsimp only;omega⟩⟩⟩,fun e=>av.2 ⟨⟨i+1,rfl,h5,?_⟩,by dsimp only;omega⟩⟩⟩
  ·rw [kO h5,e,Qc]
  ·rw [kO h5,e,Qb,List.append_nil]
 ·simp at h5
  rw [List.take_of_length_le (by omega)]
theorem vP (c:List bL) (h:c.length≤1000):db.F (c,())=some (tabs c,()):=by
 refine Tot.is ?_
 rw [db.eq];unfold db.B
 refine dk (fun x=>c.length-x.1.toNat) (fun x=>∃i:Nat,x.1=(i:Int)∧i≤c.length∧x.2.1=tabs (c.take i)) ⟨0,rfl,by omega,rfl⟩ ?_
 rintro ⟨_,o,_⟩ ⟨i,rfl,h1,h2⟩
 dsimp only at h2 ⊢
 subst h2
 have hl:=py (c.take i)
 simp only [List.length_take] at hl
 refine ac.2 ⟨fun h5=>?_,fun h5=>aH.2 ?_⟩
 ·simp at h5
  have hw:wr ((i:Int)+1)=((i+1:Nat):Int):=by rw [bB (by omega) (by omega)];omega
  simp only [cD h5,hw]
  refine ah.2 ⟨by simp;omega,ac.2 ⟨fun e=>ah.2 ⟨by simp;omega,av.2 ⟨⟨i+1,rfl,h5,?_⟩,by dsimp only;omega⟩⟩,fun e=>av.2 ⟨⟨i+1,rfl,h5,?_⟩,by dsimp only;omega⟩⟩⟩
  ·rw [kO h5,e,Qc]
  ·rw [kO h5,e,Qb,List.append_nil]
 ·simp at h5
  rw [List.take_of_length_le (by omega)]
abbrev fst0 (l:List ap):ap:=List.getD l 0 ar.z
structure Rw (n:Nat) (l:List bO):Prop where
 e:∀r∈l,r.2=1∧r.1.length=n
 d:l.Pairwise fun q r=>fst0 q.1≠fst0 r.1
theorem vQ (n : ByteArray) (cs : List aB) (es : List (List ak)) (l : List bO) (h1 : 1 ≤ cs.length) (h : l.length ≤ 12) : Tot (fK.F (n,cs,es,l,())) fun y => y.1 = true → Rw cs.length l := by
  rw [fK.eq];unfold fK.B
  refine dk (fun x=>l.length-x.1.toNat) (fun x=>∃i:Nat,x.1=(i:Int)∧i≤l.length∧(∀(j:Nat) (hj:j<l.length),j<i→l[j].2=1∧l[j].1.length=cs.length)∧∀(j k:Nat) (hk:k<l.length) (hj:j<k),k<i→fst0 l[j].1≠fst0 l[k].1) ⟨0,rfl,by omega,fun _ _ h=>by omega,fun _ _ _ _ h=>by omega⟩ ?_
  rintro ⟨_,_⟩ ⟨i,rfl,i1,i2,i3⟩
  dsimp only
  refine ac.2 ⟨fun h5=>?_,fun h5=>aH.2 fun _=>?_⟩
  · simp at h5
    have hw:wr ((i:Int)+1)=((i+1:Nat):Int):=by rw [bB (by omega) (by omega)];omega
    simp only [cD h5,hw]
    refine aY (fun _=>(l[i].2=1∧l[i].1.length=cs.length)∧∀(j:Nat) (hj:j<i),fst0 l[j].1≠fst0 l[i].1) ?_ fun _ hq=>av.2 ⟨⟨i+1,rfl,h5,fun j hj hji=>?_,fun j k hk hjk hki=>?_⟩,by dsimp only;omega⟩
    · refine aY (fun _=>l[i].2=1∧l[i].1.length=cs.length) ?_ fun _ hr=>?_
      · refine ah.2 ⟨by simp;omega,ac.2 ⟨fun _=>aH.2 (fun h=>by cases h),fun e=>ah.2 ⟨by simp;omega,ac.2 ⟨fun _=>aH.2 (fun h=>by cases h),fun e2=>av.2 ⟨by simpa using e,by simp at e2;omega⟩⟩⟩⟩⟩
      · refine ah.2 ⟨by simp;omega,ah.2 ⟨by rw [iq];omega,ac.2 ⟨fun _=>aH.2 (fun h=>by cases h),fun _=>?_⟩⟩⟩
        refine kh i (fun j=>∀h:j<l.length,fst0 l[j].1≠fst0 l[i].1) (fun j hj=>?_) (fun hq=>?_)
        · have hw:wr ((j:Int)+1)=(j:Int)+1:=bB (by omega) (by omega)
          have hj':j<l.length:=by omega
          have:=i2 j hj' hj
          simp only [cD hj',hw]
          refine ac.2 ⟨fun _=>ah.2 ⟨by simp;omega,ah.2 ⟨by rw [iq];omega,ah.2 ⟨by simp;omega,ah.2 ⟨by rw [iq];omega,ac.2 ⟨fun _=>aH.2 (fun h=>by cases h),fun e=>av.2 ⟨rfl,fun _=>neV.1 e⟩⟩⟩⟩⟩⟩,fun h=>by simp at h;omega⟩
        · refine ac.2 ⟨fun h=>by simp at h,fun _=>aH.2 ⟨hr,fun j hj=>hq j hj (by omega)⟩⟩
    · by_cases e:j=i
      · subst e;exact hq.1
      · exact i2 j hj (by omega)
    · by_cases e:k=i
      · subst e;exact hq.2 j hjk
      · exact i3 j k hk hjk (by omega)
  · simp at h5
    refine ⟨fun r hr=>?_,List.pairwise_iff_getElem.2 fun j k hj hk hjk=>i3 j k hk hjk (by omega)⟩
    obtain ⟨j,hj,rfl⟩:=List.getElem_of_mem hr
    exact i2 j hj (by omega)
omit [Lk] in
theorem eW {a b:ByteArray}:sq a b=true↔a=b:=Lib.bytes_beq_iff a b
omit [Lk] in
theorem pz {a b:ByteArray}:sq a b=false↔a≠b:=Lib.bytes_beq_false_iff a b
structure Gb (c:List bL) (b:List bF):Prop where
 n:b.length=(tabs c).length
 m:∀(i:Nat) (h:i<b.length) (h':i<(tabs c).length),b[i].1=(tabs c)[i].1∧Rw (tabs c)[i].2.1.length b[i].2
omit [Lk] in
theorem vR {c:List bL} {t:gD} (h:t∈tabs c):∃d∈c,d.1=0∧d.2.1=t:=by
 unfold tabs at h
 obtain ⟨d,hd,e⟩:=List.mem_map.1 h
 obtain ⟨h1,h2⟩:=List.mem_filter.1 hd
 exact ⟨d,h1,by simpa using h2,e⟩
theorem mn {c:List bL} (hc:Gc c) {t:gD} (h:t∈tabs c):1≤t.2.1.length∧t.2.1.length≤400∧t.2.2.length≤400∧∀e∈t.2.2,Ex e:=by
 obtain ⟨d,hd,h0,rfl⟩:=vR h
 have hs:=hc.s d hd
 obtain ⟨j,hj,rfl⟩:=List.getElem_of_mem hd
 exact ⟨(hc.g j hj).t h0,hs.s1,hs.s2,hs.s3⟩
theorem CH {c:List bL} (hc:Gc c):(tabs c).Pairwise fun s t=>s.1≠t.1:=by
 have h1:c.Pairwise fun d e=>nmD d≠nmD e:=List.pairwise_iff_getElem.2 fun j k hj hk hjk=>by
  have:=(hc.g k hk).nm
  have:=List.findIdx?_eq_none_iff.1 this c[j] (List.mem_take_iff_getElem.2 ⟨j,by omega,rfl⟩)
  exact pz.1 this
 unfold tabs
 refine List.pairwise_map.2 ((h1.filter _).imp_of_mem ?_)
 intro d e hd he h
 have d0:=(List.mem_filter.1 hd).2
 have e0:=(List.mem_filter.1 he).2
 unfold nmD at h
 simp only [d0,e0,Qc] at h
 exact h
theorem yZ (c:List bL) (hl:c.length≤22) (hs:∀d∈c,Sd d) (b:List bF) (hb:Sb b):Tot (fW.F (c,b,())) fun y=>y.1=true→Gc c∧Gb c b:=by
 rw [fW.eq];unfold fW.B
 refine af.2 ((uF c hl hs).mono fun y hy=>ac.2 ⟨fun _=>ai.2 (fun h=>by cases h),fun e=>?_⟩)
 have hc:=hy (by simpa using e)
 simp only [rk c (by omega),Qa]
 have hbl:=hb.l
 refine ac.2 ⟨fun _=>ai.2 (fun h=>by cases h),fun e=>?_⟩
 have hn:(tabs c).length=b.length:=by simp at e;omega
 refine kh (tabs c).length (fun i=>∀(h:i<b.length) (h':i<(tabs c).length),b[i].1=(tabs c)[i].1∧Rw (tabs c)[i].2.1.length b[i].2) (fun i hi=>?_) (fun h=>?_)
 ·have hi':i<b.length:=by omega
  have hw:wr ((i:Int)+1)=(i:Int)+1:=bB (by omega) (by omega)
  have g1:gt b (i:Int) eB.z=b[i]:=cD hi' _
  have g2:List.getD (tabs c) (Int.toNat (i:Int)) iW.z=(tabs c)[i]:=cD hi _
  simp only [g1,g2,hw]
  have hm:=List.getElem_mem hi'
  have ht:=mn hc (List.getElem_mem hi)
  refine ac.2 ⟨fun _=>ah.2 ⟨by simp;omega,ah.2 ⟨by simp;omega,ac.2 ⟨fun _=>aH.2 (fun h=>by cases h),fun e=>ah.2 ⟨by simp;omega,?_⟩⟩⟩⟩,fun h=>by simp at h;omega⟩
  refine af.2 ((CG _ (hb.r _ hm) (hb.k _ hm)).mono fun y _=>ac.2 ⟨fun _=>aH.2 (fun h=>by cases h),fun _=>ah.2 ⟨by simp;omega,ah.2 ⟨by simp;omega,?_⟩⟩⟩)
  exact af.2 ((vQ _ _ _ _ ht.1 (hb.r _ hm)).mono fun z hz=>ac.2 ⟨fun _=>aH.2 (fun h=>by cases h),fun e'=>av.2 ⟨rfl,fun _ _=>⟨eW.1 (by simpa using e),hz (by simpa using e')⟩⟩⟩)
 ·exact ac.2 ⟨fun h=>by simp at h,fun _=>aH.2 fun _=>⟨hc,hn.symm,fun i h1 h2=>h i h2 h1 h2⟩⟩
def fl (b:List bF) (s:ByteArray):List bO:=match b.find? fun x=>sq x.1 s with
 |some x=>x.2
 |none=> []
omit [Lk] in
theorem th (b:List bF) (s:ByteArray):fl b s=[]∨∃x∈b,x.1=s∧fl b s=x.2:=by
 unfold fl
 cases h:b.find? fun x=>sq x.1 s with
 |none=>exact .inl rfl
 |some x=>exact .inr ⟨x,List.mem_of_find?_eq_some h,eW.1 (by have:=List.find?_some h;exact this),rfl⟩
omit [Lk] in
theorem rl {b:List bF} {s:ByteArray} {i:Nat} (h:i<b.length) (h1:b[i].1=s) (h2:∀(j:Nat) (hj:j<i),b[j].1≠s):fl b s=b[i].2:=by
 unfold fl
 have:(b.find? fun x=>sq x.1 s)=some b[i]:=List.find?_eq_some_iff_getElem.2 ⟨eW.2 h1,i,h,rfl,fun j hj=>by rw [pz.2 (h2 j hj)];rfl⟩
 rw [this]
omit [Lk] in
theorem vS {b:List bF} {s:ByteArray} (h:∀x∈b,x.1≠s):fl b s=[]:=by
 unfold fl
 have:(b.find? fun x=>sq x.1 s)=none:=List.find?_eq_none.2 fun x hx=>by rw [pz.2 (h x hx)];simp
 rw [this]
theorem oE (b:List bF) (s:ByteArray) (hb:b.length≤1000):ge.F (b,s,())=some (fl b s,()):=by
 refine Tot.is ?_
 rw [ge.eq];unfold ge.B
 refine dk (fun x=>b.length-x.1.toNat) (fun x=>∃i:Nat,x.1=(i:Int)∧i≤b.length∧∀(j:Nat) (hj:j<b.length),j<i→b[j].1≠s) ⟨0,rfl,by omega,fun j _ h=>by omega⟩ ?_
 rintro ⟨_,u⟩ ⟨i,rfl,h1,h2⟩
 dsimp only
 refine ac.2 ⟨fun h5=>?_,fun h5=>aH.2 ?_⟩
 ·simp at h5
  have hw:wr ((i:Int)+1)=((i+1:Nat):Int):=by rw [bB (by omega) (by omega)];omega
  simp only [cD h5,hw]
  refine ah.2 ⟨by simp;omega,ac.2 ⟨fun e=>ah.2 ⟨by simp;omega,aH.2 ?_⟩,fun e=>av.2 ⟨⟨i+1,rfl,h5,fun j hj hji=>?_⟩,by dsimp only;omega⟩⟩⟩
  ·exact (rl h5 (eW.1 e) fun j hj=>h2 j (by omega) hj).symm
  ·by_cases ej:j=i
   ·subst ej;exact pz.1 e
   ·exact h2 j hj (by omega)
 ·simp at h5
  exact (vS fun x hx=>by
   obtain ⟨j,hj,rfl⟩:=List.getElem_of_mem hx
   exact h2 j hj (by omega)).symm
theorem rm (b:List bF) (s:ByteArray) (hb:b.length≤1000):eV.F (b,s,())=some (fl b s,()):=by
 refine Tot.is ?_
 rw [eV.eq];unfold eV.B
 refine dk (fun x=>b.length-x.1.toNat) (fun x=>∃i:Nat,x.1=(i:Int)∧i≤b.length∧∀(j:Nat) (hj:j<b.length),j<i→b[j].1≠s) ⟨0,rfl,by omega,fun j _ h=>by omega⟩ ?_
 rintro ⟨_,u⟩ ⟨i,rfl,h1,h2⟩
 dsimp only
 refine ac.2 ⟨fun h5=>?_,fun h5=>iC.2 (ac.2 ⟨fun _=>ai.2 ?_,fun h=>by simp at h⟩)⟩
 ·simp at h5
  have hw:wr ((i:Int)+1)=((i+1:Nat):Int):=by rw [bB (by omega) (by omega)];omega
  simp only [cD h5,hw]
  refine aY (fun x=>x.1=sq b[i].1 s) (ah.2 ⟨by simp;omega,av.2 rfl⟩) fun x hx=>ac.2 ⟨fun e=>iC.2 (ac.2 ⟨fun h=>by simp at h;omega,fun _=>ah.2 ⟨by simp;omega,ai.2 ?_⟩⟩),fun e=>av.2 ⟨⟨i+1,rfl,h5,fun j hj hji=>?_⟩,by dsimp only;omega⟩⟩
  ·rw [hx] at e
   exact (rl h5 (eW.1 e) fun j hj=>h2 j (by omega) hj).symm
  ·rw [hx] at e
   by_cases ej:j=i
   ·subst ej;exact pz.1 e
   ·exact h2 j hj (by omega)
 ·simp at h5
  exact (vS fun x hx=>by
   obtain ⟨j,hj,rfl⟩:=List.getElem_of_mem hx
   exact h2 j hj (by omega)).symm
theorem y0 {c:List bL} {b:List bF} (hc:Gc c) (hb:Gb c b) {i:Nat} (h:i<(tabs c).length):fl b (tabs c)[i].1=(b[i]'(by rw [hb.n];exact h)).2:=by
 have h':i<b.length:=by rw [hb.n];exact h
 refine rl h' (hb.m i h' h).1 fun j hj=>?_
 rw [(hb.m j (by omega) (by omega)).1]
 exact List.pairwise_iff_getElem.1 (CH hc) j i (by omega) h hj
def Yes (x:Option (Bool×Unit)):Prop:=x=some (true,())
omit [Lk] in
theorem mo {x:Option (Bool×Unit)} {b:Bool} {u:Unit} (h:x=some (b,u)):Yes x↔b=true:=by
 subst h
 simp [Yes]
theorem CI (n:Int):Tot (fM.F (n,())) fun _=>True:=by
 rw [fM.eq];unfold fM.B
 simp
theorem za (l:List ap):Tot (fX.F (l,())) fun _=>True:=by
 rw [fX.eq];unfold fX.B
 refine ac.2 ⟨fun h=>?_,fun _=>by simp⟩
 simp at h
 refine ic l.length fun i h0 h1=>ac.2 ⟨fun h5=>?_,fun _=>aH.2 trivial⟩
 simp at h5
 have w4:wr (i+1)=i+1:=bB (by omega) (by omega)
 refine aY (fun _=>True) ?_ fun _ _=>ac.2 ⟨fun _=>aH.2 trivial,fun _=>by simp [w4];omega⟩
 refine ah.2 ⟨by simp;omega,?_⟩
 rw [eX.eq];unfold eX.B
 exact af.2 (af.2 ((ln _ _ _).mono fun y _=>ai.2 (av.2 trivial)))
def Rk (r:bO):Prop:=r.2≠0∧Yes (fM.F (r.2,()))∧Yes (fX.F (r.1,()))
def Bk (l:List bO):Prop:=∀(i:Nat) (h:i<l.length),Rk l[i]∧∀(h0:0<i) (h1:i-1<l.length),kc l[i-1].1 l[i].1<0
theorem BQ    (l : List bO) (hl : l.length ≤ 12) (hk : ∀ r ∈ l,r.1.length ≤ 40) : Tot (gx.F (l,())) fun y => y.1 = true ↔ Bk l := by
  rw [gx.eq];unfold gx.B
  refine kh l.length (fun i=>∀(h:i<l.length),Rk l[i]∧∀(h0:0<i) (h1:i-1<l.length),kc l[i-1].1 l[i].1<0) (fun i hi=>?_) fun h=>?_
  · have hw : wr ((i : Int) + 1) = (i : Int) + 1 := bB (by omega) (by omega)
    simp only [cD hi,hw]
    refine ac.2 ⟨fun _=>ah.2 ⟨by simp;omega,aY (fun x=>x.1=true↔¬(Rk l[i]∧∀(h0:0<i) (h1:i-1<l.length),kc l[i-1].1 l[i].1<0)) ?_ fun x hx=>ac.2 ⟨fun e=>aH.2 ?_,fun e=>av.2 ⟨rfl,fun _=>?_⟩⟩⟩,fun h=>by simp at h;omega⟩
    · refine ac.2 ⟨fun e=>av.2 ?_,fun e=>?_⟩
      · have e:l[i].2=0:=by simpa using e
        simp only [true_iff]
        exact fun h=>h.1.1 e
      · have e:l[i].2≠0:=by simpa using e
        obtain ⟨⟨b,u⟩,hb,_⟩:=CI l[i].2
        simp only [hb,Qa]
        refine ac.2 ⟨fun e2=>av.2 ?_,fun e2=>?_⟩
        · simp only [true_iff]
          intro h
          have:=(mo hb).1 h.1.2.1
          simp [this] at e2
        · obtain ⟨⟨d,v⟩,hd,_⟩:=za l[i].1
          simp only [hd,Qa]
          refine ac.2 ⟨fun e3=>av.2 ?_,fun e3=>?_⟩
          · simp only [true_iff]
            intro h
            have:=(mo hd).1 h.1.2.2
            simp [this] at e3
          · have hR:Rk l[i]:=⟨e,(mo hb).2 (by simpa using e2),(mo hd).2 (by simpa using e3)⟩
            refine ac.2 ⟨fun e4=>?_,fun e4=>av.2 ?_⟩
            · simp at e4
              have h1:i-1<l.length:=by omega
              have w1:wr ((i:Int)-1)=((i-1:Nat):Int):=by rw [bB (by omega) (by omega)];omega
              simp only [w1,cD h1]
              refine ah.2 ⟨by simp;omega,?_⟩
              simp only [BP _ _ (show l[i-1].1.length≤1000 by have:=hk _ (List.getElem_mem h1);omega),Qa,av]
              simp only [decide_eq_true_eq,not_and,ge_iff_le]
              constructor
              · intro h _ h2
                have:=h2 e4 h1
                omega
              · intro h
                have:=h hR
                have:¬kc l[i-1].1 l[i].1<0:=fun h3=>this fun _ _=>h3
                exact Int.not_lt.1 this
            · simp at e4
              simp only [Bool.false_eq_true,false_iff,Classical.not_not]
              exact ⟨hR,fun h _=>by omega⟩
    · simp only [Bool.false_eq_true,false_iff]
      exact fun h=>(hx.1 e) (h i hi)
    · refine Classical.byContradiction fun h=>?_
      have:=hx.2 h
      rw [e] at this
      cases this
  · exact ac.2 ⟨fun h=>by simp at h,fun _=>aH.2 (by simp only [true_iff];exact fun i hi=>h i hi hi)⟩
structure Ci (x:bF) (t:gD):Prop where
 n:x.1=t.1
 b:Bk x.2
 r:∀(i:Nat) (h:i<x.2.length),(x.2[i].2=1∧x.2[i].1.length=t.2.1.length∧(fst0 x.2[i].1).1≠0)∧∀(h0:0<i) (h1:i-1<x.2.length),fst0 x.2[i-1].1≠fst0 x.2[i].1
structure Cm (c:List bL) (b:List bF):Prop where
 s:Yes (schema_May.F (c,()))
 n:(tabs c).length=b.length
 m:∀(i:Nat) (h:i<b.length) (h':i<(tabs c).length),Ci b[i] (tabs c)[i]
theorem CJ (c : List bL) (hc : Gc c) (hs0 : Tot (schema_May.F (c,())) fun _ => True) (b : List bF) (hb : Sb b) (h1 : ∀ x ∈ b,∀ r ∈ x.2,1 ≤ r.1.length) : Tot (di.F (c,b,())) fun y => y.1 = true ↔ Cm c b := by
  rw [di.eq];unfold di.B
  have hl:=hb.l
  have hcl:=hc.len
  obtain ⟨⟨s,u⟩,hs,_⟩:=hs0
  simp only [hs,Qa,vP c (show c.length≤1000 by omega)]
  refine ac.2 ⟨fun e=>ai.2 ?_,fun e=>ac.2 ⟨fun e2=>ai.2 ?_,fun e2=>?_⟩⟩
  · simp only [Bool.false_eq_true,false_iff]
    intro h
    have:=(mo hs).1 h.s
    simp [this] at e
  · simp only [Bool.false_eq_true,false_iff]
    intro h
    have:=h.n
    simp at e2
    omega
  have hS:Yes (schema_May.F (c,())):=(mo hs).2 (by simpa using e)
  have hn:(tabs c).length=b.length:=by simp at e2;omega
  refine kh b.length (fun i=>∀(h:i<b.length) (h':i<(tabs c).length),Ci b[i] (tabs c)[i]) (fun i hi=>?_) fun h=>?_
  · have hw : wr ((i : Int) + 1) = (i : Int) + 1 := bB (by omega) (by omega)
    have hi':i<(tabs c).length:=by omega
    have g2:List.getD (tabs c) (Int.toNat (i:Int)) iW.z=(tabs c)[i]:=cD hi' _
    simp only [cD hi,hw,g2]
    have hm:=List.getElem_mem hi
    have hrl:=hb.r _ hm
    have hrk:=hb.k _ hm
    have hr1:=h1 _ hm
    have ht:=(mn hc (List.getElem_mem hi')).1
    have no:¬Ci b[i] (tabs c)[i]→¬Cm c b:=fun h h2=>h (h2.m i hi hi')
    refine ac.2 ⟨fun _=>aY (fun _=>Ci b[i] (tabs c)[i]) ?_ fun _ hx=>av.2 ⟨rfl,fun _ _=>hx⟩,fun h=>by simp at h;omega⟩
    refine ah.2 ⟨by simp;omega,aY (fun _=>b[i].1=(tabs c)[i].1∧Bk b[i].2) ?_ fun _ hx=>?_⟩
    · refine ah.2 ⟨by simp;omega,ac.2 ⟨fun e=>aH.2 ?_,fun e=>af.2 ((BQ _ hrl hrk).mono fun y hy=>ac.2 ⟨fun e2=>aH.2 ?_,fun e2=>av.2 ⟨?_,?_⟩⟩)⟩⟩
      · simp only [Bool.false_eq_true,false_iff]
        refine no fun h=>?_
        rw [eW.2 h.n] at e
        cases e
      · simp only [Bool.false_eq_true,false_iff]
        refine no fun h=>?_
        rw [hy.2 h.b] at e2
        cases e2
      · exact eW.1 (by simpa using e)
      · exact hy.1 (by simpa using e2)
    · refine kh b[i].2.length (fun j=>∀(h:j<b[i].2.length),(b[i].2[j].2=1∧b[i].2[j].1.length=(tabs c)[i].2.1.length∧(fst0 b[i].2[j].1).1≠0)∧∀(h0:0<j) (h1:j-1<b[i].2.length),fst0 b[i].2[j-1].1≠fst0 b[i].2[j].1) (fun j hj=>?_) fun h=>?_
      · have hw:wr ((j:Int)+1)=(j:Int)+1:=bB (by omega) (by omega)
        simp only [cD hj,hw]
        have hj1:=hr1 _ (List.getElem_mem hj)
        refine ac.2 ⟨fun _=>ah.2 ⟨by simp;omega,aY (fun x=>x.1=true↔¬((b[i].2[j].2=1∧b[i].2[j].1.length=(tabs c)[i].2.1.length∧(fst0 b[i].2[j].1).1≠0)∧∀(h0:0<j) (h1:j-1<b[i].2.length),fst0 b[i].2[j-1].1≠fst0 b[i].2[j].1)) ?_ fun x hx=>ac.2 ⟨fun e=>aH.2 ?_,fun e=>av.2 ⟨rfl,fun _=>?_⟩⟩⟩,fun h=>by simp at h;omega⟩
        · refine ac.2 ⟨fun e=>av.2 ?_,fun e=>ah.2 ⟨by simp;omega,ac.2 ⟨fun e2=>av.2 ?_,fun e2=>ah.2 ⟨by rw [iq];omega,ac.2 ⟨fun e3=>av.2 ?_,fun e3=>ac.2 ⟨fun e4=>?_,fun e4=>av.2 ?_⟩⟩⟩⟩⟩⟩
          · simp only [true_iff]
            intro h
            simp [h.1.1] at e
          · simp only [true_iff]
            intro h
            simp [h.1.2.1] at e2
          · simp only [true_iff]
            intro h
            exact h.1.2.2 (by simpa using e3)
          · simp at e4
            have hj':j-1<b[i].2.length:=by omega
            have w1:wr ((j:Int)-1)=((j-1:Nat):Int):=by rw [bB (by omega) (by omega)];omega
            have hj2:=hr1 _ (List.getElem_mem hj')
            simp only [w1,cD hj']
            refine ah.2 ⟨by simp;omega,ah.2 ⟨by rw [iq];omega,ah.2 ⟨by rw [iq];omega,av.2 ?_⟩⟩⟩
            dsimp only
            rw [eqV]
            constructor
            · intro h h2
              exact h2.2 e4 hj' h
            · intro h
              refine Classical.byContradiction fun h3=>h ⟨⟨by simpa using e,by simp at e2;omega,by simpa using e3⟩,fun _ _=>h3⟩
          · simp at e4
            simp only [Bool.false_eq_true,false_iff,Classical.not_not]
            exact ⟨⟨by simpa using e,by simp at e2;omega,by simpa using e3⟩,fun h _=>by omega⟩
        · simp only [Bool.false_eq_true,false_iff]
          exact no fun h=>(hx.1 e) (h.r j hj)
        · refine Classical.byContradiction fun h=>?_
          have:=hx.2 h
          rw [e] at this
          cases this
      · exact ac.2 ⟨fun h=>by simp at h,fun _=>aH.2 ⟨hx.1,hx.2,fun j hj=>h j hj hj⟩⟩
  · exact ac.2 ⟨fun h=>by simp at h,fun _=>aH.2 (by simp only [true_iff];exact ⟨hS,hn,fun i h1 h2=>h i h1 h1 h2⟩)⟩
theorem zb (ok:Bool) (ks st:List ap) (h:st.length≤100000):Tot (aG.F (ok,ks,st,())) fun y=>y.2.2.2.2.2.1.length≤st.length:=by
 rw [aG.eq];unfold aG.B
 refine ac.2 ⟨fun _=>by simp,fun e=>?_⟩
 simp at e
 have:st.length≠0:=fun h=>e (List.length_eq_zero_iff.1 h)
 have hw:wr ((st.length:Int)-1)=(st.length:Int)-1:=bB (by omega) (by omega)
 simp only [hw]
 exact ah.2 ⟨by simp;omega,ah.2 ⟨by simp;omega,ai.2 (by simp)⟩⟩
theorem A1 (a b:Int) (s:ByteArray) (ok:Bool) (ks st:List ap) (h:st.length≤100000):Tot (aK.F (a,b,s,ok,ks,st,())) fun y=>y.2.2.1.length=st.length+1:=by
 rw [aK.eq];unfold aK.B
 simp
 omega
theorem jP (b:Bool):Tot (cj.F (b,())) fun _=>True:=by
 rw [cj.eq];unfold cj.B
 simp
theorem CK (a b:Int) (s:ByteArray) (c d:Int) (t:ByteArray):Tot (ef.F (a,b,s,c,d,t,())) fun _=>True:=by
 rw [ef.eq];unfold ef.B
 refine aY (fun _=>True) ?_ fun _ _=>?_
 ·exact aY (fun _=>True) (by simp) fun _ _=>by simp
 refine aY (fun _=>True) ?_ fun _ _=>by simp
 rw [dH.eq];unfold dH.B
 simp
theorem CL (a b:Int) (s:ByteArray) (c d:Int) (t:ByteArray):Tot (eg.F (a,b,s,c,d,t,())) fun _=>True:=by
 rw [eg.eq];unfold eg.B
 refine aY (fun _=>True) ?_ fun _ _=>?_
 ·exact aY (fun _=>True) (by simp) fun _ _=>by simp
 refine aY (fun _=>True) ?_ fun _ _=>by simp
 rw [dI.eq];unfold dI.B
 simp
theorem CM (a b:Int) (s:ByteArray) (c d:Int) (t:ByteArray):Tot (eh.F (a,b,s,c,d,t,())) fun _=>True:=by
 rw [eh.eq];unfold eh.B
 refine aY (fun _=>True) ?_ fun _ _=>?_
 ·exact aY (fun _=>True) (by simp) fun _ _=>by simp
 refine aY (fun _=>True) ?_ fun _ _=>by simp
 rw [dJ.eq];unfold dJ.B
 have am:∀n,Tot (dj.F (n,())) fun _=>True:=fun n=>by
  rw [dj.eq];unfold dj.B
  simp
 have mu:∀n m,Tot (bX.F (n,m,())) fun _=>True:=fun n m=>by
  rw [bX.eq];unfold bX.B
  simp
 refine af.2 (af.2 ((am _).mono fun y _=>af.2 ((am _).mono fun z _=>af.2 ((mu _ _).mono fun u _=>by simp))))
theorem vT (b:Bool) (l:List ap) (h:l.length≤100):Tot (dF.F (b,l,())) fun _=>True:=by
 rw [dF.eq];unfold dF.B
 refine af.2 ((jP _).mono fun y _=>af.2 ((jP _).mono fun z _=>af.2 (Tot.mono (P:=fun _=>True) ?_ fun u _=>ac.2 ⟨fun _=>by simp,fun _=>?_⟩)))
 ·rw [ao.eq];unfold ao.B
  rw [ax.eq];unfold ax.B
  refine af.2 (Tot.mono (P:=fun _=>True) (ic l.length fun i h0 h1=>?_) fun _ _=>by simp)
  simp [eo]
  omega
 ·refine ic l.length fun i h0 h1=>ac.2 ⟨fun h5=>?_,fun _=>iC.2 (by simp)⟩
  simp at h5
  have w4:wr (i+1)=i+1:=bB (by omega) (by omega)
  exact aY (fun _=>True) (ah.2 ⟨by simp;omega,av.2 trivial⟩) fun _ _=>ac.2 ⟨fun _=>iC.2 (by simp),fun _=>by simp [w4];omega⟩
theorem CN (o a b:Int) (s:ByteArray) (c d:Int) (t:ByteArray):Tot (dw.F (o,a,b,s,c,d,t,())) fun _=>True:=by
 rw [dw.eq];unfold dw.B
 have tr:∀b,Tot (Option.bind (cj.F (b,())) fun y=>some (y.1,y.2.1,y.2.2.1,())) fun _=>True:=fun b=>af.2 ((jP b).mono fun _ _=>ai.2 trivial)
 refine aY (fun _=>True) (by simp) fun _ _=>?_
 have:=cV_t (a,b,s) (c,d,t)
 dsimp only at this
 simp only [this,Qa]
 exact ac.2 ⟨fun _=>ac.2 ⟨fun _=>tr _,fun _=>ac.2 ⟨fun _=>tr _,fun _=>tr _⟩⟩,fun _=>ac.2 ⟨fun _=>tr _,fun _=>tr _⟩⟩
theorem BR (o a b:Int) (s:ByteArray) (c d:Int) (t:ByteArray):Tot (gy.F (o,a,b,s,c,d,t,())) fun _=>True:=by
 rw [gy.eq];unfold gy.B
 refine ac.2 ⟨fun _=>af.2 ((CK _ _ _ _ _ _).mono fun _ _=>ai.2 trivial),fun _=>ac.2 ⟨fun _=>af.2 ((CL _ _ _ _ _ _).mono fun _ _=>ai.2 trivial),fun _=>ac.2 ⟨fun _=>af.2 ((CM _ _ _ _ _ _).mono fun _ _=>ai.2 trivial),fun _=>?_⟩⟩⟩
 refine ac.2 ⟨fun _=>?_,fun _=>ac.2 ⟨fun _=>?_,fun _=>ac.2 ⟨fun _=>?_,fun _=>ac.2 ⟨fun _=>af.2 ((jP _).mono fun _ _=>ai.2 trivial),fun _=>af.2 ((CN _ _ _ _ _ _ _).mono fun _ _=>ai.2 trivial)⟩⟩⟩⟩
 ·rw [eY.eq];unfold eY.B
  exact af.2 (af.2 ((vT _ _ (by simp)).mono fun _ _=>ai.2 (ai.2 trivial)))
 ·rw [fU.eq];unfold fU.B
  exact af.2 (af.2 ((vT _ _ (by simp)).mono fun _ _=>ai.2 (ai.2 trivial)))
 ·rw [eZ.eq];unfold eZ.B
  refine af.2 (af.2 ((jP _).mono fun _ _=>ac.2 ⟨fun _=>af.2 ((jP _).mono fun _ _=>ai.2 (ai.2 trivial)),fun _=>af.2 ((jP _).mono fun _ _=>ac.2 ⟨fun _=>af.2 ((jP _).mono fun _ _=>ai.2 (ai.2 trivial)),fun _=>ai.2 (ai.2 trivial)⟩)⟩))
theorem A2 (a b c d:Int) (s:ByteArray) (ok:Bool) (ks st:List ap) (h:st.length≤10000):Tot (bz.F (a,b,c,d,s,ok,ks,st,())) fun y=>y.2.2.2.1.length≤st.length+1:=by
 rw [bz.eq];unfold bz.B
 obtain ⟨⟨t,_⟩,ht,t2,t3⟩:=tc a
 dsimp only at t2 t3
 simp only [ht,Qa]
 refine aY (fun x=>x.2.2.1.length≤st.length) ?_ ?_
 ·exact ac.2 ⟨fun _=>af.2 ((zb _ _ _ (by omega)).mono fun y hy=>av.2 hy),fun _=>av.2 (Nat.le_refl _)⟩
 rintro ⟨ok,ks,st1,v1,v2,v3,_⟩ h1
 dsimp only at h1 ⊢
 refine aY (fun x=>x.2.2.1.length≤st.length) ?_ ?_
 ·exact ac.2 ⟨fun _=>af.2 ((zb _ _ _ (by omega)).mono fun y hy=>av.2 (by dsimp only;omega)),fun _=>av.2 h1⟩
 rintro ⟨ok,ks,st2,u1,u2,u3,_⟩ h2
 dsimp only at h2 ⊢
 have dn:∀n,Tot (α:=Int×Bool×List ap×List ap×Unit) (some (n,ok,ks,st2,())) fun y=>y.2.2.2.1.length≤st.length+1:=fun n=>ai.2 (by dsimp only;omega)
 have psh:∀x y z,Tot (Option.bind (aK.F (x,y,z,ok,ks,st2,())) fun y8=>some ((0:Int),y8.1,y8.2.1,y8.2.2.1,())) fun y=>y.2.2.2.1.length≤st.length+1:=fun x y z=>af.2 ((A1 x y z ok ks st2 (by omega)).mono fun y hy=>ai.2 (by dsimp only;omega))
 refine aY (fun x=>x.1=false→0≤t) ?_ fun x hx=>ac.2 ⟨fun _=>dn _,fun e=>?_⟩
 ·exact ac.2 ⟨fun _=>av.2 (fun h=>by cases h),fun _=>av.2 (fun h=>by simpa using h)⟩
 have ht0:=hx e
 refine ac.2 ⟨fun _=>ac.2 ⟨fun _=>dn _,fun e1=>ac.2 ⟨fun _=>dn _,fun e2=>?_⟩⟩,fun _=>ac.2 ⟨fun _=>af.2 ((ln _ _ _).mono fun z _=>ac.2 ⟨fun _=>dn _,fun _=>psh _ _ _⟩),fun _=>?_⟩⟩
 ·simp at e1 e2
  exact ah.2 ⟨by simp;omega,psh _ _ _⟩
 ·have w1:wr (2-t)=2-t:=bB (by omega) (by omega)
  simp only [w1]
  refine ah.2 ⟨by simp;omega,af.2 ((qt a _ ?_ ?_).mono fun z _=>ac.2 ⟨fun _=>dn _,fun _=>af.2 ((BR _ _ _ _ _ _ _).mono fun y hy=>ac.2 ⟨fun _=>dn _,fun _=>psh _ _ _⟩)⟩)⟩
  ·simp
   omega
  ·intro h
   have:=t3 h
   subst this
   rfl
theorem CO (e:List ak) (l:List ap):Tot (eM.F (e,l,())) fun _=>True:=by
 rw [eM.eq];unfold eM.B
 refine ac.2 ⟨fun _=>by simp,fun h=>?_⟩
 simp at h
 refine aY (fun _=>True) ?_ fun x _=>?_
 ·refine dk (fun x=>e.length-x.1.toNat) (fun x=>0≤x.1∧x.1≤(e.length:Int)∧(x.2.2.2.1.length:Int)≤x.1) (by simp) ?_
  rintro ⟨i,ok,k,st,_⟩ ⟨i1,i2,i3⟩
  dsimp only at i1 i2 i3 ⊢
  refine ac.2 ⟨fun h5=>?_,fun h5=>aH.2 trivial⟩
  simp at h5
  have hw:wr (i+1)=i+1:=bB (by omega) (by omega)
  refine ah.2 ⟨by simp;omega,af.2 ((A2 _ _ _ _ _ _ _ _ (by omega)).mono fun y hy=>ac.2 ⟨fun _=>aH.2 trivial,fun _=>?_⟩)⟩
  simp only [av,hw]
  exact ⟨⟨by omega,by omega,by omega⟩,by omega⟩
 ·rw [bj.eq];unfold bj.B
  refine af.2 (Tot.mono (P:=fun _=>True) ?_ fun y _=>ac.2 ⟨fun _=>ai.2 trivial,fun _=>ai.2 trivial⟩)
  simp
  omega
abbrev vl (r:bO) (k:Nat):ap:=List.getD r.1 k ar.z
omit [Lk] in
theorem pA {α:Type} (xs:List α) (k:Nat) (z:α):gt xs (k:Int) z=List.getD xs k z:=by
 unfold gt
 rw [Int.toNat_natCast]
def okK (v:ap) (c:aB):Prop:=v.1=c.2.1∨(c.2.2.1=true∧v.1=0)
def Kd (cs:List aB) (rows:List bO):Prop:=∀r∈rows,∀(k:Nat) (h:k<cs.length),okK (vl r k) cs[k]
omit [Lk] in
theorem ro {y:Int} {P:Prop} (h:0≤y) (h2:¬P):y<0↔P:=⟨fun h3=>by omega,fun h3=>absurd h3 h2⟩
theorem A3 (n : ByteArray) (cs : List aB) (es : List (List ak)) (rows : List bO) (b : List bF) (hc : cs.length ≤ 400) (hr : rows.length ≤ 12) (hl : ∀ r ∈ rows,r.1.length = cs.length) :
    Tot (bK.F (n,cs,es,rows,b,())) fun y=>y.1<0↔Kd cs rows:=by
  rw [bK.eq];unfold bK.B
  refine jd (l:=rows) (fun r=>∀(k:Nat) (h:k<cs.length),okK (vl r k) cs[k]) (fun i hi=>?_) fun h=>?_
  · have hw:wr ((i:Int)+1)=(i:Int)+1:=bB (by omega) (by omega)
    have hL:=hl _ (List.getElem_mem hi)
    simp only [cD hi,hw]
    refine ac.2 ⟨fun _=>aY (fun _=>∀(k:Nat) (h:k<cs.length),okK (vl rows[i] k) cs[k]) (ah.2 ⟨by simp;omega,?_⟩) fun _ hx=>av.2 ⟨rfl,hx⟩,fun h=>by simp at h;omega⟩
    refine kh rows[i].1.length (fun k=>∀(h:k<cs.length),okK (vl rows[i] k) cs[k]) (fun k hk=>?_) fun h=>?_
    · have hw:wr ((k:Int)+1)=(k:Int)+1:=bB (by omega) (by omega)
      have hk':k<cs.length:=by omega
      simp only [cD hk',pA,hw]
      have no:¬okK (vl rows[i] k) cs[k]→¬Kd cs rows:=fun h h2=>h (h2 _ (List.getElem_mem hi) k hk')
      refine ac.2 ⟨fun _=>ah.2 ⟨by simp;omega,ah.2 ⟨by simp;omega,ac.2 ⟨fun e=>ac.2 ⟨fun e2=>ac.2 ⟨fun e3=>aH.2 ?_,fun e3=>av.2 ⟨rfl,fun _=>?_⟩⟩,fun e2=>aH.2 ?_⟩,fun e=>av.2 ⟨rfl,fun _=>?_⟩⟩⟩⟩,fun h=>by simp at h;omega⟩
      · refine ro (by simp) (no ?_)
        rintro (h|h)
        · exact absurd h (by simpa using e)
        · exact absurd h.2 (by simpa using e3)
      · exact .inr ⟨e2,by simpa using e3⟩
      · refine ro (by simp) (no ?_)
        rintro (h|h)
        · exact absurd h (by simpa using e)
        · rw [h.1] at e2;cases e2
      · exact .inl (by simpa using e)
    · exact ac.2 ⟨fun h=>by simp at h,fun _=>aH.2 fun k hk=>h k (by omega) hk⟩
  · exact ac.2 ⟨fun h=>by simp at h,fun _=>aH.2 ⟨fun _=>h,fun _=>by simp⟩⟩
abbrev kW (v:ap):Value:=kV v.1 v.2.1 v.2.2
omit [Lk] in
theorem tj (v u:ap):kEq (kW v) (kW u)=true↔v=u:=by
 obtain ⟨a,b,s⟩:=v
 obtain ⟨c,d,t⟩:=u
 simp [kW,kV,kEq,MapKept.bytes_beq]
omit [Lk] in
theorem tl {v u:ap} (h:v≠u):kEq (kW v) (kW u)=false:=by
 rw [←Bool.not_eq_true,tj]
 exact h
structure Mp (m:List (Value×Bool)) (S:ap→Prop):Prop where
 k:∀p∈m,∃v:ap,p.1=kW v
 s:∀v:ap,Option.getD (getKV (kW v) m) false=true↔S v
omit [Lk] in
theorem vU (u v : ap) : ∀ (m : List (Value × Bool)),(∀ p ∈ m,∃ v : ap,p.1 = kW v) → (v = u → getKV (kW v) (fe (kW u) true m) = some true) ∧ (v ≠ u → getKV (kW v) (fe (kW u) true m) = getKV (kW v) m)
  | [],_=>by
    constructor
    · rintro rfl
      simp only [fe,getKV,(tj _ _).2 rfl,Qc]
    · intro h
      simp only [fe,getKV,tl h,Qb]
  | (k,x) :: r,h => by
    obtain ⟨w,hw⟩:=h (k,x) (by simp)
    dsimp only at hw
    subst hw
    have ih:=vU u v r fun p hp=>h p (by simp [hp])
    by_cases e:u=w
    · subst e
      constructor
      · rintro rfl
        simp only [fe,getKV,(tj _ _).2 rfl,Qc]
      · intro h
        simp only [fe,getKV,(tj _ _).2 rfl,Qc,tl h,Qb]
    · by_cases e2:v=w
      · subst e2
        constructor
        · exact fun h=>absurd h.symm e
        · intro _
          simp only [fe,getKV,tl e,Qb,(tj _ _).2 rfl,Qc]
      · simp only [fe,getKV,tl e,Qb,tl e2]
        exact ih
omit [Lk] in
theorem BS (u:ap):∀(m:List (Value×Bool)),(∀p∈m,∃v:ap,p.1=kW v)→∀p∈fe (kW u) true m,∃v:ap,p.1=kW v
  | [],_,p,hp=>by
    simp only [fe,List.mem_singleton] at hp
    exact ⟨u,by rw [hp]⟩
  |(k,x)::r,h,p,hp=>by
    unfold fe at hp
    cases e:kEq (kW u) k with
    |true=>
      rw [e,Qc] at hp
      rcases List.mem_cons.1 hp with rfl|hp
      · exact h (k,x) (by simp)
      · exact h p (by simp [hp])
    |false=>
      rw [e,Qb] at hp
      rcases List.mem_cons.1 hp with rfl|hp
      · exact h (k,x) (by simp)
      · exact BS u r (fun p hp=>h p (by simp [hp])) p hp
omit [Lk] in
theorem Mp.nil:Mp [] fun _=>False:=⟨fun p h=>(by cases h),fun v=>by simp [getKV]⟩
omit [Lk] in
theorem Mp.put {m:List (Value×Bool)} {S T:ap→Prop} (h:Mp m S) (u:ap) (ht:∀v,T v↔v=u∨S v):Mp (fe (kW u) true m) T:=⟨BS u m h.k,fun v=>by
 have:=vU u v m h.k
 rw [ht]
 by_cases e:v=u
 ·rw [this.1 e];simp [e]
 ·rw [this.2 e,h.s];simp [e]⟩
def Uq (cs:List aB) (rows:List bO):Prop:=∀(k:Nat) (h:k<cs.length),cs[k].2.2.2.1=true→∀(i j:Nat) (hj:j<rows.length) (hij:i<j),(vl rows[j] k).1≠0→vl rows[i] k≠vl rows[j] k
theorem zc (n : ByteArray) (cs : List aB) (es : List (List ak)) (rows : List bO) (b : List bF) (hc : cs.length ≤ 400) (hr : rows.length ≤ 12) (hl : ∀ r ∈ rows,r.1.length = cs.length) :
    Tot (bD.F (n,cs,es,rows,b,())) fun y=>y.1<0↔Uq cs rows:=by
  rw [bD.eq];unfold bD.B
  refine kh cs.length (fun k=>∀(h:k<cs.length),cs[k].2.2.2.1=true→∀(i j:Nat) (hj:j<rows.length) (hij:i<j),(vl rows[j] k).1≠0→vl rows[i] k≠vl rows[j] k) (fun k hk=>?_) fun h=>?_
  · have hw:wr ((k:Int)+1)=(k:Int)+1:=bB (by omega) (by omega)
    simp only [cD hk,hw]
    refine ac.2 ⟨fun _=>aY (fun _=>cs[k].2.2.2.1=true→∀(i j:Nat) (hj:j<rows.length) (hij:i<j),(vl rows[j] k).1≠0→vl rows[i] k≠vl rows[j] k) (ah.2 ⟨by simp;omega,?_⟩) fun _ hx=>av.2 ⟨rfl,fun _=>hx⟩,fun h=>by simp at h;omega⟩
    refine ac.2 ⟨fun e=>av.2 fun h=>(by rw [h] at e;cases e),fun e=>?_⟩
    have hu:cs[k].2.2.2.1=true:=by simpa using e
    refine dk (fun x=>rows.length-x.1.toNat) (fun x=>∃i:Nat,x.1=(i:Int)∧i≤rows.length∧Mp x.2.1 (fun v=>∃(j:Nat) (h:j<rows.length),j<i∧vl rows[j] k=v)∧∀(p q:Nat) (hq:q<rows.length) (hpq:p<q),q<i→(vl rows[q] k).1≠0→vl rows[p] k≠vl rows[q] k) ⟨0,rfl,by omega,⟨fun p h=>(by cases h),fun v=>by simp [getKV]⟩,fun _ _ _ _ h=>by omega⟩ ?_
    rintro ⟨_,m,_⟩ ⟨i,rfl,i1,i2,i3⟩
    dsimp only at i2 i3 ⊢
    refine ac.2 ⟨fun h5=>?_,fun h5=>aH.2 fun _ p q hq hpq=>i3 p q hq hpq (by simp at h5;omega)⟩
    simp at h5
    have hw:wr ((i:Int)+1)=((i+1:Nat):Int):=by rw [bB (by omega) (by omega)];omega
    have hL:=hl _ (List.getElem_mem h5)
    simp only [cD h5,pA,hw]
    have put:Mp (fe (kW (vl rows[i] k)) true m) (fun v=>∃(j:Nat) (h:j<rows.length),j<i+1∧vl rows[j] k=v):=i2.put _ fun v=>by
      constructor
      · rintro ⟨j,hj,hji,rfl⟩
        by_cases e:j=i
        · subst e;exact .inl rfl
        · exact .inr ⟨j,hj,by omega,rfl⟩
      · rintro (rfl|⟨j,hj,hji,rfl⟩)
        · exact ⟨i,h5,by omega,rfl⟩
        · exact ⟨j,hj,by omega,rfl⟩
    refine ah.2 ⟨by simp;omega,ah.2 ⟨by simp;omega,ac.2 ⟨fun e=>ac.2 ⟨fun e2=>aH.2 ?_,fun e2=>av.2 ⟨⟨i+1,rfl,h5,put,fun p q hq hpq hqi hz=>?_⟩,by dsimp only;omega⟩⟩,fun e=>av.2 ⟨⟨i+1,rfl,h5,put,fun p q hq hpq hqi hz=>?_⟩,by dsimp only;omega⟩⟩⟩⟩
    · refine ro (by simp) fun h=>?_
      obtain ⟨j,hj,hji,ej⟩:=(i2.s _).1 e2
      exact h k hk hu j i h5 hji (by simpa using e) ej
    · by_cases eq:q=i
      · subst eq
        intro ej
        have:=(i2.s (vl rows[q] k)).2 ⟨p,by omega,hpq,ej⟩
        rw [this] at e2
        cases e2
      · exact i3 p q hq hpq (by omega) hz
    · by_cases eq:q=i
      · subst eq
        exact absurd (by simpa using e) hz
      · exact i3 p q hq hpq (by omega) hz
  · exact ac.2 ⟨fun h=>by simp at h,fun _=>aH.2 ⟨fun _ k hk=>h k hk hk,fun _=>by simp⟩⟩
abbrev zV:ap:=((0:Int),((0:Int),(⟨#[]⟩:ByteArray)))
def Rf (cs:List aB) (rows:List bO) (b:List bF):Prop:=∀(k:Nat) (h:k<cs.length),cs[k].2.2.2.2.1≠(⟨#[]⟩:ByteArray)→∀r∈rows,vl r k=zV∨∃q∈fl b cs[k].2.2.2.2.1,fst0 q.1=vl r k
theorem A4 (n : ByteArray) (cs : List aB) (es : List (List ak)) (rows : List bO) (b : List bF) (hc : cs.length ≤ 400) (hr : rows.length ≤ 12) (hl : ∀ r ∈ rows,r.1.length = cs.length) (hb : Sb b) (h1 : ∀ x ∈ b,∀ r ∈ x.2,1 ≤ r.1.length) :
    Tot (bU.F (n,cs,es,rows,b,())) fun y=>y.1<0↔Rf cs rows b:=by
  rw [bU.eq];unfold bU.B
  have hbl:=hb.l
  refine kh cs.length (fun k=>∀(h:k<cs.length),cs[k].2.2.2.2.1≠(⟨#[]⟩:ByteArray)→∀r∈rows,vl r k=zV∨∃q∈fl b cs[k].2.2.2.2.1,fst0 q.1=vl r k) (fun k hk=>?_) fun h=>?_
  · have hw : wr ((k : Int) + 1) = (k : Int) + 1 := bB (by omega) (by omega)
    simp only [cD hk,hw]
    refine ac.2 ⟨fun _=>aY (fun _=>cs[k].2.2.2.2.1≠(⟨#[]⟩:ByteArray)→∀r∈rows,vl r k=zV∨∃q∈fl b cs[k].2.2.2.2.1,fst0 q.1=vl r k) (ah.2 ⟨by simp;omega,?_⟩) fun _ hx=>av.2 ⟨rfl,fun _=>hx⟩,fun h=>by simp at h;omega⟩
    refine ac.2 ⟨fun e=>av.2 fun h=>absurd (eW.1 e) h,fun e=>?_⟩
    have hne:=pz.1 e
    have hf:(fl b cs[k].2.2.2.2.1).length≤12∧∀r∈fl b cs[k].2.2.2.2.1,1≤r.1.length:=by
      rcases th b cs[k].2.2.2.2.1 with h|⟨x,hx,_,h⟩
      · rw [h];simp
      · rw [h];exact ⟨hb.r x hx,h1 x hx⟩
    simp only [rm b _ (show b.length≤1000 by omega),Qa]
    generalize hys:fl b cs[k].2.2.2.2.1=ys at hf ⊢
    refine aY (fun x=>Mp x.1 (fun v=>v=zV∨∃q∈ys,fst0 q.1=v)) ?_ fun x hm=>?_
    · refine dk (fun x=>ys.length-x.1.toNat) (fun x=>∃i:Nat,x.1=(i:Int)∧i≤ys.length∧Mp x.2.1 (fun v=>v=zV∨∃(j:Nat) (h:j<ys.length),j<i∧fst0 ys[j].1=v)) ⟨0,rfl,by omega,Mp.nil.put zV fun v=>by simp⟩ ?_
      rintro ⟨_,m,_⟩ ⟨i,rfl,i1,i2⟩
      dsimp only at i2 ⊢
      refine ac.2 ⟨fun h5=>?_,fun h5=>aH.2 ⟨i2.k,fun v=>(i2.s v).trans ?_⟩⟩
      · simp at h5
        have hw:wr ((i:Int)+1)=((i+1:Nat):Int):=by rw [bB (by omega) (by omega)];omega
        have:=hf.2 _ (List.getElem_mem h5)
        simp only [cD h5,hw]
        refine ah.2 ⟨by simp;omega,ah.2 ⟨by rw [iq];omega,av.2 ⟨⟨i+1,rfl,h5,i2.put _ fun v=>?_⟩,by dsimp only;omega⟩⟩⟩
        constructor
        · rintro (rfl|⟨j,hj,hji,rfl⟩)
          · exact .inr (.inl rfl)
          · by_cases e:j=i
            · subst e;exact .inl rfl
            · exact .inr (.inr ⟨j,hj,by omega,rfl⟩)
        · rintro (rfl|rfl|⟨j,hj,hji,rfl⟩)
          · exact .inr ⟨i,h5,by omega,rfl⟩
          · exact .inl rfl
          · exact .inr ⟨j,hj,by omega,rfl⟩
      · simp at h5
        constructor
        · rintro (rfl|⟨j,hj,hji,rfl⟩)
          · exact .inl rfl
          · exact .inr ⟨_,List.getElem_mem hj,rfl⟩
        · rintro (rfl|⟨q,hq,rfl⟩)
          · exact .inl rfl
          · obtain ⟨j,hj,rfl⟩:=List.getElem_of_mem hq
            exact .inr ⟨j,hj,by omega,rfl⟩
    · refine jd (l:=rows) (fun r=>vl r k=zV∨∃q∈ys,fst0 q.1=vl r k) (fun i hi=>?_) fun h=>?_
      · have hw:wr ((i:Int)+1)=(i:Int)+1:=bB (by omega) (by omega)
        have hL:=hl _ (List.getElem_mem hi)
        simp only [cD hi,pA,hw]
        refine ac.2 ⟨fun _=>ah.2 ⟨by simp;omega,ah.2 ⟨by simp;omega,ac.2 ⟨fun e=>aH.2 ?_,fun e=>av.2 ⟨rfl,?_⟩⟩⟩⟩,fun h=>by simp at h;omega⟩
        · refine ro (by simp) fun h=>?_
          have:=h k hk hne _ (List.getElem_mem hi)
          rw [hys] at this
          have:=(hm.s (vl rows[i] k)).2 this
          rw [this] at e
          cases e
        · exact (hm.s (vl rows[i] k)).1 (by simpa using e)
      · exact ac.2 ⟨fun h=>by simp at h,fun _=>aH.2 fun _=>h⟩
  · exact ac.2 ⟨fun h=>by simp at h,fun _=>aH.2 ⟨fun _ k hk=>h k hk hk,fun _=>by simp⟩⟩
def Ev (e:List ak) (l:List ap):Prop:=Tot (eM.F (e,l,())) fun y=>y.2.2.2.1=0∧(y.1,(y.2.1,y.2.2.1))≠((1:Int),((0:Int),(⟨#[]⟩:ByteArray)))
def Ck' (es:List (List ak)) (rows:List bO):Prop:=∀e∈es,∀r∈rows,Ev e r.1
theorem zd (n : ByteArray) (cs : List aB) (es : List (List ak)) (rows : List bO) (b : List bF) (he : es.length ≤ 400) (hr : rows.length ≤ 12) :
    Tot (bE.F (n,cs,es,rows,b,())) fun y=>y.2.1=0↔Ck' es rows:=by
  rw [bE.eq];unfold bE.B
  refine jd (l:=es) (fun e=>∀r∈rows,Ev e r.1) (fun i hi=>?_) fun h=>?_
  · have hw:wr ((i:Int)+1)=(i:Int)+1:=bB (by omega) (by omega)
    simp only [cD hi,hw]
    refine ac.2 ⟨fun _=>aY (fun _=>∀r∈rows,Ev es[i] r.1) (ah.2 ⟨by simp;omega,?_⟩) fun _ hx=>av.2 ⟨rfl,hx⟩,fun h=>by simp at h;omega⟩
    refine jd (l:=rows) (fun r=>Ev es[i] r.1) (fun j hj=>?_) fun h=>?_
    · have hw:wr ((j:Int)+1)=(j:Int)+1:=bB (by omega) (by omega)
      obtain ⟨y,hy,_⟩:=CO es[i] rows[j].1
      have hv:cj.F (false,())=some ((1:Int),(0:Int),(⟨#[]⟩:ByteArray),()):=by rw [cj.eq];rfl
      have no:∀z:Int,z≠0→¬Ev es[i] rows[j].1→(z=0↔Ck' es rows):=fun z hz h=>⟨fun h2=>absurd h2 hz,fun h2=>absurd (h2 _ (List.getElem_mem hi) _ (List.getElem_mem hj)) h⟩
      simp only [cD hj,hw,hy,Qa,hv]
      refine ac.2 ⟨fun _=>ah.2 ⟨by simp;omega,ac.2 ⟨fun e=>aH.2 ?_,fun e=>ac.2 ⟨fun e2=>aH.2 ?_,fun e2=>av.2 ⟨rfl,?_⟩⟩⟩⟩,fun h=>by simp at h;omega⟩
      · refine no _ (by simpa using e) fun h=>?_
        unfold Ev at h
        rw [hy] at h
        have:=(ai.1 h).1
        simp [this] at e
      · refine no _ (by simp) fun h=>?_
        unfold Ev at h
        rw [hy] at h
        exact (ai.1 h).2 (eqV.1 e2)
      · show Ev es[i] rows[j].1
        unfold Ev
        rw [hy]
        exact ai.2 ⟨by simpa using e,neV.1 e2⟩
    · exact ac.2 ⟨fun h=>by simp at h,fun _=>aH.2 fun r hr=>h r hr⟩
  · exact ac.2 ⟨fun h=>by simp at h,fun _=>aH.2 ⟨fun _=>h,fun _=>rfl⟩⟩
structure Tb (t:gD) (b:List bF):Prop where
 k:Kd t.2.1 (fl b t.1)
 u:Uq t.2.1 (fl b t.1)
 r:Rf t.2.1 (fl b t.1) b
 c:Ck' t.2.2 (fl b t.1)
theorem A5 (t:gD) (b:List bF) (hc:t.2.1.length≤400) (he:t.2.2.length≤400) (hl:∀r∈fl b t.1,r.1.length=t.2.1.length) (hb:Sb b) (h1:∀x∈b,∀r∈x.2,1≤r.1.length):
 Tot (cN.F (t.1,t.2.1,t.2.2,b,())) fun y=>y.1=0↔Tb t b:=by
 rw [cN.eq];unfold cN.B
 have hbl:=hb.l
 have hf:(fl b t.1).length≤12:=by
  rcases th b t.1 with h|⟨x,hx,_,h⟩
  ·rw [h];simp
  ·rw [h];exact hb.r x hx
 simp only [rm b _ (show b.length≤1000 by omega),Qa]
 have no:∀z:Int,z≠0→¬Tb t b→(z=0↔Tb t b):=fun z hz h=>⟨fun h2=>absurd h2 hz,fun h2=>absurd h2 h⟩
 refine aY (fun _=>Kd t.2.1 (fl b t.1)∧Uq t.2.1 (fl b t.1)∧Rf t.2.1 (fl b t.1) b) ?_ fun _ hx=>?_
 ·refine aY (fun x=>x.1<0↔Kd t.2.1 (fl b t.1)) (af.2 ((A3 _ _ _ _ _ hc hf hl).mono fun y hy=>av.2 hy)) fun x hk=>ac.2 ⟨fun e=>aH.2 (no _ (by simp) fun h=>?_),fun e=>?_⟩
  ·have:=hk.2 h.k
   simp at e;omega
  refine aY (fun x=>x.1<0↔Uq t.2.1 (fl b t.1)) (af.2 ((zc _ _ _ _ _ hc hf hl).mono fun y hy=>av.2 hy)) fun x2 hu=>ac.2 ⟨fun e2=>aH.2 (no _ (by simp) fun h=>?_),fun e2=>?_⟩
  ·have:=hu.2 h.u
   simp at e2;omega
  refine aY (fun x=>x.1<0↔Rf t.2.1 (fl b t.1) b) (af.2 ((A4 _ _ _ _ _ hc hf hl hb h1).mono fun y hy=>av.2 hy)) fun x3 hr=>ac.2 ⟨fun e3=>aH.2 (no _ (by simp) fun h=>?_),fun e3=>av.2 ⟨hk.1 ?_,hu.1 ?_,hr.1 ?_⟩⟩
  ·have:=hr.2 h.r
   simp at e3;omega
  ·simp at e;omega
  ·simp at e2;omega
  ·simp at e3;omega
 ·refine af.2 ((zd _ _ _ _ _ he hf).mono fun y hy=>ac.2 ⟨fun e=>ai.2 (no _ (by simpa using e) fun h=>?_),fun e=>ai.2 ⟨fun _=>⟨hx.1,hx.2.1,hx.2.2,hy.1 (by simpa using e)⟩,fun _=>rfl⟩⟩)
  have:=hy.2 h.c
  simp [this] at e
structure Fi (c:List bL) (b:List bF):Prop where
 m:Cm c b
 t:∀t∈tabs c,Tb t b
end Go.Proofs.Ytpoffnlnhdbpmaa
end
