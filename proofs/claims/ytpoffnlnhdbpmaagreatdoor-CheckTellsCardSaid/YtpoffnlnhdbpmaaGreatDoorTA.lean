import Derived.Test.YtpoffnlnhdbpmaaGreatDoorT9
import Derived.Shelf.Bits.Mul64
set_option linter.all false
set_option linter.unusedVariables false
set_option linter.unusedSimpArgs false
set_option linter.unusedSectionVars false
section
set_option maxRecDepth 100000
namespace Go.Proofs.Ytpoffnlnhdbpmaa
open Go Lv Go.Proofs Go.RowKit Go.Shelf
variable [Lk]
theorem J1 {S R:Type} (s:S) (k:S→Option R):jn (il s) k=k s:=rfl
theorem xl (o a b:Int):Par (cL.F (o,a,b,())) fun y=>0≤y.1:=by
 refine Tot.p ?_
 rw [cL.eq];unfold cL.B
 simp [jC]
theorem C7 (a b:Int) (s:ByteArray):Par (dQ.F (a,b,s,())) fun y=>y.1=true→0≤a:=by
 refine Tot.p ?_
 rw [dQ.eq];unfold dQ.B
 simp [jC]
 omega
theorem Bm (e:List ak) (ks:List Int):Par (fc.F (e,ks,())) fun y=>0≤y.1:=by
 rw [fc.eq];unfold fc.B
 have z0:(0:Int)≤0:=by decide
 refine aj (fun _=>aF z0) fun _=>?_
 refine gB (fun s=>∀x∈s.1,0≤x) ?_ fun s hs=>aj (fun _=>aF z0) fun h=>ay fun i0=>aF ?_
 ·refine iz (fun s=>∀x∈s.2.1,0≤x) (by simp) ?_
  rintro ⟨i,l,_⟩ hl
  dsimp only at hl ⊢
  refine aj (fun _=>?_) fun _=>aL hl
  refine ay fun _=>bo fun y2 _=>?_
  refine gB (fun _=>True) (aj (fun _=>aL z0) fun _=>aj (fun _=>aL z0) fun _=>aC trivial) fun _ _=>?_
  refine gB (fun _=>True) (aj (fun _=>ay fun _=>aC trivial) fun _=>aC trivial) fun _ _=>?_
  refine gB (fun _=>True) (aj (fun _=>ay fun _=>aC trivial) fun _=>aC trivial) fun _ _=>?_
  refine ay fun _=>ay fun _=>bo ((xl _ _ _).mono fun y11 h11=>?_)
  have tk:∀(n:Nat) (k:Int),0≤k→∀x∈([]++List.take n l)++ [k],0≤x:=fun n k hk x hx=>by
   simp at hx
   rcases hx with hx|rfl
   ·exact hl x (List.mem_of_mem_take hx)
   ·exact hk
  refine gB (fun s=>s.2.1=true→0≤s.1) ?_ fun s hs=>?_
  ·refine aj (fun _=>aj (fun _=>aj (fun _=>ay fun _=>aj (fun h=>aC fun _=>?_) fun _=>aC (fun h=>by cases h)) fun _=>aC fun _=>h11) fun _=>aC fun _=>h11) fun _=>aC fun _=>h11
   simp at h
   dsimp only
   omega
  ·refine aj (fun _=>bo ((C7 _ _ _).mono fun y14 h14=>aj (fun _=>aL z0) fun h=>ay fun _=>aC (tk _ _ (h14 (by simpa using h))))) fun _=>aj (fun _=>aL z0) fun h=>ay fun _=>aC (tk _ _ (hs (by simpa using h)))
 ·rw [iq] at i0
  exact hs _ (d9 (i:=(0:Int)) (z:=(0:Int)) i0.1 i0.2)
theorem wi (e:List ak) (ks:List Int):dh.F (e,ks,())=eA.F (e,ks,()):=by
 rw [dh.eq,eA.eq];unfold dh.B eA.B
 dsimp only
 rw [C6]
 obtain ⟨⟨k,r,_⟩,e1,_⟩:=uE e ks
 have h:=Bm e ks _ e1
 dsimp only at h
 simp only [e1,Qa]
 cases (r==0) with
 |false=>rfl
 |true=>
  simp only [Qc]
  by_cases h1:k=1
  ·subst h1;rfl
  ·have e2:(k==1)=false:=by simpa using h1
   rw [e2,Qb]
   have:(k==0)=decide (k<2):=by rw [Bool.eq_iff_iff];simp;omega
   rw [this]
theorem uT (c:List bL) (hc:c.length<1000000000000000) (f:TS cF.d.si→Option (TS cF.d.so)) (vn vf vw:ByteArray) (o1 o2:Int) (wh:List ak) (pk:List Int) (gr:Bool) (ag:List cU) {i:Nat} (hi:fnd c vf=some i) (li:i<c.length):
 Par (bu.b f (c,vn,vf,vw,o1,o2,wh,pk,gr,ag,())) fun y=>∀z,f (c,dA c[i])=some z→∃w,y.1=z.1++w:=by
 unfold bu.b
 dsimp only
 simp only [kD c _ hc,Qa,iB hi,cD li]
 refine ay fun _=>bo fun y3 e3=>aj (fun _=>aF fun z hz=>?_) fun _=>ay fun _=>bo fun y6 _=>ay fun _=>ay fun _=>aF fun z hz=>?_
 ·have:=e3.symm.trans hz
  cases this
  exact ⟨[],(List.append_nil _).symm⟩
 ·have:=e3.symm.trans hz
  cases this
  exact ⟨y6.1,rfl⟩
theorem C8 (c : List bL) (hc : Gc c) (vn vf vw : ByteArray) (o1 o2 : Int) (wh : List ak) (pk : List Int) (gr : Bool) (ag : List cU) (hp : pk.length ≤ 400) (ha : ag.length ≤ 400) (hv : Vg o1 o2 pk ag) :
    Par (fI.F (c,vn,vf,vw,o1,o2,wh,pk,gr,ag,())) fun y=>Par (dE.F (c,vn,vf,vw,o1,o2,wh,pk,gr,ag,())) fun z=>z.1= !y.1:=by
  have hl:=hc.len
  obtain ⟨⟨v1,v2⟩,⟨v3,v4⟩,v5,v6⟩:=hv
  rw [fI.eq,dE.eq];unfold fI.B dE.B
  dsimp only
  simp only [kD c _ (show c.length<1000000000000000 by omega),jW c _ (show c.length<1000000000000000 by omega),Qa]
  refine jK (fun _ _=>¬lV c vf<0) ?_ ?_
  · refine aj (fun h=>?_) fun h=>?_
    · rw [h]
      exact aL (aL rfl)
    · rw [h]
      have h:¬lV c vf<0:=by simpa using h
      simp only [Qb]
      refine aj (fun h2=>?_) fun h2=>?_
      · rw [h2]
        simp only [Qc]
        refine aj (fun h3=>?_) fun h3=>?_
        · rw [h3]
          exact aL (aL rfl)
        · rw [h3]
          exact aC (aC h)
      · rw [h2]
        exact aC (aC h)
  rintro _ _ g
  obtain ⟨i,hi⟩:=jj g
  have li:=jJ hi
  have i1:ib (i:Int) (c.length:Int)=true:=by simp;omega
  simp only [iB hi,cD li,i1,ckT]
  refine bo fun y4 e4=>bo fun y7 e7=>l9 (bo fun z6 e6=>bo fun z7 e7'=>ay fun _=>l9 ?_)
  rw [cF.eq] at e7
  rw [aA.eq] at e6
  rw [bu.eq] at e4
  rw [aI.eq] at e7'
  have hO:y7.1=z6.1:=r_x c hc 64 _ (List.getElem_mem li) y7 e7 z6 e6
  have hJ:y4.1=z7.1:=tJ c (by omega) _ _ (r_x c hc 64) _ _ _ _ _ _ _ _ _ y4 e4 z7 e7'
  obtain ⟨w,hw⟩:=uT c (by omega) _ _ _ _ _ _ _ _ _ _ hi li y4 e4 y7 e7
  have hK:y7.1.length≤800:=by
    have:=Tot.p (r_t c hc 64 i (by omega) li) y7 e7
    rw [this.1]
    exact ni (hc.s _ (List.getElem_mem li))
  clear e4 e6 e7 e7'
  obtain ⟨J,_⟩:=y4
  obtain ⟨K,m,_⟩:=y7
  obtain ⟨K',m',_⟩:=z6
  obtain ⟨J',_⟩:=z7
  dsimp only at hO hJ hw hK ⊢
  subst hO hJ hw
  have w1:wr ((K.length:Int)+o2)=K.length+o2:=bB (by omega) (by omega)
  have lKw:((K++w).length:Int)=K.length+w.length:=by simp
  simp only [w1,Int.toNat_natCast]
  refine jK (fun _ t=>t.1=false) ?_ ?_
  · cases hs : sq vw (⟨#[]⟩ : ByteArray) with
    |true=>exact aC (aC rfl)
    |false=>
      simp only [Bool.not_false,Qc]
      refine mN (ay fun _=>aj (fun a1=>aL ?_) fun a1=>ay fun _=>aj (fun a2=>aL ?_) fun a2=>aC (ay fun _=>ay fun b1=>ay fun _=>ay fun b2=>?_))
      · exact ay fun _=>aj (fun _=>aC (aF rfl)) fun h=>by rw [a1] at h;cases h
      · simp at a1 a2
        refine ay fun _=>aj (fun h=>by simp at h;omega) fun _=>ay fun _=>aj (fun _=>aC (aF rfl)) fun h=>?_
        simp at h
        omega
      · simp at a1 a2
        have e1:List.getD (K++w) o1.toNat 0=List.getD K o1.toNat 0:=by
          rw [List.getD_eq_getElem?_getD,List.getD_eq_getElem?_getD,List.getElem?_append_left (by omega)]
        have e2:((K.length:Int)+o2).toNat=K.length+o2.toNat:=by omega
        rw [e1,e2]
        refine aj (fun a3=>aL ?_) fun a3=>aC ?_
        · exact ay fun _=>aj (fun _=>aC (aF rfl)) fun _=>ay fun _=>aj (fun _=>aC (aF rfl)) fun _=>ay fun _=>ay fun _=>ay fun _=>ay fun _=>aC (by rw [a3];exact aF rfl)
        · refine ay fun _=>aj (fun h=>?_) fun _=>ay fun _=>aj (fun h=>?_) fun _=>ay fun _=>ay fun _=>ay fun _=>ay fun _=>aC a3
          · simp at h;omega
          · simp at h;omega
  rintro _ ⟨_,_⟩ rfl
  simp only [Qb,wi]
  refine jK (fun s t=>s.1=K++w∧t.1=K++w) ?_ ?_
  · refine aj (fun h=>?_) fun h=>?_
    · rw [h]
      simp only [Qc]
      refine nX fun a ea b eb=>?_
      rw [ea] at eb
      cases eb
      refine aj (fun h2=>?_) fun h2=>?_
      · rw [h2]
        exact aL (aL rfl)
      · rw [h2]
        exact aC (aC ⟨rfl,rfl⟩)
    · rw [h]
      exact aC (aC ⟨rfl,rfl⟩)
  rintro ⟨_,_⟩ ⟨_,_⟩ ⟨rfl,rfl⟩
  dsimp only
  generalize K++w=J
  refine jK (fun _ _=>True) ?_ fun _ _ _=>?_
  · refine iZ (fun s t=>s.1=t.1) rfl ?_
    rintro ⟨j,_⟩ ⟨_,_⟩ rfl
    dsimp only
    refine aj (fun h=>?_) fun h=>?_
    · rw [h]
      refine ay fun i1=>?_
      simp only [i1,ckT,Qc]
      refine aj (fun h2=>?_) fun h2=>?_
      · rw [h2]
        exact aL (aL rfl)
      · rw [h2]
        exact aC (aC rfl)
    · rw [h]
      exact aL (aL trivial)
  refine jK (fun _ _=>True) ?_ fun _ _ _=>?_
  · refine iZ (fun s t=>s.1=t.1) rfl ?_
    rintro ⟨j,_⟩ ⟨_,_⟩ rfl
    dsimp only
    refine aj (fun h=>?_) fun h=>?_
    · rw [h]
      refine ay fun i1=>?_
      simp only [i1,ckT,Qc]
      generalize gt ag j ep.z=a
      by_cases a0:a.1=0
      · have b0:(a.1==0)=true:=by simpa using a0
        have b1:(a.1 !=0)=false:=by simp [a0]
        have b2:(a.1==1)=false:=by simp [a0]
        rw [b0,b1,b2]
        exact aC (aC rfl)
      · have b0:(a.1==0)=false:=by simpa using a0
        have b1:(a.1 !=0)=true:=by simpa using a0
        rw [b0,b1]
        simp only [Qc,Qb]
        refine aj (fun h2=>?_) fun h2=>?_
        · rw [h2]
          exact aL (aL rfl)
        · rw [h2]
          simp only [Qb]
          refine aj (fun h3=>?_) fun h3=>?_
          · rw [h3]
            refine ay fun i2=>?_
            simp only [i2,ckT,Qc]
            refine aj (fun h4=>?_) fun h4=>?_
            · rw [h4]
              exact aL (aL rfl)
            · rw [h4]
              exact aC (aC rfl)
          · rw [h3]
            exact aC (aC rfl)
    · rw [h]
      exact aL (aL trivial)
  have w2:wr ((pk.length:Int)+(ag.length:Int))=pk.length+ag.length:=bB (by omega) (by omega)
  simp only [w2]
  have fin:Par (bif ((pk.length:Int)+ag.length==0) then some (true,()) else some (decide ((pk.length:Int)+ag.length>40),())) fun y=>Par (bif decide ((pk.length:Int)+ag.length≥1) then some (decide ((pk.length:Int)+ag.length≤40),()) else some (false,())) fun z=>z.1= !y.1:=by
    refine aj (fun h=>aF ?_) fun h=>aF ?_
    · refine aj (fun h2=>?_) fun h2=>aF rfl
      simp at h h2
      omega
    · refine aj (fun h2=>aF ?_) fun h2=>?_
      · dsimp only
        rw [←decide_not,decide_eq_decide]
        omega
      · simp at h h2
        omega
  cases gr with
  |true=>exact fin
  |false=>
    simp only [Bool.not_false,Qc,Qb]
    refine aj (fun h=>aF ?_) fun h=>?_
    · have:((ag.length:Int)==0)=false:=by simp at h ⊢;intro e;simp [e] at h
      rw [this]
      exact aF rfl
    · have:((ag.length:Int)==0)=true:=by simp at h ⊢;exact h
      rw [this]
      exact fin
end Go.Proofs.Ytpoffnlnhdbpmaa
end
section
set_option maxRecDepth 100000
namespace Go.Proofs.Ytpoffnlnhdbpmaa
open Go Lv Go.Proofs Go.RowKit Go.Shelf
section
variable {α β γ δ S R:Type}
theorem C9 {x:Option α} {y:Option (S⊕R)} {k1:α→Option γ} {k2:S→Option R} {P:γ→R→Prop} (h:Par x fun a=>Par y fun w=>Par (k1 a) fun r=>match w with| .inl t=>Par (k2 t) fun q=>P r q| .inr q=>P r q):
 Par (Option.bind x k1) fun r=>Par (jn y k2) fun q=>P r q:=by
 intro r hr q hq
 cases hx:x with
 |none=>rw [hx] at hr;cases hr
 |some a=>
  cases hy:y with
  |none=>rw [hy] at hq;cases hq
  |some b=>
   rw [hx] at hr
   rw [hy] at hq
   have:=h a hx b hy r hr
   cases b with
   |inl t=>exact this q hq
   |inr q'=>cases hq;exact this
theorem qx {b1 b2 : S → Option (S ⊕ R)} (I : S → Prop) {s : S} (h0 : I s) (h : ∀ s,I s → b1 s = b2 s ∧ ∀ s',b1 s = some (.inl s') → I s') : aN b1 s = aN b2 s := by
  have it:∀n s,I s→ix b1 n s=ix b2 n s:=by
    intro n
    induction n with
    |zero=>intro _ _;rfl
    |succ n ih=>
      intro s hs
      obtain ⟨e,hn⟩:=h s hs
      unfold ix
      rw [←e]
      cases hb:b1 s with
      |none=>rfl
      |some z=>
        cases z with
        |inl s'=>exact ih s' (hn s' hb)
        |inr r=>rfl
  cases h1:aN b1 s with
  |some r=>
    obtain ⟨n,hn⟩:=@iV ⟨[],fun _=>True,false,fun _ _ _ _=>trivial⟩ _ _ _ _ _ h1
    rw [it n s h0] at hn
    exact (@kL ⟨[],fun _=>True,false,fun _ _ _ _=>trivial⟩ _ _ _ _ _ _ hn).symm
  |none=>
    cases h2:aN b2 s with
    |none=>rfl
    |some r=>
      obtain ⟨n,hn⟩:=@iV ⟨[],fun _=>True,false,fun _ _ _ _=>trivial⟩ _ _ _ _ _ h2
      rw [←it n s h0] at hn
      rw [@kL ⟨[],fun _=>True,false,fun _ _ _ _=>trivial⟩ _ _ _ _ _ _ hn] at h1
      cases h1
end
variable [Lk]
def Ckc (cs:List aB):Prop:=(∀(i j:Nat) (hi:i<cs.length) (hj:j<i),sq cs[i].1 cs[j].1=false)∧(List.getD cs 0 aV.z).2.2.1=false∧(List.getD cs 0 aV.z).2.1≠1∧sq (List.getD cs 0 aV.z).2.2.2.2.1 ⟨#[]⟩=true
theorem Da (n : ByteArray) (cs : List aB) (es : List (List ak)) (h : cs.length ≤ 400) : Par (fq.F (n,cs,es,())) fun y => y.1 = true ↔ ¬ Ckc cs := by
  rw [fq.eq];unfold fq.B
  dsimp only
  refine gB (fun _=>∀(i j:Nat) (hi:i<cs.length) (hj:j<i),sq cs[i].1 cs[j].1=false) ?_ fun _ hn=>?_
  · refine iz (fun s=>∃k:Nat,s.1=(k:Int)∧k≤cs.length∧∀(i j:Nat) (hi:i<cs.length) (hj:j<i),i<k→sq cs[i].1 cs[j].1=false) ⟨0,rfl,by omega,fun _ _ _ _ h=>by omega⟩ ?_
    rintro ⟨_,_⟩ ⟨k,rfl,k1,k2⟩
    dsimp only
    refine aj (fun h5=>?_) fun h5=>aL ?_
    · simp at h5
      refine gB (fun _=>∀(j:Nat) (hj:j<k),sq cs[k].1 cs[j].1=false) ?_ fun _ hk=>aC ⟨k+1,wrn h5 (by omega),h5,fun i j hi hj hik=>?_⟩
      · refine iz (fun s=>∃m:Nat,s.1=(m:Int)∧m≤k∧∀(j:Nat) (hj:j<k),j<m→sq cs[k].1 cs[j].1=false) ⟨0,rfl,by omega,fun _ _ h=>by omega⟩ ?_
        rintro ⟨_,_⟩ ⟨m,rfl,m1,m2⟩
        dsimp only
        refine aj (fun h6=>?_) fun h6=>aL ?_
        · simp at h6
          have hm:m<cs.length:=by omega
          simp only [cD h5,cD hm]
          refine ay fun _=>ay fun _=>aj (fun e=>aL ?_) fun e=>aC ⟨m+1,wrn hm (by omega),h6,fun j hj hjm=>?_⟩
          · simp only [true_iff]
            intro hc
            rw [hc.1 k m h5 h6] at e
            cases e
          · by_cases ej:j=m
            · subst ej;exact e
            · exact m2 j hj (by omega)
        · simp at h6
          exact fun j hj=>m2 j hj (by omega)
      · by_cases ei:i=k
        · subst ei;exact hk j hj
        · exact k2 i j hi hj (by omega)
    · simp at h5
      exact fun i j hi hj=>k2 i j hi hj (by omega)
  · refine ay fun _=>aj (fun e=>aF ?_) fun e=>ay fun _=>aj (fun e2=>aF ?_) fun e2=>ay fun _=>aF ?_
    · simp only [true_iff]
      intro hc
      rw [hc.2.1] at e
      cases e
    · simp only [true_iff]
      intro hc
      exact hc.2.2.1 (by simpa using e2)
    · cases e3:sq (List.getD cs 0 aV.z).2.2.2.2.1 ⟨#[]⟩ with
      |true=>
        simp only [Bool.not_true,Bool.false_eq_true,false_iff,Classical.not_not]
        exact ⟨hn,e,by simpa using e2,e3⟩
      |false=>
        simp only [Bool.not_false,true_iff]
        intro hc
        have:=hc.2.2.2
        rw [e3] at this
        cases this
theorem tab_x (c : List bL) (hc : Gc c) (n : ByteArray) (cs : List aB) (es : List (List ak)) (h : cs.length ≤ 400) (h1 : 1 ≤ cs.length) (he : es.length ≤ 400) :
    Par ((fq.F (n,cs,es,())).bind fun y5=>bif y5.1 then some ((91:Int),()) else (fJ.F (c,n,cs,es,())).bind fun y6=>bif y6.1 then some ((92:Int),()) else (bZ.F (n,cs,es,())).bind fun y7=>
      aN (S:=(List Int)×Int×Unit) (fun (x5,x7,_)=>(bif (decide (x7<(es.length:Int))) then ck (ib x7 es.length)<|let e8:(List ak):=(gt es x7 []);(eA.F (e8,x5,())).bind fun y9=>(bif (!y9.1) then ir ((93:Int),()) else let e10:Int:=(wr (x7+(1:Int)));il (x5,e10,())) else ir ((0:Int),()))) (y7.1,(0:Int),()))
      fun y=>Par (c8.F (c,n,cs,es,())) fun z=>y.1=z.1:=by
  have hl:=hc.len
  rw [c8.eq];unfold c8.B
  dsimp only
  have hK:∀{A:Type} (k:_→Option A),(aA.F (c,(0:Int),n,cs,es,(⟨#[]⟩:ByteArray),(⟨#[]⟩:ByteArray),(⟨#[]⟩:ByteArray),(0:Int),(0:Int),([]:List ak),([]:List Int),false,([]:List cU),())).bind k=k (cs.map (fun x=>x.2.1),cs.map (fun x=>x.2.2.1),()):=fun k=>by
    rw [aA.eq]
    exact (congrArg (fun x=>Option.bind x k) (B0 c (0,(n,cs,es),((⟨#[]⟩:ByteArray),(⟨#[]⟩:ByteArray),(⟨#[]⟩:ByteArray),((0:Int),(0:Int)),([]:List ak),([]:List Int),false,([]:List cU))) rfl h _)).trans rfl
  rw [hK]
  simp only [tk_s _ _ _ h,Qa]
  refine bo ((Da n cs es h).mono fun y5 h5=>l9 (gB (fun _=>Ckc cs) ?_ fun _ hck=>l9 ?_))
  · refine Par.mono (P:=fun z=>match z with| .inl _=>Ckc cs| .inr q=>q=((91:Int),())∧¬Ckc cs) ?_ fun z hz=>?_
    · refine iz (fun s=>∃k:Nat,s.1=(k:Int)∧k≤cs.length∧(∀(i j:Nat) (hi:i<cs.length) (hj:j<i),i<k→sq cs[i].1 cs[j].1=false)∧(0<k→(List.getD cs 0 aV.z).2.2.1=false∧(List.getD cs 0 aV.z).2.1≠1∧sq (List.getD cs 0 aV.z).2.2.2.2.1 ⟨#[]⟩=true)) ⟨0,rfl,by omega,fun _ _ _ _ h=>by omega,fun h=>by omega⟩ ?_
      rintro ⟨_,_⟩ ⟨k,rfl,k1,k2,k3⟩
      dsimp only
      refine aj (fun g5=>?_) fun g5=>aL ?_
      · simp at g5
        simp only [cD g5]
        refine ay fun _=>gB (fun s=>s.1=false↔((∀(j:Nat) (hj:j<k),sq cs[k].1 cs[j].1=false)∧(k=0→cs[k].2.2.1=false∧cs[k].2.1≠1∧sq cs[k].2.2.2.2.1 ⟨#[]⟩=true))) ?_ fun s hs=>aj (fun e=>aL ⟨rfl,fun hck=>?_⟩) fun e=>aC ⟨k+1,wrn g5 (by omega),g5,fun i j hi hj hik=>?_,fun _=>?_⟩
        · refine iz (fun s=>∃m:Nat,s.1=(m:Int)∧m≤k∧∀(j:Nat) (hj:j<k),j<m→sq cs[k].1 cs[j].1=false) ⟨0,rfl,by omega,fun _ _ h=>by omega⟩ ?_
          rintro ⟨_,_⟩ ⟨m,rfl,m1,m2⟩
          dsimp only
          have hm:m<cs.length:=by omega
          refine aj (fun g6=>?_) fun g6=>?_
          rotate_left 1
          · simp at g6
            omega
          simp only [cD hm]
          refine gB (fun s=>s.1=sq cs[m].1 cs[k].1) (ay fun _=>aC rfl) fun s hs=>aj (fun e=>?_) fun e=>?_
          · rw [hs] at e
            have em:=eW.1 e
            by_cases emk:m=k
            · subst emk
              have e0:((m:Int) !=(m:Int))=false:=by simp
              rw [e0]
              refine kP (aj (fun h=>by cases h) fun _=>aj (fun z0=>aj (fun a1=>aC ?_) fun a1=>aj (fun a2=>aC ?_) fun a2=>aC ?_) fun z0=>aC ?_)
              · simp only [Bool.true_eq_false,false_iff]
                exact fun hh=>by rw [(hh.2 (by simpa using z0)).1] at a1;cases a1
              · simp only [Bool.true_eq_false,false_iff]
                exact fun hh=>(hh.2 (by simpa using z0)).2.1 (by simpa using a2)
              · constructor
                · intro a3
                  exact ⟨fun j hj=>m2 j hj hj,fun _=>⟨a1,by simpa using a2,by simpa using a3⟩⟩
                · intro hh
                  have:=(hh.2 (by simpa using z0)).2.2
                  dsimp only
                  rw [this]
                  rfl
              · simp only [true_iff]
                exact ⟨fun j hj=>m2 j hj hj,fun h=>by simp [h] at z0⟩
            · have e0:((m:Int) !=(k:Int))=true:=by simp;omega
              rw [e0]
              refine kP (aC ?_)
              simp only [Bool.true_eq_false,false_iff]
              intro hh
              have:=hh.1 m (by omega)
              rw [eW.2 em.symm] at this
              cases this
          · rw [hs] at e
            have emk:m≠k:=by
              rintro rfl
              rw [eW.2 rfl] at e
              cases e
            refine aC ⟨m+1,wrn hm (by omega),by omega,fun j hj hjm=>?_⟩
            by_cases ej:j=m
            · subst ej
              rw [pz] at e ⊢
              exact fun h=>e h.symm
            · exact m2 j hj (by omega)
        · have:=(hs.2 ⟨fun j hj=>hck.1 k j g5 hj,fun hk=>?_⟩)
          · rw [this] at e
            cases e
          · subst hk
            have:=hck.2
            rw [show List.getD cs 0 aV.z=cs[0] from cD (i:=0) g5 _] at this
            exact this
        · by_cases ei:i=k
          · subst ei;exact (hs.1 e).1 j hj
          · exact k2 i j hi hj (by omega)
        · by_cases ek:k=0
          · subst ek
            have:=(hs.1 e).2 rfl
            rw [show List.getD cs 0 aV.z=cs[0] from cD (i:=0) g5 _]
            exact this
          · exact k3 (by omega)
      · simp at g5
        exact ⟨fun i j hi hj=>k2 i j hi hj (by omega),k3 (by omega)⟩
    · cases z with
      |inl s=>exact hz
      |inr q=>
        obtain ⟨rfl,hz⟩:=hz
        rw [h5.2 hz]
        exact aF rfl
  have e5:y5.1=false:=by
    cases e:y5.1 with
    |false=>rfl
    |true=>exact absurd hck (h5.1 e)
  rw [e5]
  simp only [Qb]
  rw [fJ.eq];unfold fJ.B
  dsimp only
  refine C9 ((iZ (P:=fun r q=>match q with| .inl _=>r.1=false| .inr q=>r.1=true∧q.1=(92:Int)) (fun s t=>s.1=t.1) rfl ?_).mono fun y6 h6=>h6.mono fun w hw=>?_)
  · rintro ⟨i,_⟩ ⟨_,_⟩ rfl
    dsimp only
    refine aj (fun g5=>?_) fun g5=>by rw [g5];exact aL (aL rfl)
    rw [g5]
    simp only [Qc]
    refine ay fun i1=>?_
    simp only [i1,ckT]
    generalize gt cs i aV.z=e1
    refine aj (fun g6=>by rw [g6];exact aC (aC rfl)) fun g6=>?_
    rw [g6]
    simp only [Qb,kD c _ (show c.length<1000000000000000 by omega),jW c _ (show c.length<1000000000000000 by omega),Qa]
    refine ay fun i2=>jK (fun s t=>s.1=(List.getD t.2.1 0 aV.z).2.1) ?_ ?_
    · refine aj (fun g7=>?_) fun g7=>by rw [g7];exact aC (aC rfl)
      rw [g7]
      simp only [Qc]
      refine aj (fun g8=>by rw [g8];exact aL (aL ⟨rfl,rfl⟩)) fun g8=>?_
      rw [g8]
      simp only [Qb]
      refine ay fun i3=>?_
      simp only [i3,ckT]
      refine aj (fun g9=>by rw [g9];exact aL (aL ⟨rfl,rfl⟩)) fun g9=>?_
      rw [g9]
      simp only [Qb]
      exact ay fun _=>aC (aC rfl)
    · rintro ⟨k,_⟩ ⟨a,b,e,_⟩ hk
      dsimp only at hk ⊢
      subst hk
      have hb:(e1.2.1 !=(List.getD b 0 aV.z).2.1)=((List.getD b 0 aV.z).2.1 !=e1.2.1):=bne_comm
      refine aj (fun g7=>aL ?_) fun g7=>?_
      · rw [←hb,g7]
        exact ay fun _=>aL ⟨rfl,rfl⟩
      · rw [←hb,g7]
        simp only [Qb]
        refine aj (fun g8=>?_) fun g8=>by rw [g8];exact aC (ay fun _=>aC rfl)
        rw [g8]
        simp only [Qc]
        refine aj (fun g9=>by rw [g9];exact aL (ay fun _=>aL ⟨rfl,rfl⟩)) fun g9=>by rw [g9];exact aC (ay fun _=>aC rfl)
  cases w with
  |inr q=>
    rw [hw.1]
    exact aF hw.2.symm
  | inl t =>
    dsimp only at hw ⊢
    rw [hw]
    simp only [Qb]
    refine iZ (fun s t=>s=(cs.map (fun x=>x.2.1),t.1,())∧t.2.1=cs.map (fun x=>x.2.1)∧0≤t.1∧t.1≤(es.length:Int)) ⟨rfl,rfl,by simp,by simp⟩ ?_
    rintro _ ⟨i,_,_⟩ ⟨rfl,rfl,i0,i3⟩
    dsimp only at i0 i3 ⊢
    refine aj (fun g5=>?_) fun g5=>?_
    · rw [g5]
      simp only [Qc,wi]
      refine ay fun i1=>?_
      simp only [i1,ckT]
      have i1:=iq.1 i1
      obtain ⟨⟨b,_⟩,e1,_⟩:=rc (gt es i []) (cs.map (fun x=>x.2.1))
      simp only [e1,Qa]
      cases b with
      |false=>
        refine aL (gB (fun s=>s.1=true) (aC rfl) fun s hs=>?_)
        have:decide (i≥0)=true:=by simpa using i0
        rw [hs,this]
        simp only [Qc]
        exact kP (aF rfl)
      |true=>
        have hw:wr (i+1)=i+1:=bB (by omega) (by omega)
        rw [hw]
        refine aC (gB (fun s=>s=(false,cs.map (fun x=>x.2.1),())) (aC rfl) fun s hs=>?_)
        subst hs
        exact aC ⟨rfl,rfl,by dsimp only;omega,by dsimp only;omega⟩
    · rw [g5]
      simp only [Qb]
      exact aL (kP (aF rfl))
end Go.Proofs.Ytpoffnlnhdbpmaa
end
section
set_option maxRecDepth 100000
namespace Go.Proofs.Ytpoffnlnhdbpmaa
open Go Lv Go.Proofs Go.RowKit Go.Shelf
variable [Lk]
theorem add_e (c:List bL) (hc:Gc c) (d:bL) (hd:Sd d):eT.F (c,dA d)=dV.F (c,dA d):=by
 have hl:=hc.len
 have hcl:c.length<1000000000000000:=by omega
 obtain ⟨r,p1,p2⟩:=Bl d hd
 have hm:gO.F (dA d)=some (!sq r ⟨#[]⟩,()):=by
  rw [gO.eq];unfold gO.B
  dsimp only
  rw [p2]
  rfl
 have hp:=Tot.p (ra d hd) _ p1
 have ht:Tot (dV.F (c,dA d)) fun _=>True:=by
  rw [dV.eq];unfold dV.B
  dsimp only
  simp only [hm,Qa]
  refine ac.2 ⟨fun _=>ai.2 trivial,fun e=>ac.2 ⟨fun _=>ai.2 trivial,fun _=>?_⟩⟩
  have hp:=hp (by simpa using e)
  simp only [rf,Qa,jW c _ hcl]
  refine ac.2 ⟨fun _=>ai.2 trivial,fun _=>ac.2 ⟨fun e=>?_,fun e=>?_⟩⟩
  ·exact af.2 ((CE c hc _ _ _ hd.s1 (hp.1 (by simpa using e)) hd.s2).mono fun _ _=>ai.2 trivial)
  ·have e:d.1≠0:=by simpa using e
   have hv:=hp.2 e
   exact af.2 ((yV c hc _ _ _ _ _ _ _ _ _ hd.s5 hd.s6 ⟨hv.1,hv.2.1⟩ (fun a ha=>(hv.2.2.2 a ha).1)).mono fun _ _=>ac.2 ⟨fun _=>ai.2 trivial,fun _=>ai.2 trivial⟩)
 refine zF (re c hc d hd) ht ?_
 rw [eT.eq,dV.eq];unfold eT.B dV.B
 dsimp only
 simp only [hm,p1,Qa]
 cases hs:sq r (⟨#[]⟩:ByteArray) with
 |true=>exact aF (aF rfl)
 |false=>
  have hp:=hp hs
  simp only [Bool.not_false,Bool.not_true,Qb]
  refine aj (fun h=>by rw [h];exact aF (aF rfl)) fun h=>?_
  rw [h]
  simp only [Qb,rf,rb,Qa,jW c _ hcl,kD c _ hcl]
  refine aj (fun h=>by rw [h];exact aF (aF rfl)) fun h=>?_
  rw [h]
  simp only [Qb]
  by_cases hk:d.1=0
  ·have e1:(d.1 !=0)=false:=by simp [hk]
   have e2:(d.1==0)=true:=by simpa using hk
   rw [e1,e2]
   refine (tab_x c hc _ _ _ hd.s1 (hp.1 hk) hd.s2).mono fun y hy=>bo (hy.mono fun z hz=>aF ?_)
   exact Prod.ext hz rfl
  ·have e1:(d.1 !=0)=true:=by simpa using hk
   have e2:(d.1==0)=false:=by simpa using hk
   rw [e1,e2]
   refine nX ((C8 c hc _ _ _ _ _ _ _ _ _ hd.s5 hd.s6 (hp.2 hk)).mono fun y hy=>hy.mono fun z hz=>?_)
   rw [hz]
   cases y.1 with
   |true=>exact aF (aF rfl)
   |false=>exact aF (aF rfl)
theorem Gc.suc {c:List bL} {i:Nat} (hi:i<c.length) (hl:c.length≤22) (hs:Sd c[i]) (h:Gc (c.take i)) (hg:Gd (c.take i) c[i]):Gc (c.take (i+1)):=by
 refine ⟨by simp;omega,fun d hd=>?_,fun j hj=>?_⟩
 ·rw [←List.take_append_getElem hi] at hd
  rcases List.mem_append.1 hd with h1|h1
  ·exact h.s d h1
  ·rw [List.mem_singleton.1 h1]
   exact hs
 ·simp only [List.length_take] at hj
  simp only [List.getElem_take]
  rw [List.take_take,show min j (i+1)=j by omega]
  by_cases e:j=i
  ·subst e;exact hg
  ·have:=h.g j (by simp;omega)
   simp only [List.getElem_take] at this
   rw [List.take_take,show min j i=j by omega] at this
   exact this
theorem B1 (c:List bL) (hl:c.length≤22) (hs:∀d∈c,Sd d):gq.F (c,())=schema_May.F (c,()):=by
 rw [gq.eq,schema_May.eq];unfold gq.B schema_May.B
 dsimp only
 refine qx (fun s=>∃i:Nat,s.1=(i:Int)∧i≤c.length∧Gc (c.take i)) ⟨0,rfl,by omega,⟨by simp,by simp,by simp⟩⟩ ?_
 rintro ⟨_,_⟩ ⟨i,rfl,h1,hG⟩
 dsimp only
 by_cases h5:i<c.length
 ·have d1:decide ((i:Int)<(c.length:Int))=true:=by simp;omega
  have i1:ib (i:Int) (c.length:Int)=true:=by simp;omega
  have i2:sb 0 (i:Int) (c.length:Int)=true:=by simp;omega
  have hS:=hs _ (List.getElem_mem h5)
  simp only [d1,i1,i2,ckT,Qc,cD h5,Int.toNat_zero,List.drop_zero,Int.toNat_natCast,wrn h5 (by omega:c.length≤1000000)]
  obtain ⟨⟨r,_⟩,e1,hr⟩:=re _ hG _ hS
  have e2:dV.F (c.take i,dA c[i])=some (r,()):=(add_e _ hG _ hS).symm.trans e1
  simp only [e1,e2,Qa]
  refine ⟨trivial,fun s' h=>?_⟩
  cases e:(r !=0) with
  |true=>rw [e] at h;cases h
  |false=>
   rw [e] at h
   cases h
   exact ⟨i+1,rfl,h5,Gc.suc h5 hl hS hG (hr (by simpa using e))⟩
 ·have d1:decide ((i:Int)<(c.length:Int))=false:=by simp;omega
  simp only [d1,Qb]
  exact ⟨trivial,fun s' h=>by cases h⟩
theorem Db {c:List bL} (hc:Gc c):Tot (schema_May.F (c,())) fun _=>True:=by
 rw [←B1 c hc.len hc.s]
 exact (uF c hc.len hc.s).mono fun _ _=>trivial
end Go.Proofs.Ytpoffnlnhdbpmaa
end
section
set_option maxRecDepth 100000
namespace Go.Proofs.Ytpoffnlnhdbpmaa
open Go Lv Go.Proofs Go.RowKit Go.Shelf
section
variable {α S R:Type}
theorem zH {b1 b2:S→Option (S⊕R)} (I:S→Prop) {s:S} (h0:I s) (h:∀s,I s→b1 s=b2 s∧Par (b1 s) fun z=>match z with| .inl s'=>I s'| .inr _=>True):aN b1 s=aN b2 s:=
 qx I h0 fun s hs=>⟨(h s hs).1,fun s' e=>(h s hs).2 _ e⟩
end
variable [Lk]
theorem zI (x y : ap) : da.F (x.1,x.2.1,x.2.2,y.1,y.2.1,y.2.2,()) = some (cV x y,()) := by
  rw [da.eq];unfold da.B
  dsimp only
  unfold cV
  rcases jl x.1 y.1 with ⟨h,e⟩|⟨h,e⟩|⟨h,e⟩
  · have e1:(x.1 !=y.1)=true:=by simp;omega
    simp [e,e1,h]
  · have e1:(x.1 !=y.1)=false:=by simp [h]
    rw [e1,e]
    simp only [Qb,ne_eq,not_true_eq_false,if_false]
    rcases jl x.2.1 y.2.1 with ⟨h,e⟩|⟨h,e⟩|⟨h,e⟩
    · have e1:(x.2.1 !=y.2.1)=true:=by simp;omega
      simp [e,e1,h]
    · have e1:(x.2.1 !=y.2.1)=false:=by simp [h]
      rw [e1,e]
      simp only [Qb,ne_eq,not_true_eq_false,if_false]
      rw [ByteArray.toList_eq,ByteArray.toList_eq,vO]
      unfold uv
      rcases yW x.2.2.data.toList y.2.2.data.toList with h|h|h
      · have h':Lib.compareBytes x.2.2.data.toList y.2.2.data.toList=-1:=h
        rw [h,h']
        rfl
      · have h':Lib.compareBytes x.2.2.data.toList y.2.2.data.toList=0:=h
        have he:=ri _ _ h
        rw [h,h',he]
        simp
      · have h':Lib.compareBytes x.2.2.data.toList y.2.2.data.toList=1:=h
        have he:(x.2.2.data.toList==y.2.2.data.toList)=false:=by
          rw [beq_eq_false_iff_ne]
          intro he
          rw [he,rg] at h
          cases h
        rw [h,h',he]
        rfl
    · have e1:(x.2.1 !=y.2.1)=true:=by simp;omega
      have h2:¬x.2.1<y.2.1:=by omega
      simp [e,e1,h2]
  · have e1:(x.1 !=y.1)=true:=by simp;omega
    have h2:¬x.1<y.1:=by omega
    simp [e,e1,h2]
theorem uU (a b : List ap) (ha : a.length ≤ 1000) : dy.F (a,b,()) = some (kc a b,()) := by
  refine Tot.is ?_
  rw [dy.eq];unfold dy.B
  refine aY (fun _=>∃i,(i=a.length∨i=b.length)∧i≤a.length∧i≤b.length∧kc a b=kc (a.drop i) (b.drop i)) ?_ fun _ h=>?_
  · refine dk (fun x=>a.length-x.1.toNat) (fun x=>∃i:Nat,x.1=(i:Int)∧i≤a.length∧i≤b.length∧kc a b=kc (a.drop i) (b.drop i)) ⟨0,rfl,by simp,by simp,by simp⟩ ?_
    rintro ⟨_,_⟩ ⟨i,rfl,h1,h2,h3⟩
    dsimp only
    refine ac.2 ⟨fun h5=>ac.2 ⟨fun h6=>?_,fun h6=>?_⟩,fun h5=>?_⟩
    · simp at h5 h6
      simp only [cD h5,cD h6,zI,Qa,wrn h5 (by omega:a.length≤1000000)]
      rw [List.drop_eq_getElem_cons h5,List.drop_eq_getElem_cons h6] at h3
      rw [rj] at h3
      refine ah.2 ⟨by simp;omega,ah.2 ⟨by simp;omega,ac.2 ⟨fun e=>aH.2 ?_,fun e=>av.2 ⟨⟨i+1,rfl,h5,h6,?_⟩,?_⟩⟩⟩⟩
      · dsimp only
        rw [h3,if_pos (by simpa using e)]
      · rw [h3,if_neg (by simpa using e)]
      · dsimp only
        omega
    · simp at h6
      exact aH.2 ⟨i,.inr (by omega),h1,h2,h3⟩
    · simp at h5
      exact aH.2 ⟨i,.inl (by omega),h1,h2,h3⟩
  · obtain ⟨i,hi,h1,h2,h3⟩:=h
    rw [h3]
    refine ac.2 ⟨fun h5=>ai.2 ?_,fun h5=>ac.2 ⟨fun h6=>ai.2 ?_,fun h6=>ai.2 ?_⟩⟩
    · simp at h5
      rw [List.drop_eq_getElem_cons (show i<b.length by omega),List.drop_eq_nil_of_le (show a.length≤i by omega)]
      rfl
    · simp at h5 h6
      rw [List.drop_eq_getElem_cons (show i<a.length by omega),List.drop_eq_nil_of_le (show b.length≤i by omega)]
      rfl
    · simp at h5 h6
      rw [List.drop_eq_nil_of_le (show b.length≤i by omega),List.drop_eq_nil_of_le (show a.length≤i by omega)]
      rfl
theorem tK (l:List ap):fT.F (l,())=fX.F (l,()):=by
 refine zF (qv l) (za l) ?_
 rw [fT.eq,fX.eq];unfold fT.B fX.B
 dsimp only
 refine aj (fun h=>?_) fun h=>by rw [h];exact aF (aF rfl)
 rw [h]
 simp at h
 rw [gu.eq];unfold gu.B
 dsimp only
 have h1:∀a b c,eX.F (a,b,c,())=(dQ.F (a,b,c,())).bind fun y=>some (!y.1,()):=fun a b c=>by rw [eX.eq];unfold eX.B;dsimp only;rw [uS]
 refine bo ((iZ (P:=fun r q=>r=q) (fun s t=>s.1=t.1∧0≤s.1∧s.1≤(l.length:Int)) ⟨rfl,by simp,by simp⟩ ?_).mono fun y hy=>aF hy)
 rintro ⟨i,_⟩ ⟨_,_⟩ ⟨rfl,i0,i9⟩
 dsimp only at i0 i9 ⊢
 refine aj (fun h5=>?_) fun h5=>by rw [h5];exact aL (aL rfl)
 rw [h5]
 simp at h5
 simp only [Qc]
 refine ay fun i1=>?_
 obtain ⟨⟨m,_⟩,hm,_⟩:=pw (gt l i ar.z).1 (gt l i ar.z).2.1 (gt l i ar.z).2.2
 have hw:wr (i+1)=i+1:=bB (by omega) (by omega)
 simp only [i1,ckT,h1,hm,Qa,hw]
 cases m with
 |false=>
  refine aL ?_
  have:decide (i≥0)=true:=by simpa using i0
  simp only [this]
  exact aL rfl
 |true=>exact aC (aC ⟨rfl,by dsimp only;omega,by dsimp only;omega⟩)
theorem bag_x (l : List bO) (hl : l.length ≤ 12) (hk : ∀ r ∈ l,r.1.length ≤ 40) : gv.F (l,()) = gx.F (l,()) := by
  rw [gv.eq,gx.eq];unfold gv.B gx.B
  dsimp only
  have hf:∀n:Int,fZ.F (n,())=fM.F (n,()):=fun n=>by rw [fZ.eq,fM.eq];rfl
  refine zH (fun s=>∃i:Nat,s.1=(i:Int)∧i≤l.length) ⟨0,rfl,by omega⟩ ?_
  rintro ⟨_,_⟩ ⟨i,rfl,h1⟩
  dsimp only
  by_cases h5:i<l.length
  rotate_left 1
  · have d1:decide ((i:Int)<(l.length:Int))=false:=by simp;omega
    rw [d1]
    exact ⟨rfl,aL trivial⟩
  have d1:decide ((i:Int)<(l.length:Int))=true:=by simp;omega
  have i1:ib (i:Int) (l.length:Int)=true:=by simp;omega
  simp only [d1,i1,ckT,Qc,cD h5,hf,tK,wrn h5 (by omega:l.length≤1000000)]
  have hcmp:∀z:bO,z.1.length≤1000→dy.F (z.1,l[i].1,())=dX.F (z.1,l[i].1,()):=fun z hz=>(uU _ _ hz).trans (BP _ _ hz).symm
  have hz : (gt l (wr ((i : Int) - 1)) cX.z).1.length ≤ 1000 := by
    by_cases h:0≤wr ((i:Int)-1)∧wr ((i:Int)-1)<(l.length:Int)
    · have:=hk _ (d9 (z:=cX.z) h.1 h.2)
      omega
    · by_cases h0:i=0
      · subst h0
        have:gt l (wr (((0:Nat):Int)-1)) cX.z∈l:=by
          have:(wr (((0:Nat):Int)-1)).toNat=0:=by rw [eo];rfl
          unfold gt
          rw [this,List.getD_eq_getElem?_getD,List.getElem?_eq_getElem h5]
          exact List.getElem_mem h5
        have:=hk _ this
        omega
      · rw [bB (by omega) (by omega)] at h
        omega
  simp only [hcmp _ hz]
  refine ⟨trivial,gB (fun _=>True) ?_ fun _ _=>aj (fun _=>aL trivial) fun _=>aC ⟨i+1,rfl,h5⟩⟩
  exact aj (fun _=>aC trivial) fun _=>bo fun _ _=>aj (fun _=>aC trivial) fun _=>bo fun _ _=>aj (fun _=>aC trivial) fun _=>aj (fun _=>ay fun _=>bo fun _ _=>aC trivial) fun _=>aC trivial
end Go.Proofs.Ytpoffnlnhdbpmaa
end
section
set_option maxRecDepth 100000
namespace Go.Proofs.Ytpoffnlnhdbpmaa
open Go Lv Go.Proofs Go.RowKit Go.Shelf
variable [Lk]
def Ro (n:Nat) (r:bO):Prop:=r.2=1∧r.1.length=n∧(fst0 r.1).1≠0
def Rx (n:Nat) (l:List bO):Prop:=∀(i:Nat) (h:i<l.length),Ro n l[i]∧∀(j:Nat) (hj:j<i),fst0 l[j].1≠fst0 l[i].1
def Cx (n:Nat) (l:List bO):Prop:=∀(i:Nat) (h:i<l.length),Ro n l[i]∧∀(h0:0<i) (h1:i-1<l.length),fst0 l[i-1].1≠fst0 l[i].1
theorem zJ {a b:List ap} (ha:1≤a.length) (hb:1≤b.length) (h:kc a b<0) (hn:fst0 a≠fst0 b):cV (fst0 a) (fst0 b)<0:=by
 cases a with
 |nil=>simp at ha
 |cons x a=>
  cases b with
  |nil=>simp at hb
  |cons y b=>
   rw [rj] at h
   have hn:x≠y:=hn
   have:cV x y≠0:=fun e=>hn (AY e)
   rw [if_pos this] at h
   exact h
theorem rx_cx {n : Nat} {l : List bO} (hn : 1 ≤ n) (hb : Bk l) : Rx n l ↔ Cx n l := by
  constructor
  · exact fun h i hi=>⟨(h i hi).1,fun h0 h1=>(h i hi).2 (i-1) (by omega)⟩
  · intro h
    have lt:∀(d i:Nat) (hi:i+d+1<l.length),cV (fst0 l[i].1) (fst0 l[i+d+1].1)<0:=by
      intro d
      induction d with
      |zero=>
        intro i hi
        have h1:=(hb (i+1) hi).2 (by omega) (by omega)
        have h2:=(h (i+1) hi).2 (by omega) (by omega)
        simp only [Nat.add_sub_cancel] at h1 h2
        have e1:=(h i (by omega)).1.2.1
        have e2:=(h (i+1) hi).1.2.1
        exact zJ (by omega) (by simp only [Nat.add_zero];omega) h1 h2
      |succ d ih=>
        intro i hi
        have h0:=ih i (by omega)
        have h1:=(hb (i+d+1+1) (by omega)).2 (by omega) (by omega)
        have h2:=(h (i+d+1+1) (by omega)).2 (by omega) (by omega)
        simp only [Nat.add_sub_cancel] at h1 h2
        have e1:=(h (i+d+1) (by omega)).1.2.1
        have e2:=(h (i+d+1+1) (by omega)).1.2.1
        exact yX h0 (zJ (by omega) (by show 1≤l[i+d+1+1].1.length;omega) h1 h2)
    refine fun i hi=>⟨(h i hi).1,fun j hj e=>?_⟩
    have:=lt (i-j-1) j (by omega)
    simp only [show j+(i-j-1)+1=i by omega] at this
    rw [e,AX] at this
    omega
theorem Bo (n : ByteArray) (cs : List aB) (es : List (List ak)) (l : List bO) (h1 : 1 ≤ cs.length) (h : l.length ≤ 12) : Par (fK.F (n,cs,es,l,())) fun y => y.1 = true ↔ Rx cs.length l := by
  rw [fK.eq];unfold fK.B
  refine iz (fun x=>∃i:Nat,x.1=(i:Int)∧i≤l.length∧∀(k:Nat) (hk:k<l.length),k<i→Ro cs.length l[k]∧∀(j:Nat) (hj:j<k),fst0 l[j].1≠fst0 l[k].1) ⟨0,rfl,by omega,fun _ _ h=>by omega⟩ ?_
  rintro ⟨_,_⟩ ⟨i,rfl,i1,i2⟩
  dsimp only
  refine aj (fun h5=>?_) fun h5=>aL ?_
  · simp at h5
    simp only [cD h5,wrn h5 (by omega:l.length≤1000000)]
    have no:¬(Ro cs.length l[i]∧∀(j:Nat) (hj:j<i),fst0 l[j].1≠fst0 l[i].1)→(false=true↔Rx cs.length l):=fun h=>by
      simp only [Bool.false_eq_true,false_iff]
      exact fun h2=>h (h2 i h5)
    refine gB (fun _=>Ro cs.length l[i]∧∀(j:Nat) (hj:j<i),fst0 l[j].1≠fst0 l[i].1) ?_ fun _ hq=>aC ⟨i+1,rfl,h5,fun k hk hki=>?_⟩
    · refine gB (fun _=>l[i].2=1∧l[i].1.length=cs.length) ?_ fun _ hr=>?_
      · refine ay fun _=>aj (fun e=>aL (no fun h=>?_)) fun e=>ay fun _=>aj (fun e2=>aL (no fun h=>?_)) fun e2=>aC ⟨by simpa using e,by simp at e2;omega⟩
        · have:=h.1.1
          simp [this] at e
        · have:=h.1.2.1
          simp [this] at e2
      · refine ay fun _=>ay fun _=>aj (fun e=>aL (no fun h=>?_)) fun e=>?_
        · exact h.1.2.2 (by simpa using e)
        · refine iz (fun x=>∃m:Nat,x.1=(m:Int)∧m≤i∧∀(j:Nat) (hj:j<i),j<m→fst0 l[j].1≠fst0 l[i].1) ⟨0,rfl,by omega,fun _ _ h=>by omega⟩ ?_
          rintro ⟨_,_⟩ ⟨m,rfl,m1,m2⟩
          dsimp only
          refine aj (fun h6=>?_) fun h6=>aL ?_
          · simp at h6
            have hm:m<l.length:=by omega
            simp only [cD hm]
            refine ay fun _=>ay fun _=>ay fun _=>ay fun _=>aj (fun e=>aL (no fun h=>?_)) fun e=>aC ⟨m+1,wrn hm (by omega),h6,fun j hj hjm=>?_⟩
            · exact h.2 m h6 (eqV.1 e)
            · by_cases ej:j=m
              · subst ej;exact neV.1 e
              · exact m2 j hj (by omega)
          · simp at h6
            exact ⟨⟨hr.1,hr.2,by simpa using e⟩,fun j hj=>m2 j hj (by omega)⟩
    · by_cases e:k=i
      · subst e;exact hq
      · exact i2 k hk (by omega)
  · simp at h5
    simp only [true_iff]
    exact fun k hk=>i2 k hk (by omega)
theorem Dc (c:List bL) (hl:c.length≤22) (hs:∀d∈c,Sd d) (b:List bF) (hb:Sb b):di.F (c,b,())=fW.F (c,b,()):=by
 rw [di.eq,fW.eq];unfold di.B fW.B
 dsimp only
 rw [←B1 c hl hs]
 obtain ⟨⟨y,_⟩,e,hy⟩:=uF c hl hs
 simp only [e,Qa]
 cases y with
 |false=>rfl
 |true=>
 have hc:=hy rfl
 simp only [Bool.not_true,Qb,rk c (show c.length≤1000 by omega),vP c (show c.length≤1000 by omega),Qa]
 cases e:(((tabs c).length:Int) !=(b.length:Int)) with
 |true=>rfl
 |false=>
 have hn:(tabs c).length=b.length:=by simp at e;omega
 have hbl:=hb.l
 simp only [Qb,hn]
 refine zH (fun s=>∃i:Nat,s.1=(i:Int)∧i≤b.length) ⟨0,rfl,by omega⟩ ?_
 rintro ⟨_,_⟩ ⟨i,rfl,h1⟩
 dsimp only
 by_cases hi:i<b.length
 rotate_left 1
 ·have d1:decide ((i:Int)<(b.length:Int))=false:=by simp;omega
  rw [d1]
  exact ⟨rfl,aL trivial⟩
 have hi':i<(tabs c).length:=by omega
 have d1:decide ((i:Int)<(b.length:Int))=true:=by simp;omega
 have i1:ib (i:Int) (b.length:Int)=true:=by simp;omega
 have g2:List.getD (tabs c) (Int.toNat (i:Int)) iW.z=(tabs c)[i]:=cD hi' _
 have hm:=List.getElem_mem hi
 have ht:=mn hc (List.getElem_mem hi')
 simp only [d1,i1,ckT,Qc,cD hi,g2,wrn hi (by omega:b.length≤1000000)]
 refine and_comm.1 ⟨?_,?_⟩
 ·refine gB (fun _=>True) ?_ fun _ _=>aC ⟨i+1,rfl,hi⟩
  refine gB (fun _=>True) ?_ fun _ _=>?_
  ·exact aj (fun _=>aL trivial) fun _=>bo fun _ _=>aj (fun _=>aL trivial) fun _=>aC trivial
  ·refine iz (fun _=>True) trivial fun s _=>aj (fun _=>ay fun _=>?_) fun _=>aL trivial
   refine gB (fun _=>True) ?_ fun _ _=>aj (fun _=>aL trivial) fun _=>aC trivial
   exact aj (fun _=>aC trivial) fun _=>aj (fun _=>aC trivial) fun _=>ay fun _=>aj (fun _=>aC trivial) fun _=>aj (fun _=>ay fun _=>ay fun _=>ay fun _=>aC trivial) fun _=>aC trivial
 cases hq:sq b[i].1 (tabs c)[i].1 with
 |false=>rfl
 |true=>
 simp only [Bool.not_true,Qb,bag_x _ (hb.r _ hm) (hb.k _ hm)]
 obtain ⟨⟨bv,_⟩,ebv,hbv⟩:=BQ _ (hb.r _ hm) (hb.k _ hm)
 simp only [ebv,Qa]
 cases bv with
 |false=>rfl
 |true=>
 have hB:Bk b[i].2:=hbv.1 rfl
 obtain ⟨⟨v,_⟩,ev,_⟩:=vQ (tabs c)[i].1 (tabs c)[i].2.1 (tabs c)[i].2.2 b[i].2 ht.1 (hb.r _ hm)
 have hv:=(Bo _ _ _ _ ht.1 (hb.r _ hm) _ ev).trans (rx_cx ht.1 hB)
 dsimp only at hv
 simp only [ev,Qa,Bool.not_true,Qb]
 rw [show ∀(k:Unit→Option _),jn (S:=Unit) (il ()) k=k () from fun k=>rfl]
 have hrl:=hb.r _ hm
 have key:∀(L:Option (Unit⊕(Int×Unit)⊕(Bool×Unit))),Tot L (fun z=>match z with| .inl _=>v=true| .inr q=>v=false∧q=.inr (false,()))→jn L (fun _=>il (R:=Bool×Unit) (((i+1:Nat):Int),()))=bif !v then ir (false,()) else il (((i+1:Nat):Int),()):=by
  rintro L ⟨z,rfl,hz⟩
  cases z with
  |inl u=>
   have:v=true:=hz
   rw [this]
   rfl
  |inr q=>
   obtain ⟨h1,rfl⟩:=hz
   rw [h1]
   rfl
 refine key _ ?_
 have hR:∀(j:Nat) (h:j<b[i].2.length),1≤(tabs c)[i].2.1.length:=fun _ _=>ht.1
 generalize (tabs c)[i].2.1.length=n at*
 generalize b[i].2=l at*
 refine dk (fun x=>l.length-x.1.toNat) (fun x=>∃j:Nat,x.1=(j:Int)∧j≤l.length∧∀(k:Nat) (h:k<l.length),k<j→Ro n l[k]∧∀(h0:0<k) (h1:k-1<l.length),fst0 l[k-1].1≠fst0 l[k].1) ⟨0,rfl,by omega,fun _ _ h=>by omega⟩ ?_
 rintro ⟨_,_⟩ ⟨j,rfl,j1,j2⟩
 dsimp only
 refine ac.2 ⟨fun h5=>?_,fun h5=>aH.2 (hv.2 fun k hk=>j2 k hk (by simp at h5;omega))⟩
 have hj:j<l.length:=by simpa using h5
 have no:¬(Ro n l[j]∧∀(h0:0<j) (h1:j-1<l.length),fst0 l[j-1].1≠fst0 l[j].1)→v=false:=fun h=>by
  cases v with
  |false=>rfl
  |true=>exact absurd ((hv.1 rfl) j hj) h
 simp only [cD hj,wrn hj (by omega:l.length≤1000000)]
 refine ah.2 ⟨by simp;omega,aY (fun x=>x.1=false↔(Ro n l[j]∧∀(h0:0<j) (h1:j-1<l.length),fst0 l[j-1].1≠fst0 l[j].1)) ?_ fun x hx=>ac.2 ⟨fun e=>aH.2 ⟨no fun h=>?_,rfl⟩,fun e=>av.2 ⟨⟨j+1,rfl,hj,fun k hk hkj=>?_⟩,by dsimp only;omega⟩⟩⟩
 ·refine ac.2 ⟨fun e=>av.2 ?_,fun e=>ac.2 ⟨fun e2=>av.2 ?_,fun e2=>ah.2 ⟨?_,ac.2 ⟨fun e3=>av.2 ?_,fun e3=>ac.2 ⟨fun e4=>?_,fun e4=>av.2 ?_⟩⟩⟩⟩⟩
  ·simp only [Bool.true_eq_false,false_iff]
   intro h
   simp [h.1.1] at e
  ·simp only [Bool.true_eq_false,false_iff]
   intro h
   simp [h.1.2.1] at e2
  ·have:=hR j hj
   simp at e2
   rw [iq];omega
  ·simp only [Bool.true_eq_false,false_iff]
   intro h
   exact h.1.2.2 (by simpa using e3)
  ·simp at e4
   have hj':j-1<l.length:=by omega
   have w1:wr ((j:Int)-1)=((j-1:Nat):Int):=by rw [bB (by omega) (by omega)];omega
   have hj2:=(j2 (j-1) hj' (by omega)).1.2.1
   have:=hR j hj
   simp at e2
   simp only [w1,cD hj']
   refine ah.2 ⟨by simp;omega,ah.2 ⟨by rw [iq];omega,ah.2 ⟨by rw [iq];omega,av.2 ?_⟩⟩⟩
   dsimp only
   rw [neV]
   constructor
   ·exact fun h=>⟨⟨by simpa using e,by omega,by simpa using e3⟩,fun _ _=>h⟩
   ·exact fun h=>h.2 e4 hj'
  ·simp at e4
   simp only [true_iff]
   exact ⟨⟨by simpa using e,by simp at e2;omega,by simpa using e3⟩,fun h _=>by omega⟩
 ·rw [hx.2 h] at e
  cases e
 ·by_cases ek:k=j
  ·subst ek;exact hx.1 e
  ·exact j2 k hk (by omega)
end Go.Proofs.Ytpoffnlnhdbpmaa
end
section
set_option maxRecDepth 100000
namespace Go.Proofs.Ytpoffnlnhdbpmaa
open Go Lv Go.Proofs Go.RowKit Go.Shelf
section
variable [i:Lk]
theorem Bp:fV.F ()=some (true,()):=by
 rcases i with ⟨⟨⟩⟩
 kernel_rfl
end
variable [Lk]
theorem Gb.ne {c:List bL} {b:List bF} (hc:Gc c) (hb:Gb c b):∀x∈b,∀r∈x.2,1≤r.1.length:=fun x hx r hr=>by
 obtain ⟨i,hi,rfl⟩:=List.getElem_of_mem hx
 have h':i<(tabs c).length:=by rw [←hb.n];exact hi
 have:=((hb.m i hi h').2.e r hr).2
 have:=(mn hc (List.getElem_mem h')).1
 omega
abbrev zW:Int×ByteArray×Int×Unit:=((0:Int),(⟨#[]⟩:ByteArray),(0:Int),())
theorem Bq (n:ByteArray) (cs:List aB) (es:List (List ak)) (b:List bF):Par (cN.F (n,cs,es,b,())) fun y=>(y.1=0→y=zW)∧(y.1≠0→y.2.1=n):=by
 rw [cN.eq];unfold cN.B
 have bad:∀k m:Int,k≠0→(((k,n,m,()):Int×ByteArray×Int×Unit).1=0→((k,n,m,()):Int×ByteArray×Int×Unit)=zW)∧(((k,n,m,()):Int×ByteArray×Int×Unit).1≠0→((k,n,m,()):Int×ByteArray×Int×Unit).2.1=n):=fun k m h=>⟨fun e=>absurd e h,fun _=>rfl⟩
 refine bo fun y1 _=>gB (fun _=>True) ?_ fun _ _=>?_
 ·refine gB (fun _=>True) (bo fun _ _=>aC trivial) fun _ _=>aj (fun _=>aL (bad _ _ (by decide))) fun _=>?_
  refine gB (fun _=>True) (bo fun _ _=>aC trivial) fun _ _=>aj (fun _=>aL (bad _ _ (by decide))) fun _=>?_
  exact gB (fun _=>True) (bo fun _ _=>aC trivial) fun _ _=>aj (fun _=>aL (bad _ _ (by decide))) fun _=>aC trivial
 ·exact bo fun y9 _=>aj (fun e=>aF (bad _ _ (by simpa using e))) fun _=>aF ⟨fun _=>rfl,fun h=>absurd rfl h⟩
structure Gm (c:List bL) (b:List bF):Prop where
 gc:Gc c
 gb:Gb c b
 sb:Sb b
 cm:Cm c b
noncomputable def tv (b:List bF) (t:gD):Int×ByteArray×Int×Unit:=(cN.F (t.1,t.2.1,t.2.2,b,())).getD zW
theorem tv_s {c:List bL} {b:List bF} (g:Gm c b) {t:gD} (ht:t∈tabs c):cN.F (t.1,t.2.1,t.2.2,b,())=some (tv b t)∧((tv b t).1=0→tv b t=zW)∧((tv b t).1≠0→(tv b t).2.1=t.1):=by
 have hok:=mn g.gc ht
 have hl:∀r∈fl b t.1,r.1.length=t.2.1.length:=by
  obtain ⟨j,hj,rfl⟩:=List.getElem_of_mem ht
  have hj':j<b.length:=by rw [g.gb.n];exact hj
  rw [y0 g.gc g.gb hj]
  exact fun r hr=>((g.gb.m j hj' hj).2.e r hr).2
 obtain ⟨y,e,_⟩:=A5 t b hok.2.1 hok.2.2.1 hl g.sb (g.gb.ne g.gc)
 have:tv b t=y:=by unfold tv;rw [e];rfl
 rw [this]
 exact ⟨e,Bq _ _ _ _ y e⟩
noncomputable def fv (b:List bF) (l:List gD):Int×ByteArray×Int×Unit:=l.foldl (fun a t=>if a.1=0 then tv b t else a) zW
theorem rD (b:List bF):∀(l:List gD) (a:Int×ByteArray×Int×Unit),a.1≠0→l.foldl (fun a t=>if a.1=0 then tv b t else a) a=a
 | [],_,_=>rfl
 |t::l,a,h=>by
  rw [List.foldl_cons,if_neg h]
  exact rD b l a h
theorem Dd (b:List bF) {l:List gD} {i:Nat} (h:i<l.length):fv b (l.take (i+1))=if (fv b (l.take i)).1=0 then tv b l[i] else fv b (l.take i):=by
 unfold fv
 rw [←List.take_append_getElem h,List.foldl_append]
 rfl
theorem zK (l m:List bL):tabs (l++m)=tabs l++tabs m:=by
 unfold tabs
 rw [List.filter_append,List.map_append]
theorem Br {c : List bL} {b : List bF} (g : Gm c b) (hm : di.F (c,b,()) = some (true,())) : cO.F (c,b,()) = some (fv b (tabs c)) := by
  have hcl:=g.gc.len
  have:Tot (cO.F (c,b,())) fun y=>y=fv b (tabs c):=by
    rw [cO.eq];unfold cO.B
    dsimp only
    simp only [hm,Qa,Bool.not_true,Qb]
    refine aY (fun _=>fv b (tabs c)=zW) ?_ fun _ h=>ai.2 h.symm
    refine dk (fun x=>c.length-x.1.toNat) (fun x=>∃i:Nat,x.1=(i:Int)∧i≤c.length∧fv b (tabs (c.take i))=zW) ⟨0,rfl,by omega,rfl⟩ ?_
    rintro ⟨_,_⟩ ⟨i,rfl,i1,i2⟩
    dsimp only
    refine ac.2 ⟨fun h5=>?_,fun h5=>aH.2 ?_⟩
    · simp at h5
      simp only [cD h5,wrn h5 (by omega:c.length≤1000000)]
      have hts:=kO h5
      refine ah.2 ⟨by simp;omega,ac.2 ⟨fun e=>av.2 ⟨⟨i+1,rfl,h5,?_⟩,by dsimp only;omega⟩,fun e=>?_⟩⟩
      · have:(c[i].1==0)=false:=by simpa using e
        rw [hts,this,Qb,List.append_nil]
        exact i2
      · have h0:c[i].1=0:=by simpa using e
        have h0':(c[i].1==0)=true:=by simpa using h0
        have ht:c[i].2.1∈tabs c:=List.mem_map.2 ⟨c[i],List.mem_filter.2 ⟨List.getElem_mem h5,h0'⟩,rfl⟩
        obtain ⟨e1,e2,e3⟩:=tv_s g ht
        rw [h0',Qc] at hts
        have hfv:fv b (tabs (c.take (i+1)))=tv b c[i].2.1:=by
          rw [hts]
          unfold fv at i2 ⊢
          rw [List.foldl_append,i2]
          rfl
        rw [e1]
        refine af.2 (ai.2 (ac.2 ⟨fun e=>aH.2 ?_,fun e=>av.2 ⟨⟨i+1,rfl,h5,?_⟩,by dsimp only;omega⟩⟩))
        · show tv b c[i].2.1=fv b (tabs c)
          have:tabs c=tabs (c.take (i+1))++tabs (c.drop (i+1)):=by rw [←zK,List.take_append_drop]
          rw [this]
          unfold fv at hfv ⊢
          rw [List.foldl_append,hfv]
          exact (rD b _ _ (by simpa using e)).symm
        · rw [hfv]
          exact e2 (by simpa using e)
    · simp at h5
      rw [List.take_of_length_le (by omega)] at i2
      exact i2
  obtain ⟨_,e,rfl⟩:=this
  exact e
theorem eqWv {x y:sT}:Ty.eq iu x y=true↔x=y:=by
 obtain ⟨a,s,b⟩:=x
 obtain ⟨c,t,d⟩:=y
 simp [Ty.eq,MapKept.bytes_beq]
end Go.Proofs.Ytpoffnlnhdbpmaa
end
section
set_option maxRecDepth 100000
namespace Go.Proofs.Ytpoffnlnhdbpmaa
open Go Lv Go.Proofs Go.RowKit Go.Shelf
variable [Lk]
omit [Lk] in
theorem ns {t n:Nat} (h0:Nat.blt 0 (PP.bytesOf t)=true) (h:n*PP.bytesOf t≤reachBytes):n<1000000000000000:=by
 have h0:0<PP.bytesOf t:=Nat.le_of_ble_eq_true h0
 have:n*1≤n*PP.bytesOf t:=Nat.mul_le_mul_left n h0
 unfold reachBytes at h
 omega
omit [Lk] in
theorem lu {n:Int} (h:(Lit.int .i64 n).wf=true):I64 n:=by
 simp only [Lit.wf,Bool.and_eq_true,decide_eq_true_eq] at h
 have hm:IntKind.i64.min=-9223372036854775808:=by decide
 have hM:IntKind.i64.max=9223372036854775807:=by decide
 constructor<;>omega
theorem in_dn {d:bL} (h:In PP gF d):Dn d:=by
 simp only [In] at h
 obtain ⟨h1,⟨h2,⟨h3,h3'⟩,h4,h4'⟩,h5,h6,h7,h8,⟨h9,h9'⟩,⟨h10,h10'⟩,_,h12,h12'⟩:=h
 exact ⟨ns (by kernel_rfl) h3,ns (by kernel_rfl) h4,fun e he=>ns (by kernel_rfl) (h4' e he).1,ns (by kernel_rfl) h9,ns (by kernel_rfl) h10,ns (by kernel_rfl) h12,
  fun e he n hn=>⟨lu ((h4' e he).2 n hn).2.1,lu ((h4' e he).2 n hn).2.2.2.1⟩,fun n hn=>⟨lu (h9' n hn).2.1,lu (h9' n hn).2.2.2.1⟩,lu h8.1,lu h8.2,fun n hn=>lu (h10' n hn),fun x hx=>lu (h12' x hx).2⟩
theorem in_bn {b:List bF} (h:In PP (.sl 44 eB) b):Bn b:=by
 simp only [In] at h
 exact ⟨ns (by kernel_rfl) h.1,fun x hx r hr=>ns (by kernel_rfl) ((h.2 x hx).2.2 r hr).1.1⟩
theorem zL (a b:Int) (ha:I64 a) (hb:I64 b):dH.F (a,b,())=some (wr (a+b),decide (-9223372036854775808≤a+b∧a+b≤9223372036854775807),()):=by
 rw [dH.eq];unfold dH.B
 dsimp only
 obtain ⟨a1,a2⟩:=ha
 obtain ⟨b1,b2⟩:=hb
 by_cases hr:-9223372036854775808≤a+b∧a+b≤9223372036854775807
 ·rw [bB hr.1 hr.2]
  have e:(decide (a+b>a)==decide (b>0))=true:=by
   rw [beq_iff_eq,decide_eq_decide]
   omega
  rw [e,Qc]
  simp [hr]
 ·have hw:=eo (a+b)
  have e:(decide (wr (a+b)>a)==decide (b>0))=false:=by
   rw [beq_eq_false_iff_ne]
   intro h
   rw [decide_eq_decide] at h
   omega
  have e2:(b==0)=false:=by simp;omega
  rw [e,Qb,e2]
  simp [hr]
theorem zM (a b:Int) (ha:I64 a) (hb:I64 b):dI.F (a,b,())=some (wr (a-b),decide (-9223372036854775808≤a-b∧a-b≤9223372036854775807),()):=by
 rw [dI.eq];unfold dI.B
 dsimp only
 obtain ⟨a1,a2⟩:=ha
 obtain ⟨b1,b2⟩:=hb
 by_cases hr:-9223372036854775808≤a-b∧a-b≤9223372036854775807
 ·rw [bB hr.1 hr.2]
  have e:(decide (a-b<a)==decide (b>0))=true:=by
   rw [beq_iff_eq,decide_eq_decide]
   omega
  rw [e,Qc]
  simp [hr]
 ·have hw:=eo (a-b)
  have e:(decide (wr (a-b)<a)==decide (b>0))=false:=by
   rw [beq_eq_false_iff_ne]
   intro h
   rw [decide_eq_decide] at h
   omega
  have e2:(b==0)=false:=by simp;omega
  rw [e,Qb,e2]
  simp [hr]
theorem Bs (x y:Nat) (hx:x<18446744073709551616) (hy:y<18446744073709551616):bX.F ((x:Int),(y:Int),())=some (((x*y/18446744073709551616:Nat):Int),((x*y%18446744073709551616:Nat):Int),()):=by
 rw [bX.eq];unfold bX.B
 obtain ⟨bd,bt,bw,hhi⟩:=Lib.mul64_hi x y hx hy
 have ba:=Lib.half_mul_le (a:=x/4294967296) (b:=y/4294967296) (by omega) (by omega)
 have bb:=Lib.half_mul_le (a:=x/4294967296) (b:=y%4294967296) (by omega) (by omega)
 have bc:=Lib.half_mul_le (a:=x%4294967296) (b:=y/4294967296) (by omega) (by omega)
 have mk:∀a:Nat,a<18446744073709551616→IntKind.u64.wrap (((BitVec.ofInt IntKind.u64.bits (a:Int)&&&BitVec.ofInt IntKind.u64.bits (4294967295:Int)).toNat:Nat))=((a%4294967296:Nat):Int):=fun a ha=>Mul64.maskN a ha
 have dv:∀a:Nat,Int.fdiv (a:Int) (2^min (Int.toNat (32:Int)) IntKind.u64.bits)=((a/4294967296:Nat):Int):=fun a=>by
  rw [show (2:Int)^min (Int.toNat (32:Int)) IntKind.u64.bits=4294967296 from by decide,Int.fdiv_eq_ediv_of_nonneg _ (by decide)]
  rfl
 have sh:(!decide ((32:Int)<0))=true:=by decide
 have ba':x/4294967296*(y/4294967296)<18446744073709551616:=by omega
 have bb':x/4294967296*(y%4294967296)<18446744073709551616:=by omega
 have bc':x%4294967296*(y/4294967296)<18446744073709551616:=by omega
 have hxy:x*y/18446744073709551616<18446744073709551616:=by
  rw [Nat.div_lt_iff_lt_mul (by decide)]
  exact Nat.mul_lt_mul'' hx hy
 dsimp only
 have bh1:x/4294967296*(y/4294967296)+(x/4294967296*(y%4294967296)+x%4294967296*(y%4294967296)/4294967296)/4294967296<18446744073709551616:=by omega
 have bh:x/4294967296*(y/4294967296)+(x/4294967296*(y%4294967296)+x%4294967296*(y%4294967296)/4294967296)/4294967296+((x/4294967296*(y%4294967296)+x%4294967296*(y%4294967296)/4294967296)%4294967296+x%4294967296*(y/4294967296))/4294967296<18446744073709551616:=by omega
 simp only [sh,ckT,mk x hx,mk y hy,dv,Mul64.mulN,Mul64.addN,Mul64.wrapN _ bd,Mul64.wrapN _ bb',Mul64.wrapN _ bt,mk _ bt,Mul64.wrapN _ bc',Mul64.wrapN _ bw,Mul64.wrapN _ ba',Mul64.wrapN _ bh1,Mul64.wrapN _ bh,Mul64.wrapM (x*y)]
 rw [hhi]
theorem tL (a:Int) (ha:I64 a):dj.F (a,())=some ((a.natAbs:Int),()):=by
 rw [dj.eq];unfold dj.B
 obtain ⟨a1,a2⟩:=ha
 dsimp only
 by_cases h:a<0
 ·simp only [h,decide_true,Qc,ou]
  congr 2
  omega
 ·simp only [h,decide_false,Qb,ou]
  congr 2
  omega
theorem zN (a b : Int) (ha : I64 a) (hb : I64 b) : dJ.F (a,b,()) = some (wr (a * b),decide (-9223372036854775808 ≤ a * b ∧ a * b ≤ 9223372036854775807),()) := by
  rw [dJ.eq];unfold dJ.B
  dsimp only
  have na:a.natAbs<18446744073709551616:=by have:=ha.1;have:=ha.2;omega
  have nb:b.natAbs<18446744073709551616:=by have:=hb.1;have:=hb.2;omega
  simp only [tL a ha,tL b hb,Bs _ _ na nb,Qa]
  have e:a.natAbs*b.natAbs=(a*b).natAbs:=(Int.natAbs_mul a b).symm
  rw [e]
  have sg:(a*b<0↔(a<0∧0<b)∨(0<a∧b<0)):=by
    constructor
    · intro h
      rcases Int.lt_trichotomy a 0 with h1|h1|h1<;>rcases Int.lt_trichotomy b 0 with h2|h2|h2
      · have:=Int.mul_pos_of_neg_of_neg h1 h2;omega
      · rw [h2,Int.mul_zero] at h;omega
      · exact .inl ⟨h1,h2⟩
      · rw [h1,Int.zero_mul] at h;omega
      · rw [h1,Int.zero_mul] at h;omega
      · rw [h1,Int.zero_mul] at h;omega
      · exact .inr ⟨h1,h2⟩
      · rw [h2,Int.mul_zero] at h;omega
      · have:=Int.mul_pos h1 h2;omega
    · rintro (⟨h1,h2⟩|⟨h1,h2⟩)
      · exact Int.mul_neg_of_neg_of_pos h1 h2
      · exact Int.mul_neg_of_pos_of_neg h1 h2
  have nz:a*b≠0→a≠0∧b≠0:=fun h=>⟨fun e=>h (by rw [e,Int.zero_mul]),fun e=>h (by rw [e,Int.mul_zero])⟩
  generalize a*b=p at*
  by_cases h1:((p.natAbs/18446744073709551616:Nat):Int)=0
  · have e1:(((p.natAbs/18446744073709551616:Nat):Int)==0)=true:=by simpa using h1
    rw [e1,Qc]
    by_cases h2:((p.natAbs%18446744073709551616:Nat):Int)<9223372036854775808
    · have hr:-9223372036854775808≤p∧p≤9223372036854775807:=by omega
      simp only [h2,hr,decide_true,Qc,and_self]
    · simp only [h2,decide_false,Qb]
      by_cases h3:((p.natAbs%18446744073709551616:Nat):Int)=9223372036854775808
      · have e3:(((p.natAbs%18446744073709551616:Nat):Int)==9223372036854775808)=true:=by simpa using h3
        rw [e3,Qc]
        have:=nz (by omega)
        congr 2
        congr 1
        rw [Bool.eq_iff_iff]
        simp only [Bool.not_eq_true',beq_eq_false_iff_ne,ne_eq,decide_eq_decide,decide_eq_true_eq]
        omega
      · have e3:(((p.natAbs%18446744073709551616:Nat):Int)==9223372036854775808)=false:=by simpa using h3
        have hr:¬(-9223372036854775808≤p∧p≤9223372036854775807):=by omega
        simp only [e3,hr,decide_false,Qb]
  · have e1:(((p.natAbs/18446744073709551616:Nat):Int)==0)=false:=by simpa using h1
    have hr:¬(-9223372036854775808≤p∧p≤9223372036854775807):=by omega
    simp only [e1,hr,decide_false,Qb]
abbrev mO (n:Int):Bool:=decide (-9223372036854775808≤n∧n≤9223372036854775807)
theorem frame (a b : Int) (s : ByteArray) (c d : Int) (t : ByteArray) (n : Int) (k : Option (Int × Int × ByteArray × Bool × Unit)) (g : Option (Int × Bool × Unit)) (hg : g = some (wr n,mO n,()))
    (hk:a=2→c=2→k=bif mO n then some (2,wr n,⟨#[]⟩,true,()) else some (0,0,⟨#[]⟩,false,())):
    (jn (S:=Unit) (
  jn (S:=Bool×Unit) (
  (bif (a==(0:Int)) then
  il (true,())
  else
  il ((c==(0:Int)),()))) fun (x10_1,_)=>
  (bif x10_1 then
  ir ((0:Int),(0:Int),(⟨#[]⟩:ByteArray),true,())
  else
  (bif (a !=(2:Int)) then
  ir ((0:Int),(0:Int),(⟨#[]⟩:ByteArray),false,())
  else
  (bif (c !=(2:Int)) then
  ir ((0:Int),(0:Int),(⟨#[]⟩:ByteArray),false,())
  else
  il (()))))) fun (_)=>
  jn (S:=Int×Bool×Unit) (
  g.bind fun y3=>
  il (y3.1,y3.2.1,())) fun (x8_4,x9_4,_)=>
  (bif (!x9_4) then
  some ((0:Int),(0:Int),(⟨#[]⟩:ByteArray),false,())
  else
  some ((2:Int),x8_4,(⟨#[]⟩:ByteArray),true,())))=
    bif (a==0||c==0) then some (0,0,⟨#[]⟩,true,()) else bif !(a==2&&c==2) then some (0,0,⟨#[]⟩,false,()) else k:=by
  subst hg
  by_cases a0:a=0
  · subst a0;rfl
  · have e0:(a==0)=false:=by simpa using a0
    by_cases c0:c=0
    · subst c0
      rw [e0];rfl
    · have f0:(c==0)=false:=by simpa using c0
      by_cases a2:a=2
      · by_cases c2:c=2
        · rw [hk a2 c2]
          subst a2 c2
          cases h:mO n<;>simp [jn,il,h]
        · have f2:(c==2)=false:=by simpa using c2
          have f3:(c !=2)=true:=by simpa using c2
          subst a2
          rw [f0,f2,f3];rfl
      · have e2:(a==2)=false:=by simpa using a2
        have e3:(a !=2)=true:=by simpa using a2
        rw [e0,f0,e2,e3];rfl
theorem zO (a b:Int) (s:ByteArray) (c d:Int) (t:ByteArray) (hb:I64 b) (hd:I64 d):ef.F (a,b,s,c,d,t,())=fC.F (a,b,s,c,d,t,()):=by
 rw [ef.eq,fC.eq];unfold ef.B fC.B
 dsimp only
 simp only [nh,uB,uC,qZ,sW,Qa]
 refine (frame a b s c d t (b+d) _ _ (zL b d hb hd) (fun a2 c2=>rfl)).trans ?_
 obtain ⟨b1,b2⟩:=hb
 obtain ⟨d1,d2⟩:=hd
 cases (a==0||c==0) with
 |true=>rfl
 |false=>
 cases (a==2&&c==2) with
 |false=>rfl
 |true=>
 simp only [Bool.not_true,Qb]
 have w1:=eo (9223372036854775807-d)
 have w2:=eo (-9223372036854775808-d)
 rcases Int.lt_trichotomy d 0 with h|h|h
 ·have g1:¬d>0:=by omega
  have w2:wr (-9223372036854775808-d)=-9223372036854775808-d:=bB (by omega) (by omega)
  simp only [g1,h,w2,decide_true,decide_false,Qc,Qb,jn,il,Qa]
  by_cases hf:-9223372036854775808≤b+d∧b+d≤9223372036854775807
  ·have:¬b< -9223372036854775808-d:=by omega
   simp [mO,hf,this]
  ·have:b< -9223372036854775808-d:=by omega
   simp only [mO,hf,this,decide_true,decide_false,Qc,Qb]
 ·subst h
  have hf:-9223372036854775808≤b+0∧b+0≤9223372036854775807:=by omega
  simp only [mO,hf,decide_true,and_self,Qc]
  rfl
 ·have g1:¬d<0:=by omega
  have w1:wr (9223372036854775807-d)=9223372036854775807-d:=bB (by omega) (by omega)
  simp only [g1,h,w1,decide_true,decide_false,Qc,Qb,jn,il,Qa,gt_iff_lt]
  by_cases hf:-9223372036854775808≤b+d∧b+d≤9223372036854775807
  ·have:¬9223372036854775807-d<b:=by omega
   simp [mO,hf,this]
  ·have:9223372036854775807-d<b:=by omega
   simp only [mO,hf,this,decide_true,decide_false,Qc,Qb,Qa]
theorem zP (a b:Int) (s:ByteArray) (c d:Int) (t:ByteArray) (hb:I64 b) (hd:I64 d):eg.F (a,b,s,c,d,t,())=fD.F (a,b,s,c,d,t,()):=by
 rw [eg.eq,fD.eq];unfold eg.B fD.B
 dsimp only
 simp only [nh,uB,uC,qZ,sW,Qa]
 refine (frame a b s c d t (b-d) _ _ (zM b d hb hd) (fun a2 c2=>rfl)).trans ?_
 obtain ⟨b1,b2⟩:=hb
 obtain ⟨d1,d2⟩:=hd
 cases (a==0||c==0) with
 |true=>rfl
 |false=>
 cases (a==2&&c==2) with
 |false=>rfl
 |true=>
 simp only [Bool.not_true,Qb]
 rcases Int.lt_trichotomy d 0 with h|h|h
 ·have g1:¬d>0:=by omega
  have w1:wr (9223372036854775807+d)=9223372036854775807+d:=bB (by omega) (by omega)
  simp only [g1,h,w1,decide_true,decide_false,Qc,Qb,jn,il,Qa,gt_iff_lt]
  by_cases hf:-9223372036854775808≤b-d∧b-d≤9223372036854775807
  ·have:¬9223372036854775807+d<b:=by omega
   have g2:¬0<d:=by omega
   simp [mO,hf,this,g2]
  ·have:9223372036854775807+d<b:=by omega
   simp only [mO,hf,this,decide_true,decide_false,Qc,Qb,Qa]
 ·subst h
  have hf:-9223372036854775808≤b-0∧b-0≤9223372036854775807:=by omega
  simp only [mO,hf,decide_true,and_self,Qc]
  rfl
 ·have g1:¬d<0:=by omega
  have w2:wr (-9223372036854775808+d)=-9223372036854775808+d:=bB (by omega) (by omega)
  simp only [g1,h,w2,decide_true,decide_false,Qc,Qb,jn,il,Qa,gt_iff_lt]
  by_cases hf:-9223372036854775808≤b-d∧b-d≤9223372036854775807
  ·have:¬b< -9223372036854775808+d:=by omega
   simp [mO,hf,this]
  ·have:b< -9223372036854775808+d:=by omega
   simp only [mO,hf,this,decide_true,decide_false,Qc,Qb]
theorem zQ (a b : Int) (s : ByteArray) (c d : Int) (t : ByteArray) (hb : I64 b) (hd : I64 d) : eh.F (a,b,s,c,d,t,()) = fB.F (a,b,s,c,d,t,()) := by
  rw [eh.eq,fB.eq];unfold eh.B fB.B
  dsimp only
  simp only [nh,uB,uC,qZ,sW,Qa]
  refine (frame a b s c d t (b*d) _ _ (zN b d hb hd) (fun a2 c2=>rfl)).trans ?_
  obtain ⟨b1,b2⟩:=hb
  obtain ⟨d1,d2⟩:=hd
  cases (a==0||c==0) with
  |true=>rfl
  |false=>
  cases (a==2&&c==2) with
  |false=>rfl
  |true=>
  simp only [Bool.not_true,Qb]
  by_cases b0:b=0
  · subst b0
    rw [Int.zero_mul]
    rfl
  have e0:(b==0)=false:=by simpa using b0
  by_cases d0:d=0
  · subst d0
    rw [Int.mul_zero,e0]
    rfl
  have f0:(d==0)=false:=by simpa using d0
  have f1:(!decide (d=0))=true:=by simpa using d0
  simp only [e0,f0,f1,ckT,Qb]
  have t1:(bif (b==(-1:Int)) then (bif (d==(-9223372036854775808:Int)) then il (R:=Int×Int×ByteArray×Bool×Unit) (true,()) else (bif (d==(-1:Int)) then il ((b==(-9223372036854775808:Int)),()) else il (false,()))) else
      (bif (d==(-1:Int)) then il ((b==(-9223372036854775808:Int)),()) else il (false,())))=il (decide ((b=-1∧d=-9223372036854775808)∨(d=-1∧b=-9223372036854775808)),()):=by
    by_cases p:b=-1
    · have p1:(b==-1)=true:=by simpa using p
      rw [p1]
      by_cases q:d=-9223372036854775808
      · have q1:(d==-9223372036854775808)=true:=by simpa using q
        rw [q1]
        simp [p,q]
      · have q1:(d==-9223372036854775808)=false:=by simpa using q
        rw [q1]
        have:(b==-9223372036854775808)=false:=by rw [p];rfl
        rw [this]
        have h:¬((b=-1∧d=-9223372036854775808)∨(d=-1∧b=-9223372036854775808)):=by omega
        simp only [h,decide_false]
        cases (d==-1)<;>rfl
    · have p1:(b==-1)=false:=by simpa using p
      rw [p1]
      by_cases q:d=-1
      · have q1:(d==-1)=true:=by simpa using q
        rw [q1]
        simp [p,q,Bool.beq_eq_decide_eq]
      · have q1:(d==-1)=false:=by simpa using q
        rw [q1]
        simp [p,q]
  have J:∀{S R:Type} (s:S) (k:S→Option R),jn (il s) k=k s:=fun _ _=>rfl
  simp only [J,t1]
  by_cases hf:-9223372036854775808≤b*d∧b*d≤9223372036854775807
  · have hw:wr (b*d)=b*d:=bB hf.1 hf.2
    have nx:¬((b=-1∧d=-9223372036854775808)∨(d=-1∧b=-9223372036854775808)):=by
      rintro (⟨rfl,rfl⟩|⟨rfl,rfl⟩)<;>omega
    have td:Int.tdiv (b*d) d=b:=Int.mul_tdiv_cancel b d0
    have tm:Int.tmod (b*d) d=0:=Int.mul_tmod_left b d
    have hb:wr b=b:=bB b1 b2
    simp [mO,hf,nx,hw,td,tm,hb]
  · simp only [mO,hf,decide_false,Qb]
    by_cases nx:(b=-1∧d=-9223372036854775808)∨(d=-1∧b=-9223372036854775808)
    · simp only [nx,decide_true,Qc]
    · simp only [nx,decide_false,Qb]
      by_cases h1:wr (Int.tdiv (wr (b*d)) d)=b
      · have e1:(wr (Int.tdiv (wr (b*d)) d) !=b)=false:=by simp [h1]
        rw [e1,Qb]
        by_cases h2:Int.tmod (wr (b*d)) d=0
        · exfalso
          have hr:=eo (b*d)
          generalize wr (b*d)=n at*
          have hn:-9223372036854775808≤n∧n≤9223372036854775807:=by omega
          have hdm:=Int.tdiv_mul_add_tmod n d
          rw [h2,Int.add_zero] at hdm
          have hle:(Int.tdiv n d).natAbs≤n.natAbs:=by
            rw [Int.natAbs_tdiv]
            exact Nat.div_le_self _ _
          by_cases h3:Int.tdiv n d=9223372036854775808
          · have hb':b=-9223372036854775808:=by rw [h3,eo] at h1;omega
            have hd':d=-1:=by
              have:n.natAbs=9223372036854775808:=by omega
              have hn2:n=-9223372036854775808:=by omega
              rw [h3,hn2] at hdm
              omega
            exact nx (.inr ⟨hd',hb'⟩)
          · rw [bB (by omega) (by omega)] at h1
            rw [h1] at hdm
            rw [hdm] at hf
            exact hf hn
        · have e2:(Int.tmod (wr (b*d)) d !=0)=true:=by simpa using h2
          rw [e2]
          rfl
      · have e1:(wr (Int.tdiv (wr (b*d)) d) !=b)=true:=by simpa using h1
        rw [e1]
        rfl
abbrev tB (b:Bool):ap:=((1:Int),((bif b then (1:Int) else 0),(⟨#[]⟩:ByteArray)))
theorem ma (b:Bool):cj.F (b,())=some (1,(bif b then 1 else 0),⟨#[]⟩,()):=by
 rw [cj.eq];unfold cj.B
 cases b<;>rfl
theorem eqVc (x y:ap):Ty.eq ar x y=Ty.eq ar y x:=by
 rw [Bool.eq_iff_iff,eqV,eqV]
 exact eq_comm
noncomputable def fo (b:Bool) (p q:ap):Int×Int×ByteArray×Unit:=
 bif Ty.eq ar p (tB b)||Ty.eq ar q (tB b) then (1,(bif b then 1 else 0),⟨#[]⟩,()) else
 bif Ty.eq ar p (tB (!b))&&Ty.eq ar q (tB (!b)) then (1,(bif !b then 1 else 0),⟨#[]⟩,()) else (0,0,⟨#[]⟩,())
theorem zR (p q : ap) : gQ.F ([p,q],()) = some (fo false p q) := by
  refine Tot.eq ?_
  rw [gQ.eq];unfold gQ.B
  simp only [jU,Qa,Qb,Qc]
  have g0:gt [p,q] (0:Int) ar.z=p:=rfl
  have g1:gt [p,q] (1:Int) ar.z=q:=rfl
  have w0:wr ((0:Int)+1)=1:=by decide
  have w1:wr ((1:Int)+1)=2:=by decide
  refine aY (fun x=>Ty.eq ar p (tB false)=false∧Ty.eq ar q (tB false)=false∧x.1=(Ty.eq ar p (tB true)&&Ty.eq ar q (tB true))) ?_ fun x hx=>?_
  · refine dk (fun x=>2-x.2.1.toNat) (fun x=>(x.2.1=0∧x.1=true)∨(x.2.1=1∧Ty.eq ar p (tB false)=false∧x.1=Ty.eq ar p (tB true))∨(x.2.1=2∧Ty.eq ar p (tB false)=false∧Ty.eq ar q (tB false)=false∧x.1=(Ty.eq ar p (tB true)&&Ty.eq ar q (tB true)))) (.inl ⟨rfl,rfl⟩) ?_
    rintro ⟨x,i,_⟩ h
    dsimp only at h ⊢
    rcases h with ⟨rfl,rfl⟩|⟨rfl,e1,rfl⟩|⟨rfl,e1,e2,rfl⟩
    · refine ac.2 ⟨fun _=>ah.2 ⟨by simp,?_⟩,fun h=>by simp at h⟩
      simp only [g0,w0,Qc]
      refine ac.2 ⟨fun e=>aH.2 ?_,fun e=>ah.2 ⟨by simp,av.2 ⟨.inr (.inl ⟨rfl,e,rfl⟩),by dsimp only;decide⟩⟩⟩
      unfold fo
      rw [show Ty.eq ar p (tB false)=true from e]
      rfl
    · refine ac.2 ⟨fun _=>ah.2 ⟨by simp,?_⟩,fun h=>by simp at h⟩
      simp only [g1,w1]
      refine ac.2 ⟨fun e=>aH.2 ?_,fun e=>ac.2 ⟨fun ex=>ah.2 ⟨by simp,av.2 ⟨.inr (.inr ⟨rfl,e1,e,?_⟩),by dsimp only;decide⟩⟩,fun ex=>av.2 ⟨.inr (.inr ⟨rfl,e1,e,?_⟩),by dsimp only;decide⟩⟩⟩
      · unfold fo
        rw [show Ty.eq ar q (tB false)=true from e,Bool.or_true]
        rfl
      · rw [ex];rfl
      · rw [ex];rfl
    · exact ac.2 ⟨fun h=>by simp at h,fun _=>aH.2 ⟨e1,e2,rfl⟩⟩
  · obtain ⟨h1,h2,h3⟩:=hx
    rw [h3]
    unfold fo
    rw [h1,h2]
    refine ac.2 ⟨fun e=>ai.2 ?_,fun e=>ai.2 ?_⟩
    · rw [show (Ty.eq ar p (tB (!false))&&Ty.eq ar q (tB (!false)))=true from e];rfl
    · rw [show (Ty.eq ar p (tB (!false))&&Ty.eq ar q (tB (!false)))=false from e];rfl
theorem B2 (p q : ap) : io.F ([p,q],()) = some (fo true p q) := by
  refine Tot.eq ?_
  rw [io.eq];unfold io.B
  simp only [jU,Qa,Qb,Qc]
  have g0:gt [p,q] (0:Int) ar.z=p:=rfl
  have g1:gt [p,q] (1:Int) ar.z=q:=rfl
  have w0:wr ((0:Int)+1)=1:=by decide
  have w1:wr ((1:Int)+1)=2:=by decide
  refine aY (fun x=>Ty.eq ar p (tB true)=false∧Ty.eq ar q (tB true)=false∧x.1=(Ty.eq ar p (tB false)&&Ty.eq ar q (tB false))) ?_ fun x hx=>?_
  · refine dk (fun x=>2-x.2.1.toNat) (fun x=>(x.2.1=0∧x.1=true)∨(x.2.1=1∧Ty.eq ar p (tB true)=false∧x.1=Ty.eq ar p (tB false))∨(x.2.1=2∧Ty.eq ar p (tB true)=false∧Ty.eq ar q (tB true)=false∧x.1=(Ty.eq ar p (tB false)&&Ty.eq ar q (tB false)))) (.inl ⟨rfl,rfl⟩) ?_
    rintro ⟨x,i,_⟩ h
    dsimp only at h ⊢
    rcases h with ⟨rfl,rfl⟩|⟨rfl,e1,rfl⟩|⟨rfl,e1,e2,rfl⟩
    · refine ac.2 ⟨fun _=>ah.2 ⟨by simp,?_⟩,fun h=>by simp at h⟩
      simp only [g0,w0,Qc]
      refine ac.2 ⟨fun e=>aH.2 ?_,fun e=>ah.2 ⟨by simp,av.2 ⟨.inr (.inl ⟨rfl,e,rfl⟩),by dsimp only;decide⟩⟩⟩
      unfold fo
      rw [show Ty.eq ar p (tB true)=true from e]
      rfl
    · refine ac.2 ⟨fun _=>ah.2 ⟨by simp,?_⟩,fun h=>by simp at h⟩
      simp only [g1,w1]
      refine ac.2 ⟨fun e=>aH.2 ?_,fun e=>ac.2 ⟨fun ex=>ah.2 ⟨by simp,av.2 ⟨.inr (.inr ⟨rfl,e1,e,?_⟩),by dsimp only;decide⟩⟩,fun ex=>av.2 ⟨.inr (.inr ⟨rfl,e1,e,?_⟩),by dsimp only;decide⟩⟩⟩
      · unfold fo
        rw [show Ty.eq ar q (tB true)=true from e,Bool.or_true]
        rfl
      · rw [ex];rfl
      · rw [ex];rfl
    · exact ac.2 ⟨fun h=>by simp at h,fun _=>aH.2 ⟨e1,e2,rfl⟩⟩
  · obtain ⟨h1,h2,h3⟩:=hx
    rw [h3]
    unfold fo
    rw [h1,h2]
    refine ac.2 ⟨fun e=>ai.2 ?_,fun e=>ai.2 ?_⟩
    · rw [show (Ty.eq ar p (tB (!true))&&Ty.eq ar q (tB (!true)))=true from e];rfl
    · rw [show (Ty.eq ar p (tB (!true))&&Ty.eq ar q (tB (!true)))=false from e];rfl
theorem zS (b:Bool) (p q:ap):dF.F (b,[p,q],())=some (fo b p q):=by
 have g0:gt [p,q] (0:Int) ar.z=p:=rfl
 have g1:gt [p,q] (1:Int) ar.z=q:=rfl
 have w0:wr ((0:Int)+1)=1:=by decide
 have w1:wr ((1:Int)+1)=2:=by decide
 have hc:∀u:ap,ao.F ([p,q],u.1,u.2.1,u.2.2,())=some (Ty.eq ar p u||Ty.eq ar q u,()):=fun u=>by
  refine Tot.is ?_
  rw [ao.eq];unfold ao.B
  rw [ax.eq];unfold ax.B
  refine af.2 (Tot.mono (P:=fun y=>decide (y.1≥0)=(Ty.eq ar p u||Ty.eq ar q u)) ?_ fun y hy=>ai.2 hy)
  refine dk (fun x=>2-x.1.toNat) (fun x=>x.1=0∨(x.1=1∧Ty.eq ar p u=false)∨(x.1=2∧Ty.eq ar p u=false∧Ty.eq ar q u=false)) (.inl rfl) ?_
  rintro ⟨i,_⟩ h
  dsimp only at h ⊢
  rcases h with rfl|⟨rfl,e1⟩|⟨rfl,e1,e2⟩
  ·refine ac.2 ⟨fun _=>ah.2 ⟨by simp,?_⟩,fun h=>by simp at h⟩
   simp only [g0,w0]
   rw [eqVc]
   refine ac.2 ⟨fun e=>aH.2 ?_,fun e=>av.2 ⟨.inr (.inl ⟨rfl,e⟩),by dsimp only;decide⟩⟩
   rw [show Ty.eq ar p u=true from e];rfl
  ·refine ac.2 ⟨fun _=>ah.2 ⟨by simp,?_⟩,fun h=>by simp at h⟩
   simp only [g1,w1]
   rw [eqVc]
   refine ac.2 ⟨fun e=>aH.2 ?_,fun e=>av.2 ⟨.inr (.inr ⟨rfl,e1,e⟩),by dsimp only;decide⟩⟩
   rw [show Ty.eq ar q u=true from e,Bool.or_true];rfl
  ·refine ac.2 ⟨fun h=>by simp at h,fun _=>aH.2 ?_⟩
   rw [e1,e2];rfl
 refine Tot.eq ?_
 rw [dF.eq];unfold dF.B
 have hcb:=hc (tB b)
 dsimp only at hcb
 simp only [ma,Qa,hcb]
 refine ac.2 ⟨fun e=>ai.2 ?_,fun e=>?_⟩
 ·unfold fo
  rw [e];rfl
 ·refine dk (fun x=>2-x.1.toNat) (fun x=>x.1=0∨(x.1=1∧Ty.eq ar p (tB (!b))=true)∨(x.1=2∧Ty.eq ar p (tB (!b))=true∧Ty.eq ar q (tB (!b))=true)) (.inl rfl) ?_
  rintro ⟨i,_⟩ h
  dsimp only at h ⊢
  rcases h with rfl|⟨rfl,e1⟩|⟨rfl,e1,e2⟩
  ·refine ac.2 ⟨fun _=>?_,fun h=>by simp at h⟩
   simp only [g0,w0]
   refine aY (fun x=>x.1= !Ty.eq ar p (tB (!b))) (ah.2 ⟨by simp,av.2 rfl⟩) fun x hx=>?_
   rw [hx]
   refine ac.2 ⟨fun e2=>iC.2 (ai.2 ?_),fun e2=>av.2 ⟨.inr (.inl ⟨rfl,by simpa using e2⟩),by dsimp only;decide⟩⟩
   unfold fo
   rw [e,show Ty.eq ar p (tB (!b))=false by simpa using e2];rfl
  ·refine ac.2 ⟨fun _=>?_,fun h=>by simp at h⟩
   simp only [g1,w1]
   refine aY (fun x=>x.1= !Ty.eq ar q (tB (!b))) (ah.2 ⟨by simp,av.2 rfl⟩) fun x hx=>?_
   rw [hx]
   refine ac.2 ⟨fun e2=>iC.2 (ai.2 ?_),fun e2=>av.2 ⟨.inr (.inr ⟨rfl,e1,by simpa using e2⟩),by dsimp only;decide⟩⟩
   unfold fo
   rw [e,show Ty.eq ar q (tB (!b))=false by simpa using e2,Bool.and_false];rfl
  ·refine ac.2 ⟨fun h=>by simp at h,fun _=>iC.2 (ai.2 ?_)⟩
   unfold fo
   rw [e,e1,e2];rfl
theorem do_x (o a b:Int) (s:ByteArray) (c d:Int) (t:ByteArray) (ho:2≤o∧o≤10) (hb:I64 b) (hd:I64 d):gy.F (o,a,b,s,c,d,t,())=gK.F (o,a,b,s,c,d,t,()):=by
 rw [gy.eq,gK.eq];unfold gy.B gK.B
 dsimp only
 have hand:∀p q,eY.F ([p,q],())=some (fo false p q):=fun p q=>by
  rw [eY.eq];unfold eY.B
  dsimp only
  rw [zS];rfl
 have hor:∀p q,fU.F ([p,q],())=some (fo true p q):=fun p q=>by
  rw [fU.eq];unfold fU.B
  dsimp only
  rw [zS];rfl
 have hnot:eZ.F (c,d,t,())=gE.F (c,d,t,()):=by
  rw [eZ.eq,gE.eq];unfold eZ.B gE.B
  dsimp only
  simp only [ma,jU,Qa]
 have hcv:dd.F (a,b,s,c,d,t,())=some (cV (a,(b,s)) (c,(d,t)),()):=cV_t (a,(b,s)) (c,(d,t))
 have hrc:da.F (a,b,s,c,d,t,())=some (cV (a,(b,s)) (c,(d,t)),()):=zI (a,(b,s)) (c,(d,t))
 simp only [zO a b s c d t hb hd,zP a b s c d t hb hd,zQ a b s c d t hb hd,hand,hor,zR,B2,hnot,ma,jU,Qa,nh,hrc]
 have:o=2∨o=3∨o=4∨o=7∨o=8∨o=9∨o=10∨o=5∨o=6:=by omega
 have hcmp:∀o,dw.F (o,a,b,s,c,d,t,())=bif (a==0||c==0) then some (0,0,⟨#[]⟩,()) else bif o==5 then (bif cV (a,(b,s)) (c,(d,t))==0 then some (1,1,⟨#[]⟩,()) else bif o==6 then some (1,(bif decide (cV (a,(b,s)) (c,(d,t))<0) then 1 else 0),⟨#[]⟩,()) else some (1,0,⟨#[]⟩,())) else bif o==6 then some (1,(bif decide (cV (a,(b,s)) (c,(d,t))<0) then 1 else 0),⟨#[]⟩,()) else some (1,0,⟨#[]⟩,()):=fun o=>by
  rw [dw.eq];unfold dw.B
  dsimp only
  simp only [hcv,ma,Qa]
  cases (a==0) with
  |true=>rfl
  |false=>
   cases (c==0) with
   |true=>rfl
   |false=>rfl
 rcases this with rfl|rfl|rfl|rfl|rfl|rfl|rfl|rfl|rfl
 ·rfl
 ·rfl
 ·rfl
 ·rfl
 ·rfl
 ·rfl
 ·rfl
 ·rw [hcmp]
  cases (a==0||c==0) with
  |true=>rfl
  |false=>
   cases h:(cV (a,(b,s)) (c,(d,t))==0)<;>rfl
 ·rw [hcmp]
  cases (a==0||c==0) with
  |true=>rfl
  |false=>rfl
omit [Lk] in
theorem zT (n:Int):I64 (wr n):=by
 have:=eo n
 constructor<;>omega
theorem uV (o a b:Int) (s:ByteArray) (c d:Int) (t:ByteArray) (hb:I64 b) (hd:I64 d):Par (gK.F (o,a,b,s,c,d,t,())) fun y=>I64 y.2.1:=by
 have z0:I64 0:=by constructor<;>decide
 have hB:∀x:Bool,I64 (bif x then 1 else 0):=fun x=>by cases x<;>constructor<;>decide
 have hf:∀x p q,I64 (fo x p q).2.1:=fun x p q=>by
  unfold fo
  cases (Ty.eq ar p (tB x)||Ty.eq ar q (tB x)) with
  |true=>exact hB x
  |false=>
   cases (Ty.eq ar p (tB (!x))&&Ty.eq ar q (tB (!x))) with
   |true=>exact hB (!x)
   |false=>exact z0
 have hadd:fC.F (a,b,s,c,d,t,())=_:=(zO a b s c d t hb hd).symm.trans ((congrFun ef.eq _).trans (frame a b s c d t (b+d) _ _ (zL b d hb hd) (fun _ _=>rfl)))
 have hsub:fD.F (a,b,s,c,d,t,())=_:=(zP a b s c d t hb hd).symm.trans ((congrFun eg.eq _).trans (frame a b s c d t (b-d) _ _ (zM b d hb hd) (fun _ _=>rfl)))
 have hmul:fB.F (a,b,s,c,d,t,())=_:=(zQ a b s c d t hb hd).symm.trans ((congrFun eh.eq _).trans (frame a b s c d t (b*d) _ _ (zN b d hb hd) (fun _ _=>rfl)))
 rw [gK.eq];unfold gK.B
 dsimp only
 rw [hadd,hsub,hmul,gE.eq];unfold gE.B
 dsimp only
 simp only [zR,B2,jU,nh,Qa]
 repeat' first|exact aF (hf _ _ _)|exact aF (zT _)|exact aF (aF (zT _))|exact aF (aF z0)|exact aF (aF (hB _))|exact aF (hB _)|exact aF z0|refine aj (fun _=>?_) (fun _=>?_)|refine bo ?_|(refine aF ?_;exact aF (hB true))|(refine aF ?_;exact aF (hB false))|exact aF (hB true)|exact aF (hB false)|(rw [da.eq];unfold da.B)
theorem uW (o x y:Int) (h:2≤o∧o≤8):cL.F (o,x,y,())=cL.F (o,y,x,()):=by
 rw [cL.eq];unfold cL.B
 dsimp only
 have:o=2∨o=3∨o=4∨o=5∨o=6∨o=7∨o=8:=by omega
 rw [show (y==x)=(x==y) from Bool.eq_iff_iff.2 (by simp;exact eq_comm)]
 rcases this with rfl|rfl|rfl|rfl|rfl|rfl|rfl
 ·cases (x==2)<;>cases (x==0)<;>cases (y==2)<;>cases (y==0)<;>rfl
 ·cases (x==2)<;>cases (x==0)<;>cases (y==2)<;>cases (y==0)<;>rfl
 ·cases (x==2)<;>cases (x==0)<;>cases (y==2)<;>cases (y==0)<;>rfl
 ·cases (x==y)<;>cases (x==0)<;>cases (y==0)<;>rfl
 ·cases (x==y)<;>cases (x==0)<;>cases (y==0)<;>rfl
 ·cases (x==1)<;>cases (x==0)<;>cases (y==1)<;>cases (y==0)<;>rfl
 ·cases (x==1)<;>cases (x==0)<;>cases (y==1)<;>cases (y==0)<;>rfl
theorem uX (ok:Bool) (ks:List ap):aG.F (ok,ks,[],())=some (0,0,⟨#[]⟩,false,ks,[],()):=by
 rw [aG.eq];rfl
theorem rF (ok:Bool) (ks s:List ap) (x:ap) (h:s.length≤10000):aG.F (ok,ks,s++ [x],())=some (x.1,x.2.1,x.2.2,ok,ks,s,()):=by
 rw [aG.eq];unfold aG.B
 have hw:wr (((s++ [x]).length:Int)-1)=(s.length:Int):=by simp;exact bB (by omega) (by omega)
 have e0:(((s++ [x]).length:Int)==0)=false:=by simp;omega
 have e1:ib (s.length:Int) ((s++ [x]).length:Int)=true:=by simp;omega
 have e2:sb 0 (s.length:Int) ((s++ [x]).length:Int)=true:=by simp;omega
 dsimp only
 simp only [hw,e0,e1,e2,Qb,ckT,Int.toNat_natCast]
 simp
theorem oG (x:ap) (ok:Bool) (ks s:List ap) (h:s.length≤10000):aK.F (x.1,x.2.1,x.2.2,ok,ks,s,())=some (ok,ks,s++ [x],()):=by
 rw [aK.eq]
 have e:Nat.ble (s.length+ [x].length) 4398046511104=true:=by simp;omega
 show ck (Nat.ble (s.length+ [x].length) 4398046511104) (some (ok,ks,s++ [x],()))=_
 rw [e]
 rfl
theorem xm (o b c d:Int) (s:ByteArray) (ks st:List ap) (hst:st.length≤10000) (h:tkn o<0∨(st.length:Int)<tkn o):∃y,bz.F (o,b,c,d,s,true,ks,st,())=some (30,y):=by
 rw [bz.eq];unfold bz.B
 simp only [(kA o).2,Qa]
 rcases kQ o with e|e|e|e
 ·omega
 ·have:st=[]:=by cases st with
   |nil=>rfl
   |cons _ _=>simp at h;omega
  subst this
  simp only [e,uX,show decide ((1:Int)>0)=true from rfl,show decide ((1:Int)>1)=false from rfl,Qc,Qb,jn,il,Qa,Bool.not_false]
  exact ⟨_,rfl⟩
 ·have:st=[]∨∃x,st=[x]:=by
   rcases st with _|⟨x,_|⟨y,r⟩⟩
   ·exact .inl rfl
   ·exact .inr ⟨x,rfl⟩
   ·simp at h;omega
  rcases this with rfl|⟨x,rfl⟩
  ·simp only [e,uX,show decide ((2:Int)>0)=true from rfl,show decide ((2:Int)>1)=true from rfl,Qc,Qb,jn,il,Qa,Bool.not_false]
   exact ⟨_,rfl⟩
  ·have p1:aG.F (true,ks,[x],())=_:=rF true ks [] x (by simp)
   simp only [e,p1,uX,show decide ((2:Int)>0)=true from rfl,show decide ((2:Int)>1)=true from rfl,Qc,Qb,jn,il,Qa,Bool.not_false]
   exact ⟨_,rfl⟩
 ·simp only [e,show decide ((-1:Int)>0)=false from rfl,show decide ((-1:Int)>1)=false from rfl,show decide ((-1:Int)<0)=true from rfl,Qc,Qb,jn,il,Qa,Bool.not_true]
  exact ⟨_,rfl⟩
theorem De (e : List ak) (l : List ap) (he : ∀ n ∈ e,I64 n.2.2.2.1) (hl : ∀ v ∈ l,I64 v.2.1) : Par (fN.F (e,l,())) fun y => Par (eM.F (e,l,())) fun z => y = z := by
  rw [fN.eq,eM.eq];unfold fN.B eM.B
  dsimp only
  cases hn:decide ((e.length:Int)>(100:Int)) with
  |true=>exact aF (aF rfl)
  |false=>
  have hn:e.length≤100:=by simp at hn;omega
  simp only [Qb]
  refine jK (fun s t=>t=(true,l,s.1,())) ?_ ?_
  · refine iZ (fun s t=>∃i:Nat,s.1=(i:Int)∧i≤e.length∧s.2.1.length≤i∧(∀v∈s.2.1,I64 v.2.1)∧t=(s.1,true,l,s.2.1,())) ⟨0,rfl,by omega,by simp,by simp,rfl⟩ ?_
    rintro ⟨_,st,_⟩ _ ⟨i,rfl,h1,h2,h3,rfl⟩
    dsimp only at h2 h3 ⊢
    by_cases h5:i<e.length
    rotate_left 1
    · have d1:decide ((i:Int)<(e.length:Int))=false:=by simp;omega
      simp only [d1,Qb]
      exact aL (aL rfl)
    have d1:decide ((i:Int)<(e.length:Int))=true:=by simp;omega
    have i1:ib (i:Int) (e.length:Int)=true:=by simp;omega
    have hi64:=he _ (List.getElem_mem h5)
    simp only [d1,i1,ckT,Qc,cD h5,(kA _).1,Qa,wrn h5 (by omega:e.length≤1000000)]
    generalize e[i]=n at hi64 ⊢
    obtain ⟨o,b,c,d,s⟩:=n
    dsimp only at hi64 ⊢
    by_cases hbad:tkn o<0∨(st.length:Int)<tkn o
    · obtain ⟨y,hy⟩:=xm o b c d s l st (by omega) hbad
      simp only [hy,Qa,show ((30:Int) !=0)=true from rfl,Qc]
      by_cases h6:tkn o<0
      · simp only [h6,decide_true,Qc]
        exact aL (aL rfl)
      · have h7:(st.length:Int)<tkn o:=by omega
        simp only [h6,h7,decide_true,decide_false,Qc,Qb]
        exact aL (aL rfl)
    · have t0 := kQ o
      have h6:¬tkn o<0:=fun h=>hbad (.inl h)
      have h7:¬(st.length:Int)<tkn o:=fun h=>hbad (.inr h)
      have ho:∀k:Int,tkn o=k→k≠0→(o==0)=false∧(o==1)=false:=fun k h hk=>by
        constructor
        · rw [beq_eq_false_iff_ne];rintro rfl;exact hk h.symm
        · rw [beq_eq_false_iff_ne];rintro rfl;exact hk h.symm
      rw [bz.eq];unfold bz.B
      dsimp only
      simp only [(kA o).2,h6,h7,decide_false,Qb,Qa]
      rcases t0 with e0|e0|e0|e0
      · have ho:o=0∨o=1:=by
          unfold tkn at e0
          split at e0
          · assumption
          · split at e0
            · cases e0
            · split at e0<;>cases e0
        simp only [e0,show decide ((0:Int)>0)=false from rfl,show decide ((0:Int)>1)=false from rfl,show decide ((0:Int)<0)=false from rfl,jn,il,Qa,Qb,Bool.not_true]
        rcases ho with rfl|rfl
        · simp only [beq_self_eq_true,Qc]
          refine aj (fun g=>?_) fun g=>?_
          · rw [g]
            exact aL (aL rfl)
          · rw [g]
            simp only [Qb]
            refine aj (fun g2=>?_) fun g2=>?_
            · rw [g2]
              exact aL (aL rfl)
            · rw [g2]
              simp only [Qb]
              refine ay fun i2=>ay fun _=>?_
              have hmem:=d9 (z:=ar.z) (iq.1 i2).1 (iq.1 i2).2
              simp only [i2,ckT,oG _ _ _ st (by omega),Qa]
              exact aC (aC ⟨i+1,rfl,by omega,by simp;omega,fun v hv=>(List.mem_append.1 hv).elim (h3 v) fun h=>by rw [List.mem_singleton.1 h];exact hl _ hmem,rfl⟩)
        · simp only [show ((1:Int)==0)=false from rfl,beq_self_eq_true,Qc,Qb,uS]
          obtain ⟨⟨m,_⟩,hm,_⟩:=pw c d s
          have hp:=oG (c,(d,s)) true l st (by omega)
          dsimp only at hp
          simp only [hm,Qa,hp]
          cases m with
          |true=>exact ay fun _=>aC (aC ⟨i+1,rfl,by omega,by simp;omega,fun v hv=>(List.mem_append.1 hv).elim (h3 v) fun h=>by rw [List.mem_singleton.1 h];exact hi64,rfl⟩)
          |false=>exact aL (aL rfl)
      · obtain ⟨o0,o1⟩:=ho 1 e0 (by decide)
        have ho:o=9∨o=10:=by
          unfold tkn at e0
          split at e0
          · cases e0
          · split at e0
            · assumption
            · split at e0<;>cases e0
        obtain ⟨s',x,rfl⟩:∃s' x,st=s'++ [x]:=by
          rcases List.eq_nil_or_concat st with h|⟨s',x,h⟩
          · subst h;simp [e0] at h7
          · exact ⟨s',x,by rw [h];simp⟩
        have hs':s'.length≤9000:=by simp at h2;omega
        have w2:wr (((s'++ [x]).length:Int)-1)=(s'.length:Int):=by simp;exact bB (by omega) (by omega)
        have i2:ib (s'.length:Int) ((s'++ [x]).length:Int)=true:=by simp;omega
        have g2:List.getD (s'++ [x]) s'.length ar.z=x:=by simp
        have ts:List.take s'.length (s'++ [x])=s':=by simp
        have sb1:sb 0 (s'.length:Int) ((s'++ [x]).length:Int)=true:=by simp;omega
        have w3:wr ((2:Int)-1)=1:=by decide
        obtain ⟨⟨kv,kf,_⟩,hL,_⟩:=ki o 0 x.1
        have hL2:cE.F (o,[x.1],())=some (kv,kf,()):=(wd o x.1 0 ho).trans hL
        have hx:=h3 x (by simp)
        have hdo:=do_x o 0 0 ⟨#[]⟩ x.1 x.2.1 x.2.2 (by omega) (by constructor<;>decide) hx
        have hdi:=uV o 0 0 ⟨#[]⟩ x.1 x.2.1 x.2.2 (by constructor<;>decide) hx
        simp only [e0,o0,o1,rF _ _ s' x (by omega),show decide ((1:Int)>0)=true from rfl,show decide ((1:Int)>1)=false from rfl,show decide ((1:Int)<0)=false from rfl,jn,il,Qa,Qb,Qc,Bool.not_true,w2,w3,i2,ckT,Int.toNat_natCast,g2,hL,ts,sb1]
        have hL3:cE.F (o,List.take ([(0:Int),x.1].length-Int.toNat 1) (List.drop (Int.toNat 1) [(0:Int),x.1]),())=some (kv,kf,()):=hL2
        have sbL:sb (1:Int) (([(0:Int),x.1].length:Nat):Int) (([(0:Int),x.1].length:Nat):Int)=true:=rfl
        simp only [sbL,ckT,hL3,Qa]
        cases kf with
        |false=>exact aL (aL rfl)
        |true=>
        simp only [Bool.not_true,Qb,hdo]
        cases hd:gK.F (o,0,0,⟨#[]⟩,x.1,x.2.1,x.2.2,()) with
        |none=>exact iL
        |some y1=>
        have hy:=hdi _ hd
        simp only [Qa]
        cases y1.2.2.2.1 with
        |false=>exact aL (aL rfl)
        |true=>
        have hp:=oG (y1.1,(y1.2.1,y1.2.2.1)) true l s' (by omega)
        dsimp only at hp
        simp only [Bool.not_true,Qb,hp,Qa]
        exact ay fun _=>ay fun _=>aC (aC ⟨i+1,rfl,by omega,by simp at h2 ⊢;omega,fun v hv=>(List.mem_append.1 hv).elim (fun h=>h3 v (by simp at h ⊢;exact .inl h)) fun h=>by rw [List.mem_singleton.1 h];exact hy,rfl⟩)
      · obtain ⟨o0,o1⟩:=ho 2 e0 (by decide)
        have ho:2≤o∧o≤8:=by
          unfold tkn at e0
          split at e0
          · cases e0
          · split at e0
            · cases e0
            · split at e0
              · assumption
              · cases e0
        obtain ⟨s',y,x,rfl⟩:∃s' y x,st=s'++ [y,x]:=by
          rcases List.eq_nil_or_concat st with h|⟨s1,x,h⟩
          · subst h;simp [e0] at h7
          · rcases List.eq_nil_or_concat s1 with h'|⟨s2,y,h'⟩
            · subst h';subst h;simp [e0] at h7
            · exact ⟨s2,y,x,by rw [h,h'];simp⟩
        have hs':s'.length≤9000:=by simp at h2;omega
        have w2:wr (((s'++ [y,x]).length:Int)-2)=(s'.length:Int):=by rw [show ((s'++ [y,x]).length:Int)-2=(s'.length:Int) by simp];exact bB (by omega) (by omega)
        have w3:wr (((s'++ [y,x]).length:Int)-1)=((s'.length+1:Nat):Int):=by rw [bB (by simp;omega) (by simp;omega)];simp;omega
        have w4:wr ((2:Int)-2)=0:=by decide
        have i2:ib (s'.length:Int) ((s'++ [y,x]).length:Int)=true:=by simp;omega
        have i3:ib ((s'.length+1:Nat):Int) ((s'++ [y,x]).length:Int)=true:=by simp;omega
        have g2:List.getD (s'++ [y,x]) s'.length ar.z=y:=by simp
        have g3:List.getD (s'++ [y,x]) (s'.length+1) ar.z=x:=by simp
        have ts:List.take s'.length (s'++ [y,x])=s':=by simp
        have sb1:sb 0 (s'.length:Int) ((s'++ [y,x]).length:Int)=true:=by simp;omega
        have p1:=rF true l (s'++ [y]) x (by simp;omega)
        rw [List.append_assoc] at p1
        have p1:aG.F (true,l,s'++ [y,x],())=_:=p1
        obtain ⟨⟨kv,kf,_⟩,hL,_⟩:=ki o y.1 x.1
        have hL2:cE.F (o,[y.1,x.1],())=some (kv,kf,()):=((wc o y.1 x.1 ho).trans (uW o x.1 y.1 ho)).trans hL
        have hx:=h3 x (by simp)
        have hyy:=h3 y (by simp)
        have hdo:=do_x o y.1 y.2.1 y.2.2 x.1 x.2.1 x.2.2 (by omega) hyy hx
        have hdi:=uV o y.1 y.2.1 y.2.2 x.1 x.2.1 x.2.2 hyy hx
        simp only [e0,o0,o1,p1,rF _ _ s' y (by omega),show decide ((2:Int)>0)=true from rfl,show decide ((2:Int)>1)=true from rfl,show decide ((2:Int)<0)=false from rfl,jn,il,Qa,Qb,Qc,Bool.not_true,w2,w3,w4,i2,i3,ckT,Int.toNat_natCast,g2,g3,hL,ts,sb1]
        have hL3:cE.F (o,List.take ([y.1,x.1].length-Int.toNat 0) (List.drop (Int.toNat 0) [y.1,x.1]),())=some (kv,kf,()):=hL2
        have sbL:sb (0:Int) (([y.1,x.1].length:Nat):Int) (([y.1,x.1].length:Nat):Int)=true:=rfl
        simp only [sbL,ckT,hL3,Qa]
        cases kf with
        |false=>exact aL (aL rfl)
        |true=>
        simp only [Bool.not_true,Qb,hdo]
        cases hd:gK.F (o,y.1,y.2.1,y.2.2,x.1,x.2.1,x.2.2,()) with
        |none=>exact iL
        |some y1=>
        have hy:=hdi _ hd
        simp only [Qa]
        cases y1.2.2.2.1 with
        |false=>exact aL (aL rfl)
        |true=>
        have hp:=oG (y1.1,(y1.2.1,y1.2.2.1)) true l s' (by omega)
        dsimp only at hp
        simp only [Bool.not_true,Qb,hp,Qa]
        exact ay fun _=>ay fun _=>aC (aC ⟨i+1,rfl,by omega,by simp at h2 ⊢;omega,fun v hv=>(List.mem_append.1 hv).elim (fun h=>h3 v (by simp at h ⊢;exact .inl h)) fun h=>by rw [List.mem_singleton.1 h];exact hy,rfl⟩)
      · omega
  · rintro ⟨st,_⟩ _ rfl
    dsimp only
    rw [bj.eq];unfold bj.B
    dsimp only
    simp only [Bool.not_true,Qb]
    by_cases h:st.length=1
    · have e1:((st.length:Int) !=1)=false:=by simp;omega
      have e2:ib 0 (st.length:Int)=true:=by simp;omega
      simp only [e1,e2,ckT,Qb,Qa,Qc]
      exact aF (aF rfl)
    · have e1:((st.length:Int) !=1)=true:=by simp;omega
      simp only [e1,Qc,Qa,Qb]
      exact aF (aF rfl)
end Go.Proofs.Ytpoffnlnhdbpmaa
end
section
set_option maxRecDepth 100000
namespace Go.Proofs.Ytpoffnlnhdbpmaa
open Go Lv Go.Proofs Go.RowKit Go.Shelf
section
variable {α β S S' R R':Type}
theorem rG {x:Option α} {y:Option β} {Q:α→β→Prop} {b:β} (h:Par x fun a=>Par y fun b=>Q a b) (e:y=some b):Par x fun a=>Q a b:=fun a ha=>h a ha b e
end
variable [Lk]
theorem key_p (l:List bO) (v:ap) (hl:l.length≤12):Par (gA.F (l,v.1,v.2.1,v.2.2,())) fun y=>y.2.1=true↔∃q∈l,fst0 q.1=v:=by
 rw [gA.eq];unfold gA.B
 refine iz (fun x=>∃i:Nat,x.1=(i:Int)∧i≤l.length∧∀(j:Nat) (hj:j<l.length),j<i→fst0 l[j].1≠v) ⟨0,rfl,by omega,fun _ _ h=>by omega⟩ ?_
 rintro ⟨_,_⟩ ⟨i,rfl,h1,h2⟩
 dsimp only
 refine aj (fun h5=>?_) fun h5=>aL ?_
 ·simp at h5
  simp only [cD h5]
  refine ay fun _=>ay fun _=>aj (fun e=>ay fun _=>aL ?_) fun e=>aC ⟨i+1,wrn h5 (by omega),h5,fun j hj hji=>?_⟩
  ·simp only [true_iff]
   exact ⟨_,List.getElem_mem h5,eqV.1 e⟩
  ·by_cases ej:j=i
   ·subst ej;exact neV.1 e
   ·exact h2 j hj (by omega)
 ·simp at h5
  simp only [Bool.false_eq_true,false_iff]
  rintro ⟨q,hq,e⟩
  obtain ⟨j,hj,rfl⟩:=List.getElem_of_mem hq
  exact h2 j hj (by omega) e
structure To (n:ByteArray) (cs:List aB) (es:List (List ak)) (b:List bF):Prop where
 bl:b.length≤1000
 el:es.length≤400
 c:cs.length≤400
 r:(fl b n).length≤12
 l:∀r∈fl b n,r.1.length=cs.length
 z:∀r∈fl b n,∀v∈r.1,v.1=0→v=zV
 i:∀r∈fl b n,∀v∈r.1,I64 v.2.1
 e:∀e∈es,∀n∈e,I64 n.2.2.2.1
 f:∀s,(fl b s).length≤12
theorem one_p (n : ByteArray) (cs : List aB) (es : List (List ak)) (b : List bF) (h : To n cs es b) : Par (gh.F (n,cs,es,b,())) fun y => Par (cN.F (n,cs,es,b,())) fun z => y = z := by
  rw [gh.eq,cN.eq];unfold gh.B cN.B
  dsimp only
  simp only [oE _ _ h.bl,rm _ _ h.bl,Qa]
  have hf:=h.f
  have hbl:=h.bl
  obtain ⟨_,hel,hc,hr,hl,hz,hi,he,_⟩:=h
  generalize fl b n=rows at*
  cases hk1:bK.F (n,cs,es,rows,b,()) with
  |none=>exact fun _ _=>iL
  |some w1=>
  simp only [Qa,J1]
  refine mN (Par.mono (P:=fun z=>match z with| .inl _=>w1.1=-1| .inr q=>q=((180:Int),n,w1.1,())∧0≤w1.1) (rG (Q:=fun (z:Unit⊕(Int×ByteArray×Int×Unit)) (w:Int×Unit)=>match z with| .inl _=>w.1=-1| .inr q=>q=((180:Int),n,w.1,())∧0≤w.1) ?_ hk1) fun z hz1=>?_)
  · rw [bK.eq];unfold bK.B
    dsimp only
    refine iZ (fun s t=>s.1=t.1∧0≤s.1) ⟨rfl,by simp⟩ ?_
    rintro ⟨i,_⟩ ⟨_,_⟩ ⟨rfl,hi0⟩
    dsimp only at hi0 ⊢
    refine aj (fun h5=>?_) fun h5=>by rw [h5];exact aL (aL rfl)
    rw [h5]
    simp at h5
    have i1:ib i (rows.length:Int)=true:=by simp;omega
    have hmem:=d9 (z:=cX.z) hi0 h5
    have hlen:=hl _ hmem
    have hw:wr (i+1)=i+1:=bB (by omega) (by omega)
    simp only [i1,ckT,Qc,hlen,hw]
    generalize gt rows i cX.z=r at hmem hlen ⊢
    refine jK (fun _ _=>True) ?_ fun _ _ _=>aC (aC ⟨rfl,by dsimp only;omega⟩)
    refine iZ (fun s t=>s.1=t.1∧0≤s.1) ⟨rfl,by simp⟩ ?_
    rintro ⟨k,_⟩ ⟨_,_⟩ ⟨rfl,k0⟩
    dsimp only at k0 ⊢
    refine aj (fun h6=>?_) fun h6=>by rw [h6];exact aL (aL trivial)
    rw [h6]
    simp at h6
    have i2:ib k (cs.length:Int)=true:=by simp;omega
    have hw:wr (k+1)=k+1:=bB (by omega) (by omega)
    have hb:((gt r.1 k ar.z).1 !=0)= !((gt r.1 k ar.z).1==0):=rfl
    simp only [i2,ckT,Qc,hb,hw]
    cases ((gt r.1 k ar.z).1 !=(gt cs k aV.z).2.1) with
    |false=>exact aC (aC ⟨rfl,by dsimp only;omega⟩)
    |true=>
      cases ((gt r.1 k ar.z).1==0) with
      |false=>
        cases (gt cs k aV.z).2.2.1 with
        |false=>exact aL (aL ⟨rfl,k0⟩)
        |true=>exact aL (aL ⟨rfl,k0⟩)
      |true=>
        cases (gt cs k aV.z).2.2.1 with
        |false=>exact aL (aL ⟨rfl,k0⟩)
        |true=>exact aC (aC ⟨rfl,by dsimp only;omega⟩)
  cases z with
  |inr q=>
    obtain ⟨rfl,h0⟩:=hz1
    have:decide (w1.1≥0)=true:=by simpa using h0
    rw [this]
    exact aF rfl
  |inl u=>
  have hz1:w1.1=-1:=hz1
  simp only [hz1,show decide ((-1:Int)≥0)=false from rfl,Qb]
  cases hk2:bD.F (n,cs,es,rows,b,()) with
  |none=>exact fun _ _=>iL
  |some w2=>
  simp only [Qa,J1]
  refine mN (Par.mono (P:=fun z=>match z with| .inl _=>w2.1=-1| .inr q=>q=((181:Int),n,w2.1,())∧0≤w2.1) (rG (Q:=fun (z:Unit⊕(Int×ByteArray×Int×Unit)) (w:Int×Unit)=>match z with| .inl _=>w.1=-1| .inr q=>q=((181:Int),n,w.1,())∧0≤w.1) ?_ hk2) fun z hz1=>?_)
  · rw [bD.eq];unfold bD.B
    dsimp only
    refine iZ (fun s t=>s.1=t.1∧∃k:Nat,s.1=(k:Int)∧k≤cs.length) ⟨rfl,0,rfl,by omega⟩ ?_
    rintro ⟨_,_⟩ ⟨_,_⟩ ⟨rfl,k,rfl,hk⟩
    dsimp only
    refine aj (fun h5=>?_) fun h5=>by rw [h5];exact aL (aL rfl)
    rw [h5]
    simp at h5
    have i1:ib (k:Int) (cs.length:Int)=true:=by simp;omega
    simp only [i1,ckT,Qc,cD h5,pA,wrn h5 (by omega:cs.length≤1000000)]
    refine jK (fun _ _=>True) ?_ fun _ _ _=>aC (aC ⟨rfl,k+1,rfl,h5⟩)
    cases hu:cs[k].2.2.2.1 with
    |false=>
      refine iz (fun _=>True) trivial fun s _=>?_
      obtain ⟨x,_⟩:=s
      dsimp only
      cases decide (x<(rows.length:Int))<;>exact aL (aC trivial)
    |true=>
      simp only [Bool.not_true,Qb,Qc]
      refine iZ (fun s t=>s.1=t.1∧∃i:Nat,s.1=(i:Int)∧i≤rows.length∧Mp t.2.1 (fun v=>∃(j:Nat) (h:j<rows.length),j<i∧vl rows[j] k=v)) ⟨rfl,0,rfl,by omega,Mp.nil.k,fun v=>(Mp.nil.s v).trans ⟨False.elim,fun ⟨_,_,h,_⟩=>by omega⟩⟩ ?_
      rintro ⟨_,_⟩ ⟨_,m,_⟩ ⟨rfl,i,rfl,i1',i2⟩
      dsimp only at i2 ⊢
      by_cases h6:i<rows.length
      rotate_left 1
      · have d1:decide ((i:Int)<(rows.length:Int))=false:=by simp;omega
        rw [d1]
        exact aL (aL trivial)
      have d1:decide ((i:Int)<(rows.length:Int))=true:=by simp;omega
      have i3:ib (i:Int) (rows.length:Int)=true:=by simp;omega
      have hL:=hl _ (List.getElem_mem h6)
      have i4:ib (k:Int) (rows[i].1.length:Int)=true:=by simp;omega
      have put:Mp (fe (kW (vl rows[i] k)) true m) (fun v=>∃(j:Nat) (h:j<rows.length),j<i+1∧vl rows[j] k=v):=i2.put _ fun v=>by
        constructor
        · rintro ⟨j,hj,hji,rfl⟩
          by_cases e:j=i
          · subst e;exact .inl rfl
          · exact .inr ⟨j,hj,by omega,rfl⟩
        · rintro (rfl|⟨j,hj,hji,rfl⟩)
          · exact ⟨i,h6,by omega,rfl⟩
          · exact ⟨j,hj,by omega,rfl⟩
      simp only [d1,i3,i4,ckT,Qc,cD h6,wrn h6 (by omega:rows.length≤1000000),J1]
      refine mN (Par.mono (P:=fun z=>match z with| .inl _=>(vl rows[i] k).1=0∨∀(j:Nat) (hj:j<rows.length),j<i→vl rows[j] k≠vl rows[i] k| .inr q=>q=.inr (.inr (.inr (.inr ((181:Int),n,(k:Int),()))))∧(vl rows[i] k).1≠0∧∃(j:Nat) (hj:j<rows.length),j<i∧vl rows[j] k=vl rows[i] k) ?_ fun z hz=>?_)
      · refine iz (fun s=>∃m:Nat,s.1=(m:Int)∧m≤i∧((vl rows[i] k).1=0∨∀(j:Nat) (hj:j<rows.length),j<m→vl rows[j] k≠vl rows[i] k)) ⟨0,rfl,by omega,.inr fun _ _ h=>by omega⟩ ?_
        rintro ⟨_,_⟩ ⟨m,rfl,m1,m2⟩
        dsimp only
        refine aj (fun g=>?_) fun g=>aL ?_
        · simp at g
          have hm:m<rows.length:=by omega
          simp only [cD hm]
          refine aj (fun g2=>ay fun _=>ay fun _=>aj (fun g3=>aL ⟨rfl,by simpa using g2,m,hm,g,(eqV.1 g3).symm⟩) fun g3=>aC ⟨m+1,wrn hm (by omega),g,?_⟩) fun g2=>aC ⟨m+1,wrn hm (by omega),g,.inl (by simpa using g2)⟩
          rcases m2 with m2|m2
          · exact .inl m2
          · refine .inr fun j hj hjm=>?_
            by_cases ej:j=m
            · subst ej
              exact fun e=>neV.1 g3 e.symm
            · exact m2 j hj (by omega)
        · simp at g
          rcases m2 with m2|m2
          · exact .inl m2
          · exact .inr fun j hj hjm=>m2 j hj (by omega)
      cases z with
      |inl u=>
        refine aC (aj (fun g=>?_) fun g=>aC ⟨rfl,i+1,rfl,h6,put⟩)
        rcases hz with hz|hz
        · exact absurd hz (by simpa using g)
        · refine aj (fun g2=>?_) fun g2=>aC ⟨rfl,i+1,rfl,h6,put⟩
          obtain ⟨j,hj,hji,ej⟩:=(i2.s _).1 g2
          exact absurd ej (hz j hj hji)
      |inr q=>
        obtain ⟨rfl,hz0,hz1⟩:=hz
        have g:((vl rows[i] k).1 !=0)=true:=by simpa using hz0
        have g2:=(i2.s (vl rows[i] k)).2 hz1
        refine aj (fun _=>aj (fun _=>aL ⟨rfl,by simp⟩) fun g3=>?_) fun g3=>?_
        · rw [show Option.getD (getKV (kW (vl rows[i] k)) m) false=true from g2] at g3
          cases g3
        · rw [g] at g3
          cases g3
  cases z with
  |inr q=>
    obtain ⟨rfl,h0⟩:=hz1
    have:decide (w2.1≥0)=true:=by simpa using h0
    rw [this]
    exact aF rfl
  |inl u=>
  have hz1:w2.1=-1:=hz1
  simp only [hz1,show decide ((-1:Int)≥0)=false from rfl,Qb]
  cases hk3:bU.F (n,cs,es,rows,b,()) with
  |none=>exact fun _ _=>iL
  |some w3=>
  simp only [Qa,J1]
  refine mN (Par.mono (P:=fun z=>match z with| .inl _=>w3.1=-1| .inr q=>q=((182:Int),n,w3.1,())∧0≤w3.1) (rG (Q:=fun (z:Unit⊕(Int×ByteArray×Int×Unit)) (w:Int×Unit)=>match z with| .inl _=>w.1=-1| .inr q=>q=((182:Int),n,w.1,())∧0≤w.1) ?_ hk3) fun z hz1=>?_)
  · rw [bU.eq];unfold bU.B
    dsimp only
    refine iZ (fun s t=>s.1=t.1∧∃k:Nat,s.1=(k:Int)∧k≤cs.length) ⟨rfl,0,rfl,by omega⟩ ?_
    rintro ⟨_,_⟩ ⟨_,_⟩ ⟨rfl,k,rfl,hk⟩
    dsimp only
    refine aj (fun h5=>?_) fun h5=>by rw [h5];exact aL (aL rfl)
    rw [h5]
    simp at h5
    have i1:ib (k:Int) (cs.length:Int)=true:=by simp;omega
    simp only [i1,ckT,Qc,cD h5,pA,wrn h5 (by omega:cs.length≤1000000),rm _ _ hbl,oE _ _ hbl,Qa]
    refine jK (fun _ _=>True) ?_ fun _ _ _=>aC (aC ⟨rfl,k+1,rfl,h5⟩)
    cases hu:sq cs[k].2.2.2.2.1 (⟨#[]⟩:ByteArray) with
    |true=>
      refine iz (fun _=>True) trivial fun s _=>?_
      obtain ⟨x,_⟩:=s
      dsimp only
      cases decide (x<(rows.length:Int))<;>exact aL (aC trivial)
    | false =>
      simp only [Bool.not_false,Qb,Qc]
      have hyl:=hf cs[k].2.2.2.2.1
      generalize fl b cs[k].2.2.2.2.1=ys at hyl ⊢
      refine l9 (gB (fun x=>Mp x.1 (fun v=>v=zV∨∃q∈ys,fst0 q.1=v)) ?_ fun x hm=>l9 ?_)
      · refine iz (fun x=>∃i:Nat,x.1=(i:Int)∧i≤ys.length∧Mp x.2.1 (fun v=>v=zV∨∃(j:Nat) (h:j<ys.length),j<i∧fst0 ys[j].1=v)) ⟨0,rfl,by omega,Mp.nil.put zV fun v=>by simp⟩ ?_
        rintro ⟨_,m,_⟩ ⟨i,rfl,i1,i2⟩
        dsimp only at i2 ⊢
        refine aj (fun h5=>?_) fun h5=>aL ⟨i2.k,fun v=>(i2.s v).trans ?_⟩
        · simp at h5
          simp only [cD h5,wrn h5 (by omega:ys.length≤1000000)]
          refine ay fun _=>ay fun _=>aC ⟨i+1,rfl,h5,i2.put _ fun v=>?_⟩
          constructor
          · rintro (rfl|⟨j,hj,hji,rfl⟩)
            · exact .inr (.inl rfl)
            · by_cases e:j=i
              · subst e;exact .inl rfl
              · exact .inr (.inr ⟨j,hj,by omega,rfl⟩)
          · rintro (rfl|rfl|⟨j,hj,hji,rfl⟩)
            · exact .inr ⟨i,h5,by omega,rfl⟩
            · exact .inl rfl
            · exact .inr ⟨j,hj,by omega,rfl⟩
        · simp at h5
          constructor
          · rintro (rfl|⟨j,hj,hji,rfl⟩)
            · exact .inl rfl
            · exact .inr ⟨_,List.getElem_mem hj,rfl⟩
          · rintro (rfl|⟨q,hq,rfl⟩)
            · exact .inl rfl
            · obtain ⟨j,hj,rfl⟩:=List.getElem_of_mem hq
              exact .inr ⟨j,hj,by omega,rfl⟩
      obtain ⟨m,_⟩:=x
      dsimp only at hm ⊢
      refine iZ (fun s t=>s.1=t.1∧∃i:Nat,s.1=(i:Int)∧i≤rows.length) ⟨rfl,0,rfl,by omega⟩ ?_
      rintro ⟨_,_⟩ ⟨_,_⟩ ⟨rfl,i,rfl,i1'⟩
      dsimp only
      by_cases h6:i<rows.length
      rotate_left 1
      · have d1:decide ((i:Int)<(rows.length:Int))=false:=by simp;omega
        rw [d1]
        exact aL (aL trivial)
      have d1:decide ((i:Int)<(rows.length:Int))=true:=by simp;omega
      have i3:ib (i:Int) (rows.length:Int)=true:=by simp;omega
      have hL:=hl _ (List.getElem_mem h6)
      have i4:ib (k:Int) (rows[i].1.length:Int)=true:=by simp;omega
      have hv:vl rows[i] k∈rows[i].1:=by
        have hk':k<rows[i].1.length:=by omega
        show List.getD rows[i].1 k ar.z∈_
        rw [List.getD_eq_getElem?_getD,List.getElem?_eq_getElem hk']
        exact List.getElem_mem hk'
      have hz0:=hz _ (List.getElem_mem h6) _ hv
      simp only [d1,i3,i4,ckT,Qc,cD h6,wrn h6 (by omega:rows.length≤1000000),J1]
      refine bo ((key_p ys (vl rows[i] k) hyl).mono fun y hy=>?_)
      have hs:=hm.s (vl rows[i] k)
      refine aj (fun g=>?_) fun g=>?_
      · have gz:vl rows[i] k≠zV:=fun e=>by
          have g':(vl rows[i] k).1≠0:=by simpa using g
          rw [e] at g'
          exact g' rfl
        have hs:Option.getD (getKV (kW (vl rows[i] k)) m) false=y.2.1:=by
          rw [Bool.eq_iff_iff,hs,hy]
          exact ⟨fun h=>h.resolve_left gz,.inr⟩
        have hs:Option.getD (getKV (kV (rows[i].1.getD k ar.z).1 (rows[i].1.getD k ar.z).2.1 (rows[i].1.getD k ar.z).2.2) m) false=y.2.1:=hs
        rw [hs]
        cases y.2.1 with
        |true=>exact aC (aC ⟨rfl,i+1,rfl,h6⟩)
        |false=>exact aL (aL ⟨rfl,by simp⟩)
      · have g':(vl rows[i] k).1=0:=by simpa using g
        have hs:Option.getD (getKV (kV (rows[i].1.getD k ar.z).1 (rows[i].1.getD k ar.z).2.1 (rows[i].1.getD k ar.z).2.2) m) false=true:=hs.2 (.inl (hz0 g'))
        rw [hs]
        exact aC (aC ⟨rfl,i+1,rfl,h6⟩)
  cases z with
  |inr q=>
    obtain ⟨rfl,h0⟩:=hz1
    have:decide (w3.1≥0)=true:=by simpa using h0
    rw [this]
    exact aF rfl
  |inl u=>
  have hz1:w3.1=-1:=hz1
  simp only [hz1,show decide ((-1:Int)≥0)=false from rfl,Qb,J1]
  cases hk4:bE.F (n,cs,es,rows,b,()) with
  |none=>exact fun _ _=>iL
  |some w4=>
  simp only [Qa]
  refine mN (Par.mono (P:=fun z=>match z with| .inl _=>w4.2.1=0| .inr q=>q=(w4.2.1,n,w4.1,())∧w4.2.1≠0) (rG (Q:=fun (z:Unit⊕(Int×ByteArray×Int×Unit)) (w:Int×Int×Unit)=>match z with| .inl _=>w.2.1=0| .inr q=>q=(w.2.1,n,w.1,())∧w.2.1≠0) ?_ hk4) fun z hz1=>?_)
  · rw [bE.eq];unfold bE.B
    dsimp only
    refine iZ (fun s t=>s.1=t.1∧0≤s.1) ⟨rfl,by simp⟩ ?_
    rintro ⟨i,_⟩ ⟨_,_⟩ ⟨rfl,hi0⟩
    dsimp only at hi0 ⊢
    refine aj (fun h5=>?_) fun h5=>by rw [h5];exact aL (aL rfl)
    rw [h5]
    simp only [Qc]
    refine jK (fun _ _=>True) ?_ fun _ _ _=>?_
    · refine l9 (ay fun i2=>l9 ?_)
      have hme:=d9 (z:=([]:List ak)) (iq.1 i2).1 (iq.1 i2).2
      refine iZ (fun s t=>s.1=t.1∧0≤s.1) ⟨rfl,by simp⟩ ?_
      rintro ⟨k,_⟩ ⟨_,_⟩ ⟨rfl,k0⟩
      dsimp only at k0 ⊢
      refine aj (fun h6=>?_) fun h6=>by rw [h6];exact aL (aL trivial)
      rw [h6]
      simp at h6
      have hw:wr (k+1)=k+1:=bB (by omega) (by omega)
      have i3:ib k (rows.length:Int)=true:=by simp;omega
      have hmem:=d9 (z:=cX.z) k0 h6
      simp only [i2,i3,ckT,Qc,hw,jU,ma,Qa,Qb]
      refine nX ((De _ _ (he _ hme) (hi _ hmem)).mono fun y hy=>hy.mono fun z hyz=>?_)
      subst hyz
      refine aj (fun g=>?_) fun g=>?_
      · rw [g]
        exact aL (aL ⟨rfl,by simpa using g⟩)
      · rw [g]
        simp only [Qb]
        refine aj (fun g=>?_) fun g=>?_
        · rw [g]
          exact aL (aL ⟨rfl,by simp⟩)
        · rw [g]
          exact aC (aC ⟨rfl,by dsimp only;omega⟩)
    · simp at h5
      have hw:wr (i+1)=i+1:=bB (by omega) (by omega)
      exact aC (aC ⟨rfl,by dsimp only;omega⟩)
  cases z with
  |inr q=>
    obtain ⟨rfl,h0⟩:=hz1
    have:(w4.2.1 !=0)=true:=by simpa using h0
    rw [this]
    exact aF rfl
  |inl u=>
    have hz1:w4.2.1=0:=hz1
    rw [hz1]
    exact aF (aF rfl)
end Go.Proofs.Ytpoffnlnhdbpmaa
end
section
set_option maxRecDepth 100000
namespace Go.Proofs.Ytpoffnlnhdbpmaa
open Go Lv Go.Proofs Go.RowKit Go.Shelf
variable [Lk]
theorem Bt (e : List ak) (l : List ap) (he : ∀ n ∈ e,I64 n.2.2.2.1) (hl : ∀ v ∈ l,I64 v.2.1) : Tot (fN.F (e,l,())) fun _ => True := by
  rw [fN.eq];unfold fN.B
  refine ac.2 ⟨fun _=>by simp,fun h=>?_⟩
  simp at h
  refine aY (fun _=>True) ?_ ?_
  · refine dk (fun x=>e.length-x.1.toNat) (fun x=>0≤x.1∧x.1≤(e.length:Int)∧(x.2.1.length:Int)≤x.1∧∀v∈x.2.1,I64 v.2.1) (by simp) ?_
    rintro ⟨i,st,_⟩ ⟨i1,i2,i3,i4⟩
    dsimp only at i1 i2 i3 i4 ⊢
    refine ac.2 ⟨fun h5=>?_,fun h5=>aH.2 trivial⟩
    simp at h5
    have w0:wr (i+1)=i+1:=bB (by omega) (by omega)
    have hn:=he _ (d9 (z:=bN.z) i1 h5)
    simp only [(kA _).1,Qa,w0]
    generalize gt e i bN.z=n at hn ⊢
    obtain ⟨o,b,c,d,s⟩:=n
    dsimp only at hn ⊢
    refine ah.2 ⟨by simp;omega,aY (fun _=>0≤tkn o∧tkn o≤(st.length:Int)) ?_ ?_⟩
    · refine ac.2 ⟨fun _=>aH.2 trivial,fun h1=>ac.2 ⟨fun _=>aH.2 trivial,fun h2=>av.2 ?_⟩⟩
      simp at h1 h2
      exact ⟨h1,h2⟩
    rintro _ ⟨t1,t2⟩
    have app:∀v:ap,I64 v.2.1→∀u∈st++ [v],I64 u.2.1:=fun v hv u hu=>(List.mem_append.1 hu).elim (i4 u) fun h=>by rw [List.mem_singleton.1 h];exact hv
    refine ac.2 ⟨fun o0=>ac.2 ⟨fun _=>aH.2 trivial,fun g1=>ac.2 ⟨fun _=>aH.2 trivial,fun g2=>?_⟩⟩,fun o0=>ac.2 ⟨fun o1=>?_,fun o1=>?_⟩⟩
    · simp at g1 g2
      have hv:=hl _ (d9 (z:=ar.z) g1 g2)
      exact ah.2 ⟨by simp;omega,ah.2 ⟨by simp;omega,av.2 ⟨⟨by omega,by omega,by simp;omega,app _ hv⟩,by dsimp only;omega⟩⟩⟩
    · exact af.2 ((pw _ _ _).mono fun y _=>ac.2 ⟨fun _=>aH.2 trivial,fun _=>ah.2 ⟨by simp;omega,av.2 ⟨⟨by omega,by omega,by simp;omega,app _ hn⟩,by dsimp only;omega⟩⟩⟩)
    have ot : 1 ≤ tkn o ∧ tkn o ≤ 2 ∧ 2 ≤ o ∧ o ≤ 10 := by
      simp at o0 o1
      unfold tkn at t1 ⊢
      split at t1
      · omega
      · split at t1
        · rename_i h1 h2
          rw [if_neg h1,if_pos h2]
          omega
        · split at t1
          · rename_i h1 h2 h3
            rw [if_neg h1,if_neg h2,if_pos h3]
            omega
          · omega
    have w1:wr ((st.length:Int)-1)=((st.length-1:Nat):Int):=by rw [bB (by omega) (by omega)];omega
    have w3:wr ((st.length:Int)-tkn o)=st.length-tkn o:=bB (by omega) (by omega)
    have hx:I64 (List.getD st (Int.toNat ((st.length-1:Nat):Int)) ar.z).2.1:=i4 _ (d9 (xs:=st) (i:=((st.length-1:Nat):Int)) (z:=ar.z) (by omega) (by omega))
    simp only [w1,w3]
    generalize List.getD st (Int.toNat ((st.length-1:Nat):Int)) ar.z=X at hx ⊢
    refine ah.2 ⟨by simp;omega,aY (fun x=>I64 x.2.1) ?_ ?_⟩
    · refine ac.2 ⟨fun g=>?_,fun _=>av.2 (by constructor<;>decide)⟩
      simp at g
      have w2:wr ((st.length:Int)-2)=((st.length-2:Nat):Int):=by rw [bB (by omega) (by omega)];omega
      rw [w2]
      exact ah.2 ⟨by simp;omega,av.2 (i4 _ (d9 (xs:=st) (i:=((st.length-2:Nat):Int)) (z:=ar.z) (by omega) (by omega)))⟩
    rintro ⟨y1,y2,y3,_⟩ hy
    dsimp only at hy ⊢
    refine af.2 ((ki _ _ _).mono fun z _=>ac.2 ⟨fun _=>aH.2 trivial,fun _=>?_⟩)
    have hd:Tot (gK.F (o,y1,y2,y3,X.1,X.2.1,X.2.2,())) fun y=>I64 y.2.1:=by
      rw [←do_x o y1 y2 y3 X.1 X.2.1 X.2.2 ⟨ot.2.2.1,ot.2.2.2⟩ hy hx]
      obtain ⟨u,hu,_⟩:=BR o y1 y2 y3 X.1 X.2.1 X.2.2
      refine ⟨u,hu,uV o y1 y2 y3 X.1 X.2.1 X.2.2 hy hx u ?_⟩
      rw [←do_x o y1 y2 y3 X.1 X.2.1 X.2.2 ⟨ot.2.2.1,ot.2.2.2⟩ hy hx]
      exact hu
    refine af.2 (hd.mono fun u hu=>ac.2 ⟨fun _=>aH.2 trivial,fun _=>?_⟩)
    refine ah.2 ⟨by simp;omega,ah.2 ⟨by simp;omega,ah.2 ⟨by simp;omega,av.2 ⟨⟨by omega,by omega,by simp;omega,fun v hv=>?_⟩,by dsimp only;omega⟩⟩⟩⟩
    rw [List.nil_append] at hv
    rcases List.mem_append.1 hv with hv|hv
    · exact i4 v (List.mem_of_mem_take hv)
    · rw [List.mem_singleton.1 hv]
      exact hu
  · rintro ⟨st,_⟩ _
    refine ac.2 ⟨fun _=>by simp,fun h=>?_⟩
    simp at h
    simp [h]
theorem Df (l:List bO) (v:ap) (hl:l.length≤12) (h1:∀r∈l,1≤r.1.length):Tot (gA.F (l,v.1,v.2.1,v.2.2,())) fun _=>True:=by
 rw [gA.eq];unfold gA.B
 refine ic l.length fun i h0 hi=>ac.2 ⟨fun h5=>?_,fun _=>aH.2 trivial⟩
 simp at h5
 have w4:wr (i+1)=i+1:=bB (by omega) (by omega)
 have:=h1 _ (d9 (z:=cX.z) h0 h5)
 exact ah.2 ⟨by simp;omega,ah.2 ⟨by rw [iq];omega,ac.2 ⟨fun _=>ah.2 ⟨by simp;omega,aH.2 trivial⟩,fun _=>by simp [w4];omega⟩⟩⟩
theorem Dg (n:ByteArray) (cs:List aB) (es:List (List ak)) (b:List bF) (h:To n cs es b) (h1:∀s,∀r∈fl b s,1≤r.1.length):Tot (gh.F (n,cs,es,b,())) fun _=>True:=by
 rw [gh.eq];unfold gh.B
 dsimp only
 simp only [oE _ _ h.bl,Qa]
 have hf:=h.f
 have hbl:=h.bl
 obtain ⟨_,hel,hc,hr,hl,hz,hi,he,_⟩:=h
 generalize fl b n=rows at*
 refine aY (fun _=>True) ?_ fun _ _=>aY (fun _=>True) ?_ fun _ _=>aY (fun _=>True) ?_ fun _ _=>aY (fun _=>True) ?_ fun _ _=>ai.2 trivial
 ·refine ic rows.length fun i h0 h1=>ac.2 ⟨fun h5=>?_,fun _=>aH.2 trivial⟩
  simp at h5
  have w4:wr (i+1)=i+1:=bB (by omega) (by omega)
  have hL:=hl _ (d9 (z:=cX.z) h0 h5)
  refine aY (fun _=>True) ?_ fun _ _=>by simp [w4];omega
  refine ic cs.length fun k k0 k1=>ac.2 ⟨fun h6=>?_,fun _=>aH.2 trivial⟩
  simp at h6
  have w5:wr (k+1)=k+1:=bB (by omega) (by omega)
  refine ah.2 ⟨by simp;omega,ah.2 ⟨by simp;omega,aY (fun _=>True) ?_ fun _ _=>ac.2 ⟨fun _=>aH.2 trivial,fun _=>by simp [w5];omega⟩⟩⟩
  exact ah.2 ⟨by simp;omega,ac.2 ⟨fun _=>ac.2 ⟨fun _=>av.2 trivial,fun _=>ah.2 ⟨by simp;omega,av.2 trivial⟩⟩,fun _=>av.2 trivial⟩⟩
 ·refine ic cs.length fun k k0 k1=>ac.2 ⟨fun h6=>?_,fun _=>aH.2 trivial⟩
  simp at h6
  have w5:wr (k+1)=k+1:=bB (by omega) (by omega)
  refine aY (fun _=>True) ?_ fun _ _=>by simp [w5];omega
  refine dk (fun x=>rows.length-x.1.toNat) (fun x=>0≤x.1∧x.1≤(rows.length:Int)) (by simp) ?_
  rintro ⟨i,_⟩ ⟨i1,i2⟩
  dsimp only at i1 i2 ⊢
  refine aY (fun _=>i<(rows.length:Int)) ?_ fun _ h7=>?_
  ·exact ac.2 ⟨fun h7=>ah.2 ⟨by simp;omega,ac.2 ⟨fun _=>av.2 (by simpa using h7),fun _=>aH.2 trivial⟩⟩,fun _=>aH.2 trivial⟩
  have w4:wr (i+1)=i+1:=bB (by omega) (by omega)
  have hL:=hl _ (d9 (z:=cX.z) i1 h7)
  refine aY (fun _=>True) ?_ fun _ _=>av.2 ⟨by dsimp only;omega,by dsimp only;omega⟩
  refine ic i.toNat fun j j0 j1=>ac.2 ⟨fun h8=>?_,fun _=>aH.2 trivial⟩
  simp at h8
  have w6:wr (j+1)=j+1:=bB (by omega) (by omega)
  have hM:=hl _ (d9 (xs:=rows) (z:=cX.z) j0 (by omega))
  refine ah.2 ⟨by simp;omega,ah.2 ⟨by simp;omega,ac.2 ⟨fun _=>ah.2 ⟨by simp;omega,ah.2 ⟨by simp;omega,ah.2 ⟨by simp;omega,ah.2 ⟨by simp;omega,ac.2 ⟨fun _=>aH.2 trivial,fun _=>by simp [w6];omega⟩⟩⟩⟩⟩,fun _=>by simp [w6];omega⟩⟩⟩
 ·refine ic cs.length fun k k0 k1=>ac.2 ⟨fun h6=>?_,fun _=>aH.2 trivial⟩
  simp at h6
  have w5:wr (k+1)=k+1:=bB (by omega) (by omega)
  refine aY (fun _=>True) ?_ fun _ _=>by simp [w5];omega
  refine dk (fun x=>rows.length-x.1.toNat) (fun x=>0≤x.1∧x.1≤(rows.length:Int)) (by simp) ?_
  rintro ⟨i,_⟩ ⟨i1,i2⟩
  dsimp only at i1 i2 ⊢
  refine aY (fun _=>i<(rows.length:Int)) ?_ fun _ h7=>?_
  ·exact ac.2 ⟨fun h7=>ah.2 ⟨by simp;omega,ac.2 ⟨fun _=>av.2 (by simpa using h7),fun _=>aH.2 trivial⟩⟩,fun _=>aH.2 trivial⟩
  have w4:wr (i+1)=i+1:=bB (by omega) (by omega)
  have hL:=hl _ (d9 (z:=cX.z) i1 h7)
  simp only [oE _ _ hbl,Qa,w4]
  refine ah.2 ⟨by simp;omega,ah.2 ⟨by simp;omega,ah.2 ⟨by simp;omega,af.2 ((Df _ _ (hf _) (h1 _)).mono fun y _=>?_)⟩⟩⟩
  refine ac.2 ⟨fun _=>ac.2 ⟨fun _=>aH.2 trivial,fun _=>av.2 ⟨by dsimp only;omega,by dsimp only;omega⟩⟩,fun _=>av.2 ⟨by dsimp only;omega,by dsimp only;omega⟩⟩
 ·refine ic es.length fun k k0 k1=>ac.2 ⟨fun h6=>?_,fun _=>aH.2 trivial⟩
  simp at h6
  have w5:wr (k+1)=k+1:=bB (by omega) (by omega)
  refine aY (fun _=>True) ?_ fun _ _=>by simp [w5];omega
  refine ic rows.length fun i h0 h1=>ac.2 ⟨fun h5=>?_,fun _=>aH.2 trivial⟩
  simp at h5
  have w4:wr (i+1)=i+1:=bB (by omega) (by omega)
  simp only [jU,Qa]
  refine ah.2 ⟨by simp;omega,ah.2 ⟨by simp;omega,af.2 ((Bt _ _ (he _ (d9 (z:=[]) k0 h6)) (hi _ (d9 (z:=cX.z) h0 h5))).mono fun y _=>?_)⟩⟩
  exact ac.2 ⟨fun _=>aH.2 trivial,fun _=>ac.2 ⟨fun _=>aH.2 trivial,fun _=>by simp [w4];omega⟩⟩
theorem may_z (a b:Int) (s:ByteArray):Par (dQ.F (a,b,s,())) fun y=>y.1=true→a=0→b=0∧s=⟨#[]⟩:=by
 by_cases ha:a=0
 ·subst ha
  refine Tot.p ?_
  rw [dQ.eq];unfold dQ.B
  simp [jC]
  intro h2 h3 h4
  exact ⟨by omega,eW.1 h2⟩
 ·exact fun y hy _ e=>absurd e ha
theorem row_z (l:List ap):Par (fT.F (l,())) fun y=>y.1=true→∀v∈l,v.1=0→v=zV:=by
 rw [fT.eq];unfold fT.B
 dsimp only
 refine aj (fun h=>bo ?_) fun _=>aF (fun h=>by cases h)
 simp at h
 rw [gu.eq];unfold gu.B
 refine iz (fun x=>∃i:Nat,x.1=(i:Int)∧i≤l.length∧∀(j:Nat) (hj:j<l.length),j<i→l[j].1=0→l[j]=zV) ⟨0,rfl,by omega,fun _ _ h=>by omega⟩ ?_
 rintro ⟨_,_⟩ ⟨i,rfl,i1,i2⟩
 dsimp only
 refine aj (fun h5=>?_) fun h5=>aL (aF fun _ v hv=>?_)
 ·simp at h5
  simp only [cD h5]
  refine ay fun _=>bo ((may_z _ _ _).mono fun y hy=>aj (fun _=>aL (aF fun h=>by cases h)) fun e=>aC ⟨i+1,wrn h5 (by omega),h5,fun j hj hji h0=>?_⟩)
  by_cases ej:j=i
  ·subst ej
   obtain ⟨h1,h2⟩:=hy (by simpa using e) h0
   exact Prod.ext h0 (Prod.ext h1 h2)
  ·exact i2 j hj (by omega) h0
 ·simp at h5
  obtain ⟨j,hj,rfl⟩:=List.getElem_of_mem hv
  exact i2 j hj (by omega)
def Bi (b:List bF):Prop:=∀x∈b,∀r∈x.2,∀v∈r.1,I64 v.2.1
theorem to_of {c:List bL} {b:List bF} (g:Gm c b) (hi:Bi b) {t:gD} (ht:t∈tabs c):To t.1 t.2.1 t.2.2 b:=by
 have hok:=mn g.gc ht
 have hbl:=g.sb.l
 have hfl:∀s,(fl b s).length≤12:=fun s=>by
  rcases th b s with h|⟨x,hx,_,h⟩
  ·rw [h];simp
  ·rw [h];exact g.sb.r x hx
 obtain ⟨d,hd,h0,e0⟩:=vR ht
 have hz:∀r∈fl b t.1,r.1.length=t.2.1.length∧∀v∈r.1,v.1=0→v=zV:=by
  obtain ⟨j,hj,rfl⟩:=List.getElem_of_mem ht
  have hj':j<b.length:=by rw [g.gb.n];exact hj
  rw [y0 g.gc g.gb hj]
  intro r hr
  refine ⟨((g.gb.m j hj' hj).2.e r hr).2,?_⟩
  obtain ⟨k,hk,rfl⟩:=List.getElem_of_mem hr
  have hy:=((g.cm.m j hj' hj).b k hk).1.2.2
  unfold Yes at hy
  rw [←tK] at hy
  exact row_z _ _ hy rfl
 refine ⟨by omega,hok.2.2.1,hok.2.1,hfl _,fun r hr=>(hz r hr).1,fun r hr=>(hz r hr).2,fun r hr=>?_,fun e he n hn=>?_,hfl⟩
 ·rcases th b t.1 with h|⟨x,hx,_,h⟩
  ·rw [h] at hr;cases hr
  ·rw [h] at hr
   exact hi x hx r hr
 ·subst e0
  exact ((g.gc.s d hd).e1 e he n hn).2
theorem B3 {c:List bL} {b:List bF} (g:Gm c b) (hi:Bi b) {t:gD} (ht:t∈tabs c):gh.F (t.1,t.2.1,t.2.2,b,())=some (tv b t):=by
 have hT:=to_of g hi ht
 have h1:∀s,∀r∈fl b s,1≤r.1.length:=fun s r hr=>by
  rcases th b s with h|⟨x,hx,_,h⟩
  ·rw [h] at hr;cases hr
  ·rw [h] at hr
   exact g.gb.ne g.gc x hx r hr
 obtain ⟨y,e,_⟩:=Dg _ _ _ _ hT h1
 rw [e,one_p _ _ _ _ hT _ e _ (tv_s g ht).1]
structure Gt (c:List bL) (b:List bF):Prop where
 l:c.length≤22
 s:∀d∈c,Sd d
 sb:Sb b
 i:Bi b
theorem B4 {c:List bL} {b:List bF} (h:Gt c b):(fW.F (c,b,())=some (false,())∧di.F (c,b,())=some (false,()))∨(fW.F (c,b,())=some (true,())∧di.F (c,b,())=some (true,())∧Gm c b):=by
 obtain ⟨⟨y,_⟩,ey,hy⟩:=yZ c h.l h.s b h.sb
 have hm:=Dc c h.l h.s b h.sb
 cases y with
 |false=>exact .inl ⟨ey,hm.trans ey⟩
 |true=>
  obtain ⟨hc,hG⟩:=hy rfl
  have hm:=hm.trans ey
  exact .inr ⟨ey,hm,hc,hG,h.sb,(Tot.p (CJ c hc (Db hc) b h.sb (hG.ne hc)) _ hm).1 rfl⟩
theorem Bu {c : List bL} {b : List bF} (h : Gt c b) : ∃ y,cO.F (c,b,()) = some y ∧ fa.F (c,b,()) = some y := by
  rcases B4 h with ⟨h1,h2⟩|⟨h1,h2,g⟩
  · refine ⟨(1,⟨#[]⟩,0,()),?_,?_⟩
    · rw [cO.eq];unfold cO.B
      dsimp only
      rw [h2];rfl
    · rw [fa.eq];unfold fa.B
      dsimp only
      rw [h1];rfl
  · refine ⟨_,Br g h2,?_⟩
    have hcl:=g.gc.len
    have htl:=py c
    refine Tot.eq ?_
    rw [fa.eq];unfold fa.B
    dsimp only
    simp only [h1,rk c (show c.length≤1000 by omega),Qa,Bool.not_true,Qb]
    refine aY (fun _=>fv b (tabs c)=zW) ?_ fun _ h=>ai.2 h.symm
    refine dk (fun x=>(tabs c).length-x.1.toNat) (fun x=>∃i:Nat,x.1=(i:Int)∧i≤(tabs c).length∧fv b ((tabs c).take i)=zW) ⟨0,rfl,by omega,rfl⟩ ?_
    rintro ⟨_,_⟩ ⟨i,rfl,i1,i2⟩
    dsimp only
    refine ac.2 ⟨fun h5=>?_,fun h5=>aH.2 ?_⟩
    · simp at h5
      have g2:List.getD (tabs c) (Int.toNat (i:Int)) iW.z=(tabs c)[i]:=cD h5 _
      have hmem:=List.getElem_mem h5
      obtain ⟨_,e2,e3⟩:=tv_s g hmem
      have hs:=Dd b h5
      rw [i2,if_pos rfl] at hs
      simp only [g2,B3 g h.i hmem,Qa,wrn h5 (by omega:(tabs c).length≤1000000)]
      refine ah.2 ⟨by simp;omega,ac.2 ⟨fun e=>aH.2 ?_,fun e=>av.2 ⟨⟨i+1,rfl,h5,?_⟩,by dsimp only;omega⟩⟩⟩
      · show tv b (tabs c)[i]=fv b (tabs c)
        have hh:fv b (tabs c)=((tabs c).drop (i+1)).foldl (fun a t=>if a.1=0 then tv b t else a) (fv b ((tabs c).take (i+1))):=by
          unfold fv
          rw [←List.foldl_append,List.take_append_drop]
        rw [hh,hs]
        exact (rD b _ _ (by simpa using e)).symm
      · rw [hs]
        exact e2 (by simpa using e)
    · simp at h5
      rw [List.take_of_length_le (by omega)] at i2
      exact i2
theorem Bv {c:List bL} {b:List bF} (h:Gt c b) (s:ByteArray):∃y,dK.F (c,b,s,())=some y∧fO.F (c,b,s,())=some y:=by
 have hl:=h.l
 rw [dK.eq,fO.eq];unfold dK.B fO.B
 dsimp only
 simp only [jW c _ (show c.length<1000000000000000 by omega),kD c _ (show c.length<1000000000000000 by omega),Qa]
 cases hn:decide (lV c s<0) with
 |true=>exact ⟨_,rfl,rfl⟩
 |false=>
 obtain ⟨k,hk⟩:=jj (c:=c) (s:=s) (by simpa using hn)
 have lk:=jJ hk
 rcases B4 h with ⟨h1,h2⟩|⟨h1,h2,g⟩
 ·simp only [h1,h2,Qa,Qb]
  exact ⟨_,rfl,rfl⟩
 ·have i1:ib (k:Int) (c.length:Int)=true:=by simp;omega
  simp only [h1,h2,Qa,Qb,iB hk,i1,ckT,cD lk,Bool.not_true,J1]
  cases h0:(c[k].1 !=0) with
  |true=>exact ⟨_,rfl,rfl⟩
  |false=>
   have h0':(c[k].1==0)=true:=by simpa using h0
   have ht:c[k].2.1∈tabs c:=List.mem_map.2 ⟨c[k],List.mem_filter.2 ⟨List.getElem_mem lk,h0'⟩,rfl⟩
   simp only [Qb,J1,(tv_s g ht).1,B3 g h.i ht,Qa]
   exact ⟨_,rfl,rfl⟩
theorem xn (c:List bL) (hl:c.length<1000000000000000) (hd:∀d∈c,Dn d) (b:List bF) (hb:Bn b) (hi:Bi b) (s:ByteArray):dY.F (c,b,s,())=some (true,()):=by
 refine Tot.is ?_
 rw [dY.eq];unfold dY.B
 simp only [Bp,Qa]
 refine aY (fun _=>Gt c b) ?_ fun _ g=>?_
 ·refine af.2 ((CA c hl hd).mono fun y hy=>ac.2 ⟨fun _=>aH.2 rfl,fun e=>ac.2 ⟨fun _=>aH.2 rfl,fun _=>?_⟩⟩)
  obtain ⟨l22,hs⟩:=hy e
  exact af.2 ((yY b hb).mono fun y hy=>ac.2 ⟨fun _=>aH.2 rfl,fun e=>av.2 ⟨l22,hs,hy (by simpa using e),hi⟩⟩)
 ·obtain ⟨y,e1,e2⟩:=Bu g
  obtain ⟨z,e3,e4⟩:=Bv g s
  simp only [e1,e2,e3,e4,Qa,Qc]
  refine ac.2 ⟨fun _=>ai.2 (eqWv.2 rfl),fun h=>?_⟩
  rw [eqWv.2 rfl] at h
  cases h
theorem in_bi {b:List bF} (h:In PP (.sl 44 eB) b):Bi b:=by
 simp only [In] at h
 exact fun x hx r hr v hv=>lu (((h.2 x hx).2.2 r hr).1.2 v hv).2.1
theorem pure3 (x:pL [(.sl 84 gF,false),(.sl 44 eB,false),(.str,false)]) (h:vA Tryz.prog [(.sl 84 gF,false),(.sl 44 eB,false),(.str,false)] x):dY.F (pu 0 [(.sl 84 gF,false),(.sl 44 eB,false),(.str,false)] x)=some (true,()):=by
 obtain ⟨c,b,s,u⟩:=x
 obtain ⟨⟨hc,hc'⟩,hb,_⟩:=h
 exact xn c (ns (by kernel_rfl) hc) (fun d hd=>in_dn (hc' d hd)) b (in_bn hb) (in_bi hb) s
theorem zU:fk Tryz.prog 3 ⟨3,dY.d.si,dY.d.so,dY.F⟩:=dY.k.ok fO.c mixed
end Go.Proofs.Ytpoffnlnhdbpmaa
end
