import Derived.Test.YtpoffnlnhdbpmaaGreatDoorT8
import Derived.Test.YtpoffnlnhdbpmaaGreatDoorT3
import Derived.Lib.Replace
import Derived.Lib.Join
set_option linter.all false
set_option linter.unusedVariables false
set_option linter.unusedSimpArgs false
set_option linter.unusedSectionVars false
section
set_option maxRecDepth 100000
namespace Go.Proofs.Ytpoffnlnhdbpmaa
open Go Lv Go.Proofs Go.RowKit Go.Shelf
variable [Lk]
variable {L:List aX} {a:Int} {ok:Bool} {G H:Prop} {A:Type} {PF fail:Option A} {N:Prop}
omit [Lk] in
theorem St.ab {S R T:Type} {x:Option (S⊕R)} {f:S→Option R} {k:R→Option A} (s:St L a ok (PF=Option.bind x (jk f k)) H):∃g,g=f∧St L a ok (PF=Option.bind x (jk g k)) H:=⟨f,rfl,s⟩
omit [Lk] in
theorem St.abN {S R T:Type} {x:Option (S⊕R)} {f:S→Option R} {k:R→Option A} (s:St L a ok (N→PF=Option.bind x (jk f k)) H):∃g,g=f∧St L a ok (N→PF=Option.bind x (jk g k)) H:=⟨f,rfl,s⟩
theorem BW {k1:(Int×List aX×Unit)⊕Int→Option A} {k2:Int→(Int×List aX×Unit)⊕Int→Option A} {E:Int→Int→List aX→Option A}
 (s:St L a ok (PF=Option.bind (bS.F ([⟨#[99,111,117,110,116]⟩,⟨#[115,117,109]⟩,⟨#[109,105,110]⟩,⟨#[109,97,120]⟩],dr L a,())) k1) (PF=fail)) (h1:k1 (.inr 70)=fail)
 (h2:∀v m,k1 (.inl (v,m,()))=bif (v !=0) then Option.bind (bI.F (m,())) (k2 v) else E v 0 m) (h3:∀v,k2 v (.inr 70)=fail) (h4:∀v c m,k2 v (.inl (c,m,()))=E v c m):
 ∃v c a' ok',cz.F (L,a,ok,())=some (v,c,L,a',ok',())∧St L a' ok' (PF=E v c (dr L a')) (PF=fail)∧a≤a'∧(ok'=true→ok=true):=by
 rw [cz.eq];unfold cz.B
 dsimp only
 obtain ⟨v,a1,o1,e1,s1,l1,w1⟩:=vY s h1 (by simp)
 simp only [e1,Qa]
 rw [h2] at s1
 cases hv:(v !=(0:Int)) with
 |false=>
  rw [hv] at s1
  exact ⟨_,_,a1,o1,rfl,s1,l1,w1⟩
 |true=>
  rw [hv,Qc] at s1
  obtain ⟨c,a2,o2,e2,s2,l2,w2⟩:=qw s1 (h3 v)
  simp only [Qc,e2,Qa]
  rw [h4] at s2
  exact ⟨_,_,a2,o2,rfl,s2,by omega,fun e=>w1 (w2 e)⟩
theorem BX    {k1 : (Int × List aX × Unit) ⊕ Int → Option A} {k2 : Int → (Int × List aX × Unit) ⊕ Int → Option A} {E : Int → Int → List aX → Option A}
    (s:St L a ok (N→PF=Option.bind (bS.F ([⟨#[99,111,117,110,116]⟩,⟨#[115,117,109]⟩,⟨#[109,105,110]⟩,⟨#[109,97,120]⟩],dr L a,())) k1) (N→PF=fail)) (h1:N→k1 (.inr 70)=fail)
    (h2:N→∀v m,k1 (.inl (v,m,()))=bif (v !=0) then Option.bind (bI.F (m,())) (k2 v) else E v 0 m) (h3:N→∀v,k2 v (.inr 70)=fail) (h4:N→∀v c m,k2 v (.inl (c,m,()))=E v c m):
    ∃v c a' ok',cz.F (L,a,ok,())=some (v,c,L,a',ok',())∧St L a' ok' (N→PF=E v c (dr L a')) (N→PF=fail)∧a≤a'∧(ok'=true→ok=true):=by
  by_cases h:N
  · obtain ⟨v,c,a',ok',e,s',r⟩:=BW (s.to (fun g=>g h) fun g=>g h) (h1 h) (h2 h) (h3 h) (h4 h)
    exact ⟨v,c,a',ok',e,s'.to (fun g _=>g) (fun g _=>g),r⟩
  · obtain ⟨v,c,a',ok',e,s',r⟩:=BW (k1:=fun z=>match z with
      | .inl (v,m,_)=>bif (v !=(0:Int)) then Option.bind (bI.F (m,())) (fun _=>(none:Option Unit)) else none
      | .inr _=>none) (k2:=fun _ _=>none) (E:=fun _ _ _=>none) (PF:=Option.bind (bS.F ([⟨#[99,111,117,110,116]⟩,⟨#[115,117,109]⟩,⟨#[109,105,110]⟩,⟨#[109,97,120]⟩],dr L a,())) _) (fail:=none) (s.to (fun _=>rfl) fun _=>by
        cases bS.F ([⟨#[99,111,117,110,116]⟩,⟨#[115,117,109]⟩,⟨#[109,105,110]⟩,⟨#[109,97,120]⟩],dr L a,()) with
        |none=>rfl
        |some z=>
          rcases z with ⟨v,m,_⟩|n
          · simp only [Qa]
            cases (v !=(0:Int)) with
            |false=>rfl
            |true=>
              simp only [Qc]
              cases bI.F (m,())<;>rfl
          · rfl) rfl (fun v m=>rfl) (fun _=>rfl) (fun _ _ _=>rfl)
    exact ⟨v,c,a',ok',e,s'.of h,r⟩
abbrev tVo:=ByteArray×ByteArray×ByteArray×Int×Int×Bool×(List aX)×(List ak)×(List Int)×(List cU)×Unit
abbrev tVs:=(List aX)×ByteArray×ByteArray×ByteArray×Int×Int×Bool×(List ak)×(List Int)×(List cU)×Unit
abbrev tVl:=Int×ByteArray×ByteArray×ByteArray×Int×Int×Bool×(List ak)×(List Int)×(List cU)×(List aX)×Unit
omit [Lk] in
theorem zx (h0:0≤a) (h1:a≤(L.length:Int)):decide ((((dr L a).length:Nat):Int)>(0:Int))=decide (a<(L.length:Int)):=by
 apply decide_eq_decide.2
 simp
 omega
theorem C2 {k : tVo ⊕ Int → Option A} (s : St L a ok (PF = Option.bind (ae.F (dr L a,())) k) (PF = fail)) (hk : k (.inr 70) = fail) :
    ∃n f w o1 o2 g wh pk ag a' ok',cu.F (L,a,ok,())=some (n,f,w,o1,o2,g,L,a',ok',wh,pk,ag,())∧St L a' ok' (PF=k (.inl (n,f,w,o1,o2,g,dr L a',wh,pk,ag,()))) (PF=fail)∧∀n∈wh,ok'=true→Sg n:=by
  suffices h:Tot (cu.F (L,a,ok,())) fun y=>∃n f w o1 o2 g wh pk ag a' ok',y=(n,f,w,o1,o2,g,L,a',ok',wh,pk,ag,())∧St L a' ok' (PF=k (.inl (n,f,w,o1,o2,g,dr L a',wh,pk,ag,()))) (PF=fail)∧∀n∈wh,ok'=true→Sg n by
    obtain ⟨y,e,n,f,w,o1,o2,g,wh,pk,ag,a',ok',rfl,h⟩:=h
    exact ⟨n,f,w,o1,o2,g,wh,pk,ag,a',ok',e,h⟩
  rw [cu.eq];unfold cu.B
  rw [ae.eq] at s;unfold ae.B ae.b at s
  dsimp only at s ⊢
  rw [bA] at s
  obtain ⟨nm,a1,o1,e1,s1,l1,w1⟩:=nW s hk
  simp only [e1,Qa]
  dsimp only at s1
  rw [bA] at s1
  obtain ⟨a2,o2,e2,s2,l2,w2⟩:=lZ s1 (fun l=>by simp only [iY,Qa];exact hk)
  simp only [e2,Qa]
  simp only [jG,Qa,bA] at s2
  obtain ⟨fr,a3,o3,e3,s3,l3,w3⟩:=nW s2 hk
  simp only [e3,Qa]
  dsimp only at s3
  rw [tD] at s3
  obtain ⟨P2,hP2,s3⟩:=s3.ab (T:=Unit)
  refine aY (fun x=>∃w n1 n2 a' ok',x=(L,a',ok',nm,fr,w,n1,n2,false,[],[],[],())∧St L a' ok' (PF=Option.bind (P2 (dr L a',nm,fr,w,n1,n2,false,[],[],[],())) k) (PF=fail)) ?_ ?_
  · rw [bA] at s3
    obtain ⟨b,a4,e4,s4,_,_,_,_⟩:=lY s3
    simp only [e4,Qa]
    cases b with
    |false=>exact av.2 ⟨_,_,_,a4,o3,rfl,s4⟩
    |true=>
      simp only [Qc] at s4 ⊢
      rw [bA] at s4
      obtain ⟨wt,a5,o5,e5,s5,_,_⟩:=nW s4 hk
      simp only [e5,Qa]
      dsimp only at s5
      rw [bA] at s5
      obtain ⟨a6,o6,e6,s6,_,_⟩:=lZ s5 (fun l=>by simp only [iY,Qa];exact hk)
      simp only [e6,Qa]
      simp only [jG,Qa,bA] at s6
      obtain ⟨n1,a7,o7,e7,s7,_,_⟩:=qw s6 hk
      simp only [e7,Qa]
      dsimp only at s7
      simp only [show ib (0:Int) 2=true from rfl,ckT,bA] at s7
      obtain ⟨a8,o8,e8,s8,_,_⟩:=lZ s7 (fun l=>by simp only [iY,Qa];exact hk)
      simp only [e8,Qa]
      simp only [jG,Qa,bA] at s8
      obtain ⟨n2,a9,o9,e9,s9,_,_⟩:=qw s8 hk
      simp only [e9,Qa]
      dsimp only at s9
      simp only [show ib (1:Int) 2=true from rfl,ckT] at s9
      exact av.2 ⟨_,_,_,a9,o9,rfl,s9⟩
  rintro _ ⟨wt,n1,n2,a4,o4,rfl,s4⟩
  rw [hP2] at s4
  dsimp only at s4 ⊢
  rw [tD] at s4
  obtain ⟨P3,hP3,s4⟩:=s4.ab (T:=Unit)
  refine aY (fun x=>∃wh a' ok',x=(L,a',ok',nm,fr,wt,n1,n2,false,wh,[],[],())∧St L a' ok' (PF=Option.bind (P3 (dr L a',nm,fr,wt,n1,n2,false,wh,[],[],())) k) (PF=fail)∧∀n∈wh,ok'=true→Sg n) ?_ ?_
  · rw [bA] at s4
    obtain ⟨b,a5,e5,s5,_,_,_,_⟩:=lY s4
    simp only [e5,Qa]
    cases b with
    |false=>exact av.2 ⟨_,a5,o4,rfl,s5,by simp⟩
    |true=>
      simp only [Qc] at s5 ⊢
      rw [bA] at s5
      obtain ⟨wh,a6,o6,e6,s6,_,_,g6⟩:=uN s5 hk
      simp only [e6,Qa]
      exact av.2 ⟨_,a6,o6,rfl,s6,fun n hn e=>g6 e n hn⟩
  rintro _ ⟨wh,a5,o5,rfl,s5,gw⟩
  rw [hP3] at s5
  dsimp only at s5 ⊢
  rw [bA] at s5
  obtain ⟨a6,o6,e6,s6,_,w6⟩:=lZ s5 (fun l=>by simp only [iY,Qa];exact hk)
  simp only [e6,Qa]
  simp only [jG,Qa,tD] at s6
  replace gw:∀n∈wh,o6=true→Sg n:=fun n hn e=>gw n hn (w6 e)
  obtain ⟨P4,hP4,s6⟩:=s6.ab (T:=Unit)
  have a60:=s6.a0
  have a6l:=s6.l
  refine aY (fun x=>∃pk a' ok',x=(L,a',ok',nm,fr,wt,n1,n2,false,wh,pk,[],())∧St L a' ok' (pk.length≤40→PF=Option.bind (P4 (dr L a',nm,fr,wt,n1,n2,false,wh,pk,[],())) k) (PF=fail)∧(40<pk.length→PF=fail)∧(ok'=true→o6=true)) ?_ ?_
  · rw [zx s6.a0 s6.a1] at s6
    cases h1:decide (a6<(L.length:Int)) with
    |false=>
      simp only [h1,Qb] at s6
      simp only [Qb,il,jn,Qa]
      exact av.2 ⟨[],a6,o6,rfl,s6.to (fun g _=>g) id,fun h=>(by simp at h),id⟩
    |true=>
      simp only [h1,Qc,BV _ (dr L a6) (show (dr L a6).length≤20000 by simp;omega),Qa] at s6
      simp only [Qc,zp _ a60,il,jn,Qa]
      cases h2:tk ⟨#[103,114,111,117,112]⟩ (dr L a6) with
      |true=>
        simp only [h2,Bool.not_true,Qb] at s6
        simp only [Bool.not_true,Qb]
        exact av.2 ⟨[],a6,o6,rfl,s6.to (fun g _=>g) id,fun h=>(by simp at h),id⟩
      | false =>
        simp only [h2,Bool.not_false,Qc,tD,oi,bA] at s6
        simp only [Bool.not_false,Qc]
        obtain ⟨c,a7,o7,e7,s7,_,w7⟩:=qw s6 hk
        simp only [e7,Qa]
        have hble:Nat.ble (([]:List Int).length+ [c].length) 17592186044416=true:=rfl
        refine ah.2 ⟨hble,?_⟩
        dsimp only at s7
        simp only [hble,ckT,il,Qa,jk_l] at s7
        obtain ⟨body,s7,hb⟩:∃body:tVl→Option (tVl⊕(tVs⊕(tVo⊕Int))),St L a7 o7 (PF=Option.bind (aN body (1,nm,fr,wt,n1,n2,false,wh,[c],[],dr L a7,())) (jk P4 k)) (PF=fail)∧
            ∀ (pk : List Int) m,pk.length ≤ 40 → ∃ V,body ((pk.length : Int),nm,fr,wt,n1,n2,false,wh,pk,[],m,()) = Option.bind (aw.F ([⟨#[44]⟩],m,())) V ∧ (∀ m,V (false,m,()) = ir (.inl (m,nm,fr,wt,n1,n2,false,wh,pk,[],()))) ∧ (pk.length = 40 → ∀ m,V (true,m,()) = ir (.inr (.inr 70))) ∧
              (pk.length<40→∀m,∃Z,V (true,m,())=Option.bind (bI.F (m,())) Z∧(∀n,Z (.inr n)=ir (.inr (.inr n)))∧∀v m,Z (.inl (v,m,()))=il (((pk++ [v]).length:Int),nm,fr,wt,n1,n2,false,wh,pk++ [v],[],m,())):=by
          refine ⟨_,s7,fun pk m hp=>⟨_,rfl,fun m=>rfl,fun h m=>?_,fun h m=>?_⟩⟩
          · have:decide (wr (((40:Nat):Int)+1)≤(40:Int))=false:=by decide
            dsimp only
            simp only [Qc,h,this,iY,Qa]
          · have hw:wr ((pk.length:Int)+1)=((pk.length+1:Nat):Int):=by rw [bB (by omega) (by omega)];omega
            have hd:decide (((pk.length+1:Nat):Int)≤(40:Int))=true:=by simp;omega
            dsimp only
            simp only [Qc,hw,hd,jG,Qa,oi]
            refine ⟨_,rfl,fun n=>rfl,fun v m=>?_⟩
            have hble:Nat.ble (pk.length+ [v].length) 17592186044416=true:=by simp;omega
            dsimp only
            simp only [hble,ckT,List.length_append]
            rfl
        refine Tot.mono (uO (stR:=fun pk a ok=>(L,a,ok,nm,fr,wt,n1,n2,false,wh,pk,[],())) (exR:=fun pk a ok=> .inl (L,a,ok,nm,fr,wt,n1,n2,false,wh,pk,[],())) (stP:=fun pk m=>((pk.length:Int),nm,fr,wt,n1,n2,false,wh,pk,[],m,())) (EX:=fun pk m=>some (.inl (m,nm,fr,wt,n1,n2,false,wh,pk,[],()))) (s7.to (fun g (_:True)=>g) id) (fun h=>absurd trivial h) rfl ?_ ?_ ?_ ?_ ?_) ?_
        · intro _ pk m hm ht hp
          obtain ⟨V,v1,v2,v3,v4⟩:=hb pk m hp
          rw [v1,kz _ m hm,ht,Qa,v2]
          rfl
        · intro _ pk m hm ht h
          obtain ⟨V,v1,v2,v3,v4⟩:=hb pk m (by omega)
          rw [v1,kz _ m hm,ht,Qa,v3 h]
          exact hk
        · intro pk a
          rfl
        · intro pk a h0 ht
          dsimp only
          simp only [Qc,iI _ h0 a6l,Qa,ht,Qb]
        · intro pk a h0 h1 ht hc s8
          obtain ⟨Z,s9,z1,z2⟩:∃Z:((Int×List aX×Unit)⊕Int)→Option (tVl⊕(tVs⊕(tVo⊕Int))),St L (a+1) true (pk.length<40→PF=Option.bind (bI.F (dr L (a+1),())) fun v=>lp body (jk P4 k) (Z v)) (pk.length<40→PF=fail)∧(pk.length<40→∀n,Z (.inr n)=ir (.inr (.inr n)))∧(pk.length<40→∀v m,Z (.inl (v,m,()))=il (((pk++ [v]).length:Int),nm,fr,wt,n1,n2,false,wh,pk++ [v],[],m,())):=by
            by_cases h:pk.length<40
            · obtain ⟨V,v1,v2,v3,v4⟩:=hb pk (dr L a) (by omega)
              obtain ⟨Z,g1,g2,g3⟩:=v4 h (dr L (a+1))
              refine ⟨Z,s8.to (fun g h=>?_) (fun g h=>g ⟨trivial,h⟩),fun _=>g2,fun _=>g3⟩
              rw [g ⟨trivial,h⟩,v1,tkP h0 a6l,ht,Qa]
              simp only [Qc]
              rw [g1,tC]
            · exact ⟨fun _=>none,s8.of h,fun g=>absurd g h,fun g=>absurd g h⟩
          obtain ⟨v,a8,o8,e8,s8,l8,w8⟩:=col_d s9 (fun h=>by rw [z1 h];exact hk)
          refine ⟨v,a8,o8,?_,s8.to (fun g h=>?_) (fun g h=>g h.2),l8⟩
          · have hble:Nat.ble (pk.length+ [v].length) 17592186044416=true:=by simp;omega
            dsimp only
            simp only [Qc,iI _ h0 a6l,Qa,ht,e8,hble,ckT]
            rfl
          · rw [g h.2,z2 h.2,lp_l]
        · rintro _ ⟨pk,a',ok',rfl,h1,h2,h3⟩
          exact ⟨pk,a',ok',rfl,h1.to (fun g h=>g ⟨trivial,h⟩) id,h2,fun e=>w7 (h3 e)⟩
  rintro _ ⟨pk,a7,o7,rfl,s7,i7,w7⟩
  replace gw:∀n∈wh,o7=true→Sg n:=fun n hn e=>gw n hn (w7 e)
  rw [hP4] at s7
  dsimp only at s7 ⊢
  have a70:=s7.a0
  have a71:=s7.a1
  simp only [tkP s7.a0 s7.l,Qa] at s7
  simp only [iI _ a70 a6l,Qa]
  refine aY (fun x=>∃g ag a' ok',x=(L,a',ok',nm,fr,wt,n1,n2,g,wh,pk,ag,())∧St L a' ok' (pk.length≤40∧ag.length≤40→PF=k (.inl (nm,fr,wt,n1,n2,g,dr L a',wh,pk,ag,()))) (PF=fail)∧(40<pk.length∨40<ag.length→PF=fail)∧(ok'=true→o7=true)) ?_ ?_
  rotate_left 1
  · rintro _ ⟨g,ag,a6,o6,rfl,s6,i6,w6⟩
    dsimp only
    refine ac.2 ⟨fun h=>ai.2 ⟨_,_,_,_,_,_,_,_,_,a6,false,rfl,s6.up s6.a0 s6.a1 (fun e=>by cases e) fun _=>i6 (.inl (by simp at h;omega)),fun _ _ e=>by cases e⟩,fun h=>ac.2 ⟨fun h2=>ai.2 ⟨_,_,_,_,_,_,_,_,_,a6,false,rfl,s6.up s6.a0 s6.a1 (fun e=>by cases e) fun _=>i6 (.inr (by simp at h2;omega)),fun _ _ e=>by cases e⟩,fun h2=>ai.2 ⟨_,_,_,_,_,_,_,_,_,a6,o6,rfl,s6.to (fun g=>g ⟨by simp at h;omega,by simp at h2;omega⟩) id,fun n hn e=>gw n hn (w6 e)⟩⟩⟩
  cases hg:tk ⟨#[103,114,111,117,112]⟩ (dr L a7) with
  |false=>
    simp only [hg,Qb,Qa] at s7
    simp only [Qb,il,jn,Qa]
    exact av.2 ⟨false,[],a7,o7,rfl,s7.to (fun g h=>g h.1) id,fun h=>i7 (by simp at h;omega),id⟩
  |true=>
    have hlt:=pC hg
    simp only [hg,Qc] at s7
    rw [zx (by omega) (by omega)] at s7
    simp only [Qc,il,jn,Qa]
    have s8:=s7.up (a':=a7+1) (by omega) (by omega) s7.g s7.h
    cases h1:decide (a7+1<(L.length:Int)) with
    |false=>
      simp only [h1,Qb,Qa] at s8
      simp only [Qb]
      exact av.2 ⟨true,[],a7+1,o7,rfl,s8.to (fun g h=>g h.1) id,fun h=>i7 (by simp at h;omega),id⟩
    |true=>
      simp only [h1,Qc,tD] at s8
      simp only [Qc]
      obtain ⟨LP,hLP,s8⟩:=s8.abN (T:=Unit)
      simp only [bA] at s8
      obtain ⟨v,c,a9,o9,e9,s9,_,w9⟩:=BX (k2:=fun v z=>match z with
        | .inl y=>Option.bind (LP (nm,fr,wt,n1,n2,true,wh,pk,[(v,y.1)],y.2.1,())) k
        | .inr n=>k (.inr n)) (E:=fun v c m=>Option.bind (LP (nm,fr,wt,n1,n2,true,wh,pk,[(v,c)],m,())) k) (s8.to id fun g _=>g) (fun _=>hk) (fun _ v m=>by
          dsimp only
          cases v !=(0:Int) with
          |false=>rfl
          |true=>
            simp only [Qc]
            rw [bA]
            congr 1
            funext z
            rcases z with z|n<;>rfl) (fun _ _=>hk) (fun _ _ _ _=>rfl)
      simp only [e9,Qa]
      refine ah.2 ⟨rfl,?_⟩
      rw [hLP] at s9
      dsimp only at s9
      have s9':St L a9 o9 _ (PF=fail):=s9.up s9.a0 s9.a1 s9.g fun e=>by
        by_cases h:pk.length≤40
        · exact s9.h e h
        · exact i7 (by omega)
      obtain ⟨body,s10,hb⟩:∃body:tVl→Option (tVl⊕(tVo⊕Int)),St L a9 o9 (pk.length≤40→PF=Option.bind (aN body (1,nm,fr,wt,n1,n2,true,wh,pk,[(v,c)],dr L a9,())) k) (PF=fail)∧
          ∀ (ag : List cU) m,ag.length ≤ 40 → ∃ V,body ((ag.length : Int),nm,fr,wt,n1,n2,true,wh,pk,ag,m,()) = Option.bind (aw.F ([⟨#[44]⟩],m,())) V ∧ (∀ m,V (false,m,()) = ir (.inl (nm,fr,wt,n1,n2,true,m,wh,pk,ag,()))) ∧ (ag.length = 40 → ∀ m,V (true,m,()) = ir (.inr 70)) ∧
            (ag.length<40→∀m,∃(k1:((Int×List aX×Unit)⊕Int)→Option (tVl⊕(tVo⊕Int))) (k2:Int→((Int×List aX×Unit)⊕Int)→Option (tVl⊕(tVo⊕Int))),V (true,m,())=Option.bind (bS.F ([⟨#[99,111,117,110,116]⟩,⟨#[115,117,109]⟩,⟨#[109,105,110]⟩,⟨#[109,97,120]⟩],m,())) k1∧k1 (.inr 70)=ir (.inr 70)∧(∀v m,k1 (.inl (v,m,()))=bif (v !=0) then Option.bind (bI.F (m,())) (k2 v) else il (((ag++ [(v,(0:Int))]).length:Int),nm,fr,wt,n1,n2,true,wh,pk,ag++ [(v,0)],m,()))∧(∀v,k2 v (.inr 70)=ir (.inr 70))∧
              ∀v c m,k2 v (.inl (c,m,()))=il (((ag++ [(v,c)]).length:Int),nm,fr,wt,n1,n2,true,wh,pk,ag++ [(v,c)],m,())):=by
        refine ⟨_,s9',fun ag m hp=>⟨_,rfl,fun m=>rfl,fun h m=>?_,fun h m=>?_⟩⟩
        · have:decide (wr (((40:Nat):Int)+1)≤(40:Int))=false:=by decide
          dsimp only
          simp only [Qc,h,this,iY,Qa]
        · have hw:wr ((ag.length:Int)+1)=((ag.length+1:Nat):Int):=by rw [bB (by omega) (by omega)];omega
          have hd:decide (((ag.length+1:Nat):Int)≤(40:Int))=true:=by simp;omega
          have hble:∀x:cU,Nat.ble (ag.length+ [x].length) 8796093022208=true:=fun x=>by simp;omega
          dsimp only
          simp only [Qc,hw,hd,jG,Qa,hble,ckT]
          refine ⟨_,fun v z=>match z with
            | .inl y=>il (((ag++ [(v,y.1)]).length:Int),nm,fr,wt,n1,n2,true,wh,pk,ag++ [(v,y.1)],y.2.1,())
            | .inr n=>ir (.inr n),rfl,rfl,fun v m=>?_,fun v=>rfl,fun v c m=>rfl⟩
          dsimp only
          simp only [List.length_append]
          cases v !=(0:Int) with
          |false=>rfl
          |true=>
            simp only [Qc]
            congr 1
      refine Tot.mono (uO (stR:=fun ag a ok=>(L,a,ok,nm,fr,wt,n1,n2,true,wh,pk,ag,())) (exR:=fun ag a ok=> .inl (L,a,ok,nm,fr,wt,n1,n2,true,wh,pk,ag,())) (stP:=fun ag m=>((ag.length:Int),nm,fr,wt,n1,n2,true,wh,pk,ag,m,())) (EX:=fun ag m=>some (.inl (nm,fr,wt,n1,n2,true,m,wh,pk,ag,()))) s10 (fun h=>i7 (by omega)) rfl ?_ ?_ ?_ ?_ ?_) ?_
      · intro _ ag m hm ht hp
        obtain ⟨V,v1,v2,v3,v4⟩:=hb ag m hp
        rw [v1,kz _ m hm,ht,Qa,v2]
        rfl
      · intro _ ag m hm ht h
        obtain ⟨V,v1,v2,v3,v4⟩:=hb ag m (by omega)
        rw [v1,kz _ m hm,ht,Qa,v3 h]
        exact hk
      · intro ag a
        rfl
      · intro ag a h0 ht
        dsimp only
        simp only [Qc,iI _ h0 a6l,Qa,ht,Qb]
      · intro ag a h0 h1 ht hc s11
        obtain ⟨k1,k2,s12,g2,g3,g4,g5⟩:∃(k1:((Int×List aX×Unit)⊕Int)→Option A) (k2:Int→((Int×List aX×Unit)⊕Int)→Option A),St L (a+1) true (pk.length≤40∧ag.length<40→PF=Option.bind (bS.F ([⟨#[99,111,117,110,116]⟩,⟨#[115,117,109]⟩,⟨#[109,105,110]⟩,⟨#[109,97,120]⟩],dr L (a+1),())) k1) (pk.length≤40∧ag.length<40→PF=fail)∧
            (pk.length≤40∧ag.length<40→k1 (.inr 70)=fail)∧(pk.length≤40∧ag.length<40→∀v m,k1 (.inl (v,m,()))=bif (v !=0) then Option.bind (bI.F (m,())) (k2 v) else Option.bind (aN body (((ag++ [(v,(0:Int))]).length:Int),nm,fr,wt,n1,n2,true,wh,pk,ag++ [(v,0)],m,())) k)∧(pk.length≤40∧ag.length<40→∀v,k2 v (.inr 70)=fail)∧
            (pk.length≤40∧ag.length<40→∀v c m,k2 v (.inl (c,m,()))=Option.bind (aN body (((ag++ [(v,c)]).length:Int),nm,fr,wt,n1,n2,true,wh,pk,ag++ [(v,c)],m,())) k):=by
          by_cases h:pk.length≤40∧ag.length<40
          · obtain ⟨V,v1,v2,v3,v4⟩:=hb ag (dr L a) (by omega)
            obtain ⟨k1,k2,g1,g2,g3,g4,g5⟩:=v4 h.2 (dr L (a+1))
            refine ⟨fun v=>lp body k (k1 v),fun v z=>lp body k (k2 v z),s11.to (fun g h=>?_) id,fun _=>?_,fun _ v m=>?_,fun _ v=>?_,fun _ v c m=>?_⟩
            · rw [g h,v1,tkP h0 a6l,ht,Qa]
              simp only [Qc]
              rw [g1,tC]
            · dsimp only;rw [g2];exact hk
            · dsimp only
              rw [g3]
              cases v !=(0:Int) with
              |false=>rfl
              |true=>exact tC _ _
            · dsimp only;rw [g4];exact hk
            · dsimp only;rw [g5,lp_l]
          · exact ⟨fun _=>none,fun _ _=>none,s11.of h,fun g=>absurd g h,fun g=>absurd g h,fun g=>absurd g h,fun g=>absurd g h⟩
        obtain ⟨v,c,a8,o8,e8,s8,l8,w8⟩:=BX s12 g2 g3 g4 g5
        refine ⟨(v,c),a8,o8,?_,s8,l8⟩
        have hble:Nat.ble (ag.length+ [(v,c)].length) 8796093022208=true:=by simp;omega
        dsimp only
        simp only [Qc,iI _ h0 a6l,Qa,ht,e8,hble,ckT]
        rfl
      · rintro _ ⟨ag,a',ok',rfl,h1,h2,h3⟩
        exact ⟨true,ag,a',ok',rfl,h1,fun h=>h.elim (fun h=>i7 h) h2,fun e=>w9 (h3 e)⟩
end Go.Proofs.Ytpoffnlnhdbpmaa
end
section
set_option maxRecDepth 100000
namespace Go.Proofs.Ytpoffnlnhdbpmaa
open Go Lv Go.Proofs Go.RowKit Go.Shelf
variable [Lk]
theorem Bd (s : ByteArray) : Tot (eJ.F (s,())) fun y => cB.F (s,()) = some y ∧ (y.2.2.2.2.2.2.2.2.1 = 0 → (∀ e ∈ y.2.2.2.2.2.2.2.2.2.2.1,∀ n ∈ e,Sg n) ∧ ∀ n ∈ y.2.2.2.2.2.2.2.2.2.2.2.1,Sg n) := by
  rw [eJ.eq,cB.eq];unfold eJ.B cB.B
  obtain ⟨⟨e,L,_⟩,hR,⟨hL,ht⟩,hP⟩:=lex_x s
  dsimp only at hL ht hP ⊢
  simp only [hR,hP,Qa]
  cases he:(e !=(0:Int)) with
  |true=>exact ai.2 ⟨rfl,by simp⟩
  |false=>
    simp only [Qb]
    generalize hPF:Option.bind (bS.F ([⟨#[116,97,98,108,101]⟩,⟨#[118,105,101,119]⟩],L,())) _=PF
    have s0:St L 0 true (PF=Option.bind (bS.F ([⟨#[116,97,98,108,101]⟩,⟨#[118,105,101,119]⟩],dr L 0,())) _) (PF=some ((0:Int),e0,e0,e0,e0,(0:Int),(0:Int),false,(70:Int),[],[],[],[],[],())):=⟨hL,ht,by omega,by omega,fun _=>hPF.symm,fun e=>by cases e⟩
    obtain ⟨v,a1,o1,e1,s1,_,_⟩:=vY s0 rfl (by simp)
    simp only [e1,Qa]
    refine aY (fun x=>∃k1 n2 n3 n4 n5 d1 d2 g cs es wh pk ag a o,x=(L,a,o,k1,n2,n3,n4,n5,d1,d2,g,cs,es,wh,pk,ag,())∧(o=false→PF=some ((0:Int),e0,e0,e0,e0,(0:Int),(0:Int),false,(70:Int),[],[],[],[],[],()))∧(o=true→(∀e∈es,∀n∈e,Sg n)∧(∀n∈wh,Sg n)∧PF=bif decide (a<(L.length:Int)) then some ((0:Int),e0,e0,e0,e0,(0:Int),(0:Int),false,(70:Int),[],[],[],[],[],()) else some (k1,n2,n3,n4,n5,d1,d2,g,(0:Int),cs,es,wh,pk,ag,()))) ?_ ?_
    rotate_left 1
    · rintro _ ⟨k1,n2,n3,n4,n5,d1,d2,g,cs,es,wh,pk,ag,a,o,rfl,h1,h2⟩
      dsimp only
      cases o with
      |false=>exact ai.2 ⟨h1 rfl,fun h=>by cases h⟩
      |true=>
        obtain ⟨g1,g2,h2⟩:=h2 rfl
        simp only [Bool.not_true,Qb]
        cases hd:decide (a<(L.length:Int)) with
        |true=>rw [hd] at h2;exact ai.2 ⟨h2,fun h=>by cases h⟩
        |false=>rw [hd] at h2;exact ai.2 ⟨h2,fun _=>⟨g1,g2⟩⟩
    have zl:∀a:Int,0≤a→a≤(L.length:Int)→(((dr L a).length:Int)==(0:Int))= !decide (a<(L.length:Int)):=fun a h0 h1=>by
      rw [Bool.eq_iff_iff]
      simp
      omega
    cases o1 with
    |false=>
      simp only [Qb,il,jn,Qa]
      exact av.2 ⟨_,_,_,_,_,_,_,_,_,_,_,_,_,a1,false,rfl,s1.h,fun h=>by cases h⟩
    |true=>
      simp only [Qc,il,jn,Qa]
      cases hv:(v==(0:Int)) with
      |true=>
        simp only [hv,Qc] at s1
        obtain ⟨nm,cs,es,a2,o2,e2,s2,g2⟩:=Bc s1 rfl
        simp only [Qc,e2,Qa]
        refine av.2 ⟨_,_,_,_,_,_,_,_,_,_,_,_,_,a2,o2,rfl,s2.h,fun h=>⟨g2 h,by simp,?_⟩⟩
        have g:=s2.g h
        dsimp only at g
        rw [g,zl _ s2.a0 s2.a1]
        cases decide (a2<(L.length:Int)) with
        |true=>simp only [Bool.not_true,iY,Qa,Qc]
        |false=>simp only [Bool.not_false,jG,Qa,Qb]
      |false=>
        simp only [hv,Qb] at s1
        obtain ⟨n,f,w,d1,d2,g,wh,pk,ag,a2,o2,e2,s2,g2⟩:=C2 s1 rfl
        simp only [Qb,Qc,e2,Qa]
        refine av.2 ⟨_,_,_,_,_,_,_,_,_,_,_,_,_,a2,o2,rfl,s2.h,fun h=>⟨by simp,fun n hn=>g2 n hn h,?_⟩⟩
        have g:=s2.g h
        dsimp only at g
        rw [g,zl _ s2.a0 s2.a1]
        cases decide (a2<(L.length:Int)) with
        |true=>simp only [Bool.not_true,iY,Qa,Qc]
        |false=>simp only [Bool.not_false,jG,Qa,Qb]
omit [Lk] in
theorem tF : ∀ s : List UInt8,(Lib.index s [39] = -1 ∧ (39 : UInt8) ∉ s) ∨ ∃ a r,s = a ++ 39 :: r ∧ (39 : UInt8) ∉ a ∧ Lib.index s [39] = a.length := by
  intro s
  induction s with
  |nil=>left;exact ⟨rfl,by simp⟩
  |cons c l ih=>
    by_cases h:c=39
    · right
      subst h
      exact ⟨[],l,rfl,by simp,by simp [Lib.index,List.isPrefixOf]⟩
    · have hp:([39]:List UInt8).isPrefixOf (c::l)=false:=by
        simp only [List.isPrefixOf,Bool.and_eq_false_iff]
        left
        simp;exact fun e=>h e.symm
      rcases ih with ⟨h1,h2⟩|⟨a,r,h1,h2,h3⟩
      · left
        refine ⟨?_,?_⟩
        · simp [Lib.index,hp,h1]
        · intro hm
          rcases List.mem_cons.1 hm with e|hm
          · exact h e.symm
          · exact h2 hm
      · right
        refine ⟨c::a,r,by rw [h1];rfl,?_,?_⟩
        · intro hm
          rcases List.mem_cons.1 hm with e|hm
          · exact h e.symm
          · exact h2 hm
        · have hn:¬Lib.index l [39]=-1:=by omega
          simp [Lib.index,hp,hn,h3]
def dbl:List UInt8→List UInt8
 | []=> []
 |c::r=>if c=39 then 39::39::dbl r else c::dbl r
omit [Lk] in
theorem vZ (a b:List UInt8):dbl (a++b)=dbl a++dbl b:=by
 induction a with
 |nil=>rfl
 |cons c a ih=>simp only [List.cons_append,dbl,ih];split<;>simp
omit [Lk] in
theorem tG {a:List UInt8} (h:(39:UInt8)∉a):dbl a=a:=by
 induction a with
 |nil=>rfl
 |cons c a ih=>
  have hc:¬c=39:=fun e=>h (by simp [e])
  simp only [dbl,if_neg hc]
  rw [ih (fun hm=>h (List.mem_cons_of_mem _ hm))]
omit [Lk] in
theorem Be : ∀ (n : Nat) (s : List UInt8),s.length ≤ n → ∀ f,s.length < f → Lib.replaceK [39] [39,39] (Lib.countFrom [39] f s) s = dbl s ∧ Lib.countFrom [39] f s ≤ s.length := by
  intro n
  induction n with
  |zero=>
    intro s hs f hf
    cases s with
    |cons _ _=>simp at hs
    |nil=>
      cases f with
      |zero=>simp at hf
      |succ f=>
        have:Lib.countFrom [39] (f+1) []=0:=by simp [Lib.countFrom,Lib.index]
        rw [this]
        exact ⟨rfl,Nat.le_refl _⟩
  |succ n ih=>
    intro s hs f hf
    cases f with
    |zero=>omega
    |succ f=>
      rcases tF s with ⟨h1,h2⟩|⟨a,r,h1,h2,h3⟩
      · have hc:Lib.countFrom [39] (f+1) s=0:=by simp [Lib.countFrom,h1]
        rw [hc]
        exact ⟨by rw [tG h2];rfl,by omega⟩
      · have hn:¬(Lib.index s [39]==-1)=true:=by rw [beq_iff_eq];omega
        have hd:s.drop ((Lib.index s [39]).toNat+1)=r:=by
          rw [h3,h1]
          simp only [Int.toNat_natCast]
          rw [show a.length+1=(a++ [39]).length by simp,show a++39::r=(a++ [39])++r by simp,List.drop_left]
        have hc:Lib.countFrom [39] (f+1) s=Lib.countFrom [39] f r+1:=by
          rw [Lib.countFrom,if_neg hn]
          rw [show ([39]:List UInt8).length=1 from rfl,hd,Nat.add_comm]
        have hl:s.length=a.length+1+r.length:=by rw [h1];simp;omega
        obtain ⟨i1,i2⟩:=ih r (by omega) f (by omega)
        rw [hc,Lib.replaceK_hit _ _ _ _ _ h3]
        have hd':s.drop (a.length+([39]:List UInt8).length)=r:=by rw [h3] at hd;simpa using hd
        rw [hd',i1]
        have ht:s.take a.length=a:=by rw [h1];simp
        refine ⟨?_,by omega⟩
        rw [ht,h1,vZ,tG h2]
        simp [dbl]
omit [Lk] in
theorem pE (s:List UInt8):Lib.replaceAll s [39] [39,39]=dbl s:=by
 unfold Lib.replaceAll Lib.replace
 have:(([39]:List UInt8)==[39,39])=false:=by decide
 rw [if_neg (by rw [this];simp)]
 have hn:Lib.replaceNum s [39] (-1)=Lib.count s [39]:=by unfold Lib.replaceNum;rw [if_pos (.inl (by decide))]
 rw [hn]
 exact (Be s.length s (Nat.le_refl _) _ (by omega)).1
omit [Lk] in
theorem tH (a:List UInt8) (c:UInt8):dbl (a++ [c])=dbl a++(if c=39 then [39,39] else [c]):=by
 rw [vZ]
 congr 1
def quo (s:ByteArray):ByteArray:=bs ([39]++dbl (bl s)++ [39])
theorem Bf (n : Int) (s : ByteArray) (hs : s.size ≤ 1000) : Par (eD.F (3,n,s,())) fun y => y.1 = quo s := by
  rw [eD.eq];unfold eD.B
  dsimp only
  simp only [show ((3:Int)==0)=false from rfl,show ((3:Int)==1)=false from rfl,show ((3:Int)==2)=false from rfl,show ((3:Int)==3)=true from rfl,Qc,Qb]
  refine gB (fun x=>bl x.1=39::dbl (bl s)) ?_ fun x hx=>ay fun _=>aF (jq ?_)
  · refine iz (fun x=>∃i:Nat,x.2.1=(i:Int)∧i≤s.size∧bl x.1=39::dbl ((bl s).take i)) ⟨0,rfl,by omega,rfl⟩ ?_
    rintro ⟨t,_,_⟩ ⟨i,rfl,i1,i2⟩
    dsimp only at i2 ⊢
    have hl:(bl s).length=s.size:=Array.length_toList
    refine aj (fun h5=>?_) fun h5=>aL ?_
    · simp at h5
      have hw:wr ((i:Int)+1)=((i+1:Nat):Int):=by rw [bB (by omega) (by omega)];omega
      have ht:(bl s).take (i+1)=(bl s).take i++ [(bl s)[i]'(by omega)]:=(List.take_append_getElem (by omega)).symm
      have hb:bM s i=((bl s)[i]'(by omega)).toNat:=(js (List.drop_eq_getElem_cons (by omega))).1
      have he:bl (s.extract i (i+1))=[(bl s)[i]'(by omega)]:=by
        rw [iH,List.drop_eq_getElem_cons (by omega),show i+1-i=1 by omega]
        rfl
      simp only [Int.toNat_natCast,hw]
      refine ay fun _=>aj (fun e=>ay fun _=>ay fun _=>ay fun _=>aC ⟨i+1,rfl,by omega,?_⟩) fun e=>ay fun _=>ay fun _=>aC ⟨i+1,rfl,by omega,?_⟩
      · have e:bM s i=39:=by simpa using e
        have hc:(bl s)[i]'(by omega)=39:=UInt8.toNat_inj.1 (by rw [hb] at e;have:(39:UInt8).toNat=39:=rfl;omega)
        dsimp only
        rw [ee,ee,he,i2,ht,tH,hc]
        simp [bl]
      · have e:bM s i≠39:=by simpa using e
        have hc:¬(bl s)[i]'(by omega)=39:=fun g=>e (by rw [hb,g];rfl)
        dsimp only
        rw [ee,he,i2,ht,tH,if_neg hc]
        rfl
    · simp at h5
      dsimp only
      rw [i2,List.take_of_length_le (by omega)]
  · rw [ee,hx]
    rfl
theorem xi (s:ByteArray) (hs:s.size≤1000):Par (α:=ByteArray×Unit) (strings_ReplaceAll.F (s,⟨#[39]⟩,⟨#[39,39]⟩,())) fun y=>y.1=bs (dbl (bl s)):=by
 rw [strings_ReplaceAll.eq]
 show Par (α:=ByteArray×Unit) (if s.size<4294967281∧1≤(⟨#[39]⟩:ByteArray).size∧s.size+Lib.countB s ⟨#[39]⟩*(⟨#[39,39]⟩:ByteArray).size≤140737488355328 then some (lU s ⟨#[39]⟩ ⟨#[39,39]⟩,()) else none) _
 split
 ·refine aF ?_
  show bs (Lib.replaceAll (bl s) [39] [39,39])=_
  rw [pE]
 ·exact iL
theorem xj (n:Int) (s:ByteArray) (hs:s.size≤1000):Par (dM.F (3,n,s,())) fun y=>y.1=quo s:=by
 rw [dM.eq];unfold dM.B
 dsimp only
 simp only [show ((3:Int)==0)=false from rfl,show ((3:Int)==1)=false from rfl,show ((3:Int)==2)=false from rfl,show ((3:Int)==3)=true from rfl,Qc,Qb]
 refine bo ((xi s hs).mono fun y hy=>ay fun _=>ay fun _=>aF (jq ?_))
 rw [ee,ee,hy]
 rfl
def pkw (n:Int) (l:List ByteArray):ByteArray:=bif decide (n<0) then ⟨#[33]⟩ else bif decide (n≥(l.length:Int)) then ⟨#[33]⟩ else gt l n ⟨#[]⟩
theorem uP (n:Int) (l:List ByteArray):fg.F (n,l,())=some (pkw n l,()):=by
 rw [fg.eq];unfold fg.B pkw
 dsimp only
 cases h:decide (n<(0:Int)) with
 |true=>rfl
 |false=>
  cases h2:decide (n≥(l.length:Int)) with
  |true=>rfl
  |false=>
   have:ib n (l.length:Int)=true:=by simp at h h2 ⊢;omega
   simp only [Qb,this,ckT]
theorem ry (n:Int) (l:List ByteArray):fd.F (n,l,())=some (pkw n l,()):=by
 rw [fd.eq];unfold fd.B pkw
 dsimp only
 cases h:decide (n<(0:Int)) with
 |true=>rfl
 |false=>
  cases h2:decide (n≥(l.length:Int)) with
  |true=>rfl
  |false=>
   have:ib n (l.length:Int)=true:=by simp at h h2 ⊢;omega
   simp only [Qb,this,ckT]
abbrev W9:List ByteArray:=[⟨#[43]⟩,⟨#[45]⟩,⟨#[42]⟩,⟨#[61]⟩,⟨#[60]⟩,⟨#[97,110,100]⟩,⟨#[111,114]⟩,⟨#[110,111,116]⟩,⟨#[110,117,108,108,32,63]⟩]
noncomputable def vw (v:ap):ByteArray:=bif v.1==0 then ⟨#[110,117,108,108]⟩ else bif v.1==1 then (bif v.2.1==0 then ⟨#[102,97,108,115,101]⟩ else ⟨#[116,114,117,101]⟩) else bif v.1==2 then dB v.2.1 else quo v.2.2
noncomputable def sw (n:ak):ByteArray:=bif n.1==0 then (⟨#[99]⟩:ByteArray)++dB n.2.1 else bif n.1==1 then vw n.2.2 else pkw (n.1-2) W9
theorem Bg (v:ap) (h:Mv v):Par (eD.F (v.1,v.2.1,v.2.2,())) fun y=>y.1=vw v:=by
 rcases h with rfl|rfl|rfl|⟨h1,h2,h3⟩|⟨h1,h2,h3⟩
 ·rw [eD.eq];exact aF rfl
 ·rw [eD.eq];exact aF rfl
 ·rw [eD.eq];exact aF rfl
 ·obtain ⟨k,n,s⟩:=v
  dsimp only at h1 h2 h3
  subst h1 h3
  rw [eD.eq];unfold eD.B
  exact bo (jg (jm n h2) (aF rfl))
 ·obtain ⟨k,n,s⟩:=v
  dsimp only at h1 h2 h3
  subst h1 h2
  exact Bf 0 s h3
def cw (l:List ByteArray):List UInt8:=l.flatMap fun w=>32::bl w
omit [Lk] in
theorem rz (a b:List ByteArray):cw (a++b)=cw a++cw b:=List.flatMap_append
theorem zy (w:ByteArray) (l:List ByteArray):Par (α:=ByteArray×Unit) (strings_Join.F (w::l,(⟨#[32]⟩:ByteArray),())) fun y=>bl y.1=bl w++cw l:=by
 rw [strings_Join.eq]
 show Par (α:=ByteArray×Unit) (if (w::l).length≤140737488355328∧(jr (w::l) ⟨#[32]⟩).size≤140737488355328 then some (jr (w::l) ⟨#[32]⟩,()) else none) _
 split
 ·refine aF ?_
  show Lib.join (bl w::l.map bl) [32]=_
  rw [Lib.join_cons]
  simp [Lib.joinTail,cw,List.flatMap,Function.comp_def]
 ·exact iL
theorem zz (t:aX) (w:ByteArray) (h1:t.1=1) (h2:fj.F (1,t.2.1,t.2.2.1,t.2.2.2.1,t.2.2.2.2,())=some (true,())) (h3:Par (dM.F (t.2.2.1,t.2.2.2.1,t.2.2.2.2,())) fun y=>y.1=w):Par (dZ.F ([t],())) fun y=>y.1=w:=by
 rw [dZ.eq];unfold dZ.B
 refine gB (fun x=>x.1=[w]) ?_ ?_
 ·refine iz (fun x=>x.1=0∧x.2.1=[]∨x.1=1∧x.2.1=[w]) (.inl ⟨rfl,rfl⟩) ?_
  rintro ⟨i,l,_⟩ hx
  dsimp only at hx ⊢
  rcases hx with ⟨rfl,rfl⟩|⟨rfl,rfl⟩
  ·refine aj (fun _=>ay fun _=>?_) fun h=>by cases h
   have hg:gt [t] (0:Int) dS.z=t:=rfl
   simp only [hg,h1,h2,Qa,Bool.not_true,Qb,show ((1:Int)==1)=true from rfl,Qc]
   exact bo (h3.mono fun y hy=>ay fun _=>aC (.inr ⟨rfl,by rw [hy];rfl⟩))
  ·exact aj (fun h=>by cases h) fun _=>aL rfl
 ·rintro ⟨l,_⟩ h
  dsimp only at h ⊢
  subst h
  exact bo ((zy w []).mono fun y hy=>aF (jq (by rw [hy];simp [cw])))
theorem Bh (v:ap) (h:Mv v):Par (α:=ByteArray×Unit) (cZ.F (v.1,v.2.1,v.2.2,())) fun y=>y.1=vw v:=by
 rw [cZ.eq]
 obtain ⟨a,b,s⟩:=v
 show Par (α:=ByteArray×Unit) (bif (a==(0:Int))&&(b==(0:Int))&&(s==(⟨#[]⟩:ByteArray)) then some ((⟨#[110,117,108,108]⟩:ByteArray),())
  else bif (a==(1:Int))&&(b==(0:Int))&&(s==(⟨#[]⟩:ByteArray)) then some ((⟨#[102,97,108,115,101]⟩:ByteArray),())
  else bif (a==(1:Int))&&(b==(1:Int))&&(s==(⟨#[]⟩:ByteArray)) then some ((⟨#[116,114,117,101]⟩:ByteArray),())
  else Option.bind (fj.F ((1:Int),(⟨#[]⟩:ByteArray),a,b,s,())) fun y=>
  bif (!y.1) then some ((⟨#[33]⟩:ByteArray),()) else Option.bind (dZ.F ([((1:Int),(⟨#[]⟩:ByteArray),a,b,s)],())) fun z=>some (z.1,())) _
 have lm:∀(a b:Int) (s:ByteArray),dz.F (a,b,s,())=some (true,())→2≤a→fj.F ((1:Int),(⟨#[]⟩:ByteArray),a,b,s,())=some (true,()):=fun a b s h1 h2=>by
  rw [fj.eq];unfold fj.B
  dsimp only
  simp only [show ((1:Int)==0)=false from rfl,show ((1:Int)==1)=true from rfl,Qb,Qc,show sq (⟨#[]⟩:ByteArray) ⟨#[]⟩=true from eW.2 rfl,h1,Qa]
  rw [decide_eq_true h2]
 have be:((⟨#[]⟩:ByteArray)==⟨#[]⟩)=true:=by simp [MapKept.bytes_beq]
 rcases h with h|h|h|⟨h1,h2,h3⟩|⟨h1,h2,h3⟩
 ·cases h
  simp only [be]
  exact aF rfl
 ·cases h
  simp only [be]
  exact aF rfl
 ·cases h
  simp only [be]
  exact aF rfl
 ·dsimp only at h1 h2 h3
  subst h1 h3
  simp only [show ((2:Int)==0)=false from rfl,show ((2:Int)==1)=false from rfl,Bool.false_and,Qb]
  have hm:fj.F ((1:Int),(⟨#[]⟩:ByteArray),2,b,⟨#[]⟩,())=some (true,()):=lm 2 b _ (by rw [dz.eq];unfold dz.B;simp [sq]) (by omega)
  rw [hm]
  refine bo (jg rfl (bo (Par.mono (zz ((1:Int),(⟨#[]⟩:ByteArray),2,b,⟨#[]⟩) (dB b) rfl hm ?_) fun y hy=>aF hy)))
  rw [dM.eq];unfold dM.B
  dsimp only
  simp only [show ((2:Int)==0)=false from rfl,show ((2:Int)==1)=false from rfl,show ((2:Int)==2)=true from rfl,Qb,Qc]
  rw [ol b h2]
  exact aF rfl
 ·dsimp only at h1 h2 h3
  subst h1 h2
  simp only [show ((3:Int)==0)=false from rfl,show ((3:Int)==1)=false from rfl,Bool.false_and,Qb]
  have hm:fj.F ((1:Int),(⟨#[]⟩:ByteArray),3,0,s,())=some (true,()):=lm 3 0 s (by rw [BT,decide_eq_true h3]) (by omega)
  rw [hm]
  exact bo (jg rfl (bo (Par.mono (zz ((1:Int),(⟨#[]⟩:ByteArray),3,0,s) (quo s) rfl hm (xj 0 s h3)) fun y hy=>aF hy)))
def wsL {α:Type} (z:α) (f:α→List ByteArray) (l:List α) (i:Nat):List ByteArray:=(List.range i).flatMap fun (j:Nat)=>f (gt l (j:Int) z)
def wsC {α:Type} (z:α) (f:α→List ByteArray) (l:List α) (i:Nat):List ByteArray:=(List.range i).flatMap fun (j:Nat)=>(bif decide ((j:Int)>(0:Int)) then [(⟨#[44]⟩:ByteArray)] else [])++f (gt l (j:Int) z)
omit [Lk] in
theorem wa {α:Type} (z:α) (f:α→List ByteArray) (l:List α) (i:Nat):wsL z f l (i+1)=wsL z f l i++f (gt l (i:Int) z):=by
 simp [wsL,List.range_succ,List.flatMap_append]
omit [Lk] in
theorem nq {α:Type} (z:α) (f:α→List ByteArray) (l:List α) (i:Nat):wsC z f l (i+1)=wsC z f l i++((bif decide ((i:Int)>(0:Int)) then [(⟨#[44]⟩:ByteArray)] else [])++f (gt l (i:Int) z)):=by
 simp [wsC,List.range_succ,List.flatMap_append]
noncomputable def exw (e:List ak):List ByteArray:=[⟨#[91]⟩]++wsL bN.z (fun n=> [sw n]) e e.length++ [⟨#[93]⟩]
noncomputable def cow (c:aB):List ByteArray:=[c.1,pkw (wr (c.2.1-1)) [⟨#[98,111,111,108]⟩,⟨#[105,110,116]⟩,⟨#[116,101,120,116]⟩]]++(bif c.2.2.1 then [(⟨#[110,117,108,108]⟩:ByteArray)] else [])++(bif c.2.2.2.1 then [(⟨#[117,110,105,113,117,101]⟩:ByteArray)] else [])++
 (bif !sq c.2.2.2.2.1 (⟨#[]⟩:ByteArray) then [(⟨#[114,101,102]⟩:ByteArray),c.2.2.2.2.1,pkw c.2.2.2.2.2 [⟨#[114,101,115,116,114,105,99,116]⟩,⟨#[99,97,115,99,97,100,101]⟩,⟨#[115,101,116,110,117,108,108]⟩]] else [])
noncomputable def tbw (nm:ByteArray) (cs:List aB) (es:List (List ak)):List ByteArray:=[nm,⟨#[40]⟩]++wsC aV.z cow cs cs.length++ [⟨#[41]⟩]++wsL [] (fun e=>(⟨#[99,104,101,99,107]⟩:ByteArray)::exw e) es es.length
noncomputable def agw (x:cU):List ByteArray:=pkw x.1 [⟨#[99,111,117,110,116]⟩,⟨#[115,117,109]⟩,⟨#[109,105,110]⟩,⟨#[109,97,120]⟩]::(bif x.1 !=0 then [dB x.2] else [])
noncomputable def viw (n f w:ByteArray) (a b:Int) (e:List ak) (pk:List Int) (g:Bool) (ag:List cU):List ByteArray:=
 [n,⟨#[102,114,111,109]⟩,f]++(bif !sq w (⟨#[]⟩:ByteArray) then [(⟨#[106,111,105,110]⟩:ByteArray),w,⟨#[111,110]⟩,dB a,⟨#[61]⟩,dB b] else [])++(bif decide ((e.length:Int)>(0:Int)) then (⟨#[119,104,101,114,101]⟩:ByteArray)::exw e else [])++ [⟨#[112,105,99,107]⟩]++
  wsC 0 (fun x=> [dB x]) pk pk.length++(bif g then [(⟨#[103,114,111,117,112]⟩:ByteArray)] else [])++wsC ep.z agw ag ag.length
theorem kj (p l:List ByteArray):Par (bm.F (p,l,())) fun y=>y.1=l++p:=by
 rw [bm.eq]
 exact ay fun _=>aF rfl
theorem jX (b:Bool) (p l:List ByteArray):Par (bq.F (b,p,l,())) fun y=>y.1=l++bif b then p else []:=by
 rw [bq.eq];unfold bq.B
 exact aj (fun e=>bo ((kj p l).mono fun y hy=>aF (by rw [hy,e];rfl))) fun e=>aF (by rw [e];simp)
omit [Lk] in
theorem wrn {i n:Nat} (h:i<n) (hn:n≤1000000):wr ((i:Int)+1)=((i+1:Nat):Int):=by rw [bB (by omega) (by omega)];omega
theorem wb (e : List ak) (hl : e.length ≤ 1000000) (he : ∀ n ∈ e,Sg n) (l : List ByteArray) : Par (b9.F (e,l,())) fun y => y.1 = l ++ exw e := by
  rw [b9.eq];unfold b9.B
  refine bo ((kj _ l).mono fun y hy=>?_)
  refine gB (fun x=>x.1=l++([⟨#[91]⟩]++wsL bN.z (fun n=> [sw n]) e e.length)) ?_ fun x hx=>bo ((kj _ _).mono fun z hz=>aF ?_)
  · refine iz (fun x=>∃i:Nat,x.1=(i:Int)∧i≤e.length∧x.2.1=l++([⟨#[91]⟩]++wsL bN.z (fun n=> [sw n]) e i)) ⟨0,rfl,by omega,by rw [hy];rfl⟩ ?_
    rintro ⟨_,o,_⟩ ⟨i,rfl,i1,i2⟩
    dsimp only at i2 ⊢
    subst i2
    refine aj (fun h5=>ay fun _=>?_) fun h5=>aL ?_
    · simp at h5
      have hs:=he _ (d9 (z:=bN.z) (i:=(i:Int)) (by omega) (by omega))
      have hS:∀w,sw (gt e (i:Int) bN.z)=w→l++([⟨#[91]⟩]++wsL bN.z (fun n=> [sw n]) e i)++ [w]=l++([⟨#[91]⟩]++wsL bN.z (fun n=> [sw n]) e (i+1)):=fun w h=>by rw [wa,h];simp
      generalize gt e (i:Int) bN.z=n at hs hS ⊢
      simp only [wrn h5 hl]
      refine aj (fun e1=>?_) fun e1=>aj (fun e2=>?_) fun e2=>?_
      · have h0:I64 n.2.1:=by
          have e1:n.1=0:=by simpa using e1
          rcases hs with h|h|h
          · exact h.2
          · omega
          · omega
        rw [ol _ h0]
        refine ay fun _=>bo ((kj _ _).mono fun z hz=>aC ⟨i+1,rfl,by omega,?_⟩)
        rw [hz]
        exact hS _ (by unfold sw;rw [e1];rfl)
      · have h0:Mv n.2.2:=by
          have e2:n.1=1:=by simpa using e2
          rcases hs with h|h|h
          · omega
          · exact h.2
          · omega
        refine bo ((Bh _ h0).mono fun y hy=>bo ((kj _ _).mono fun z hz=>aC ⟨i+1,rfl,by omega,?_⟩))
        rw [hz]
        exact hS _ (by unfold sw;rw [e1,e2,hy];rfl)
      · have h0:2≤n.1∧n.1≤10:=by
          rcases hs with h|h|h
          · rw [h.1] at e1;cases e1
          · rw [h.1] at e2;cases e2
          · exact h
        have hw:wr (n.1-2)=n.1-2:=bB (by omega) (by omega)
        rw [hw]
        refine bo (jg (ry _ _) ?_)
        refine bo ((kj _ _).mono fun z hz=>aC ⟨i+1,rfl,by omega,?_⟩)
        rw [hz]
        exact hS _ (by unfold sw;rw [e1,e2];rfl)
    · simp at h5
      have:i=e.length:=by omega
      rw [this]
  · rw [hz,hx]
    simp [exw]
omit [Lk] in
theorem kP {S R:Type} {x:Option R} {P:S⊕R→Prop} (h:Par x fun y=>P (.inr y)):Par (Option.map Sum.inr x) P:=by
 cases x with
 |none=>exact iL
 |some y=>exact aF (h y rfl)
theorem zA (nm:ByteArray) (cs:List aB) (es:List (List ak)) (hc:cs.length≤400) (he:es.length≤400) (he2:∀e∈es,e.length≤1000000∧∀n∈e,Sg n):
 Par (bR.F (nm,cs,es,[],())) fun y=>y.1=(⟨#[116,97,98,108,101]⟩:ByteArray)::tbw nm cs es:=by
 rw [bR.eq];unfold bR.B
 refine bo ((kj _ _).mono fun y hy=>?_)
 refine iz (fun x=>∃i:Nat,x.1=(i:Int)∧i≤cs.length∧x.2.1=(⟨#[116,97,98,108,101]⟩:ByteArray)::([nm,⟨#[40]⟩]++wsC aV.z cow cs i)) ⟨0,rfl,by omega,by rw [hy];rfl⟩ ?_
 rintro ⟨_,o,_⟩ ⟨i,rfl,i1,i2⟩
 dsimp only at i2 ⊢
 subst i2
 refine aj (fun h5=>?_) fun h5=>?_
 ·simp at h5
  refine gB (fun x=>x.1=(⟨#[116,97,98,108,101]⟩:ByteArray)::([nm,⟨#[40]⟩]++wsC aV.z cow cs (i+1))) ?_ fun x hx=>aC ⟨i+1,wrn h5 (by omega),by omega,hx⟩
  refine bo ((jX _ _ _).mono fun a ha=>ay fun _=>?_)
  refine bo (jg (ry _ _) ?_)
  refine bo ((kj _ _).mono fun b hb=>bo ((jX _ _ _).mono fun c hc=>bo ((jX _ _ _).mono fun d hd=>?_)))
  refine bo (jg (ry _ _) ?_)
  refine bo ((jX _ _ _).mono fun f hf=>aC ?_)
  rw [hf,hd,hc,hb,ha,nq]
  simp [cow]
 ·simp at h5
  have:i=cs.length:=by omega
  subst this
  refine kP (bo ((kj _ _).mono fun z hz=>?_))
  refine iz (fun x=>∃j:Nat,x.1=(j:Int)∧j≤es.length∧x.2.1=(⟨#[116,97,98,108,101]⟩:ByteArray)::([nm,⟨#[40]⟩]++wsC aV.z cow cs cs.length++ [⟨#[41]⟩]++wsL [] (fun e=>(⟨#[99,104,101,99,107]⟩:ByteArray)::exw e) es j)) ⟨0,rfl,by omega,by rw [hz];simp [wsL]⟩ ?_
  rintro ⟨_,o,_⟩ ⟨j,rfl,j1,j2⟩
  dsimp only at j2 ⊢
  subst j2
  refine aj (fun h6=>ay fun _=>?_) fun h6=>aL ?_
  ·simp at h6
   obtain ⟨g1,g2⟩:=he2 _ (d9 (z:=[]) (i:=(j:Int)) (by omega) (by omega))
   refine bo ((kj _ _).mono fun a ha=>bo ((wb _ g1 g2 _).mono fun b hb=>aC ⟨j+1,wrn h6 (by omega),by omega,?_⟩))
   rw [hb,ha,wa]
   simp
  ·simp at h6
   have:j=es.length:=by omega
   subst this
   rfl
theorem Bj (n f w:ByteArray) (a b:Int) (e:List ak) (pk:List Int) (g:Bool) (ag:List cU) (ha:I64 a) (hb:I64 b) (he:e.length≤1000000) (he2:∀n∈e,Sg n)
 (hp:pk.length≤400) (hp2:∀x∈pk,I64 x) (hg:ag.length≤400) (hg2:∀x∈ag,I64 x.2):Par (bW.F (n,f,w,a,b,e,pk,g,ag,[],())) fun y=>y.1=(⟨#[118,105,101,119]⟩:ByteArray)::viw n f w a b e pk g ag:=by
 rw [bW.eq];unfold bW.B
 refine bo ((kj _ _).mono fun y hy=>?_)
 refine gB (fun x=>x.1=(⟨#[118,105,101,119]⟩:ByteArray)::([n,⟨#[102,114,111,109]⟩,f]++(bif !sq w (⟨#[]⟩:ByteArray) then [(⟨#[106,111,105,110]⟩:ByteArray),w,⟨#[111,110]⟩,dB a,⟨#[61]⟩,dB b] else []))) ?_ fun x hx=>?_
 ·refine ay fun _=>?_
  rw [ol _ ha]
  refine ay fun _=>?_
  rw [ol _ hb]
  exact bo ((jX _ _ _).mono fun z hz=>aC (by rw [hz,hy];rfl))
 refine gB (fun x=>x.1=(⟨#[118,105,101,119]⟩:ByteArray)::([n,⟨#[102,114,111,109]⟩,f]++(bif !sq w (⟨#[]⟩:ByteArray) then [(⟨#[106,111,105,110]⟩:ByteArray),w,⟨#[111,110]⟩,dB a,⟨#[61]⟩,dB b] else [])++(bif decide ((e.length:Int)>(0:Int)) then (⟨#[119,104,101,114,101]⟩:ByteArray)::exw e else []))) ?_ fun x hx=>?_
 ·refine aj (fun h=>bo ((kj _ _).mono fun z hz=>bo ((wb e he he2 _).mono fun u hu=>aC ?_))) fun h=>aC ?_
  ·rw [hu,hz,hx,h]
   simp
  ·rw [hx,h]
   simp
 refine bo ((kj _ _).mono fun z hz=>?_)
 generalize hB:([n,⟨#[102,114,111,109]⟩,f]++(bif !sq w (⟨#[]⟩:ByteArray) then [(⟨#[106,111,105,110]⟩:ByteArray),w,⟨#[111,110]⟩,dB a,⟨#[61]⟩,dB b] else [])++(bif decide ((e.length:Int)>(0:Int)) then (⟨#[119,104,101,114,101]⟩:ByteArray)::exw e else []))=BB at hx
 have hvw:viw n f w a b e pk g ag=BB++ [⟨#[112,105,99,107]⟩]++wsC 0 (fun x=> [dB x]) pk pk.length++(bif g then [(⟨#[103,114,111,117,112]⟩:ByteArray)] else [])++wsC ep.z agw ag ag.length:=by rw [←hB];rfl
 rw [hvw]
 refine iz (fun x=>∃i:Nat,x.1=(i:Int)∧i≤pk.length∧x.2.1=(⟨#[118,105,101,119]⟩:ByteArray)::(BB++ [⟨#[112,105,99,107]⟩]++wsC 0 (fun x=> [dB x]) pk i)) ⟨0,rfl,by omega,by rw [hz,hx];simp [wsC]⟩ ?_
 rintro ⟨_,o,_⟩ ⟨i,rfl,i1,i2⟩
 dsimp only at i2 ⊢
 subst i2
 refine aj (fun h5=>?_) fun h5=>?_
 ·simp at h5
  refine gB (fun x=>x.1=(⟨#[118,105,101,119]⟩:ByteArray)::(BB++ [⟨#[112,105,99,107]⟩]++wsC 0 (fun x=> [dB x]) pk (i+1))) ?_ fun x hx=>aC ⟨i+1,wrn h5 (by omega),by omega,hx⟩
  refine bo ((jX _ _ _).mono fun a ha=>ay fun _=>?_)
  rw [ol _ (hp2 _ (d9 (by omega) (by omega)))]
  refine bo ((kj _ _).mono fun b hb=>aC ?_)
  rw [hb,ha,nq]
  simp
 ·simp at h5
  have:i=pk.length:=by omega
  subst this
  refine kP (bo ((jX _ _ _).mono fun u hu=>?_))
  refine iz (fun x=>∃i:Nat,x.1=(i:Int)∧i≤ag.length∧x.2.1=(⟨#[118,105,101,119]⟩:ByteArray)::(BB++ [⟨#[112,105,99,107]⟩]++wsC 0 (fun x=> [dB x]) pk pk.length++(bif g then [(⟨#[103,114,111,117,112]⟩:ByteArray)] else [])++wsC ep.z agw ag i)) ⟨0,rfl,by omega,by rw [hu];simp [wsC]⟩ ?_
  rintro ⟨_,o,_⟩ ⟨i,rfl,i1,i2⟩
  dsimp only at i2 ⊢
  subst i2
  refine aj (fun h5=>?_) fun h5=>aL ?_
  ·simp at h5
   refine gB (fun x=>x.1=(⟨#[118,105,101,119]⟩:ByteArray)::(BB++ [⟨#[112,105,99,107]⟩]++wsC 0 (fun x=> [dB x]) pk pk.length++(bif g then [(⟨#[103,114,111,117,112]⟩:ByteArray)] else [])++wsC ep.z agw ag (i+1))) ?_ fun x hx=>aC ⟨i+1,wrn h5 (by omega),by omega,hx⟩
   refine bo ((jX _ _ _).mono fun a ha=>ay fun _=>?_)
   refine bo (jg (ry _ _) ?_)
   refine bo ((kj _ _).mono fun b hb=>?_)
   rw [ol _ (hg2 _ (d9 (by omega) (by omega)))]
   refine bo ((jX _ _ _).mono fun c hc=>aC ?_)
   rw [hc,hb,ha,nq]
   simp [agw]
  ·simp at h5
   have:i=ag.length:=by omega
   subst this
   rfl
abbrev W11:List ByteArray:=[⟨#[]⟩,⟨#[]⟩,⟨#[43]⟩,⟨#[45]⟩,⟨#[42]⟩,⟨#[61]⟩,⟨#[60]⟩,⟨#[97,110,100]⟩,⟨#[111,114]⟩,⟨#[110,111,116]⟩,⟨#[110,117,108,108,63]⟩]
omit [Lk] in
theorem w11 (o:Int) (h:2≤o) (h2:o≤9):List.getD W11 o.toNat (⟨#[]⟩:ByteArray)=pkw (o-2) W9:=by
 have:o=2∨o=3∨o=4∨o=5∨o=6∨o=7∨o=8∨o=9:=by omega
 rcases this with rfl|rfl|rfl|rfl|rfl|rfl|rfl|rfl<;>rfl
theorem zC (n : ak) (h : Sg n) (h10 : n.1 ≠ 10) : Par (ff.F ([n],())) fun y => y.1 = sw n := by
  rw [ff.eq];unfold ff.B
  refine iz (fun x=>x.2.1=0∧x.1=⟨#[]⟩∨x.2.1=1∧x.1=sw n) (.inl ⟨rfl,rfl⟩) ?_
  rintro ⟨t,i,_⟩ hx
  dsimp only at hx ⊢
  rcases hx with ⟨rfl,rfl⟩|⟨rfl,rfl⟩
  · refine aj (fun _=>?_) fun h=>by cases h
    have hg:gt [n] (0:Int) bN.z=n:=rfl
    have e0:∀w:ByteArray,(⟨#[]⟩:ByteArray)++w=w:=fun w=>jq (by rw [ee];rfl)
    refine gB (fun x=>x.1=⟨#[]⟩) (aj (fun h=>by cases h) fun _=>aC rfl) ?_
    rintro ⟨t,_⟩ ht
    dsimp only at ht ⊢
    subst ht
    simp only [hg,show wr ((0:Int)+1)=1 from by decide]
    refine ay fun _=>aj (fun e1=>?_) fun e1=>aj (fun e2=>?_) fun e2=>?_
    · have h0:I64 n.2.1:=by
        have e1:n.1=0:=by simpa using e1
        rcases h with h|h|h
        · exact h.2
        · omega
        · omega
      rw [jm _ h0]
      exact ay fun _=>ay fun _=>aC (.inr ⟨rfl,by rw [e0];unfold sw;rw [e1];rfl⟩)
    · have h0:Mv n.2.2:=by
        have e2:n.1=1:=by simpa using e2
        rcases h with h|h|h
        · omega
        · exact h.2
        · omega
      refine bo ((Bg _ h0).mono fun y hy=>ay fun _=>aC (.inr ⟨rfl,?_⟩))
      rw [e0,hy]
      unfold sw
      rw [e1,e2]
      rfl
    · have h0:2≤n.1∧n.1≤9:=by
        rcases h with h|h|h
        · rw [h.1] at e1;cases e1
        · rw [h.1] at e2;cases e2
        · omega
      refine aj (fun h=>by simp at h;omega) fun _=>aj (fun h=>by simp at h;omega) fun _=>ay fun _=>ay fun _=>aC (.inr ⟨rfl,?_⟩)
      rw [e0]
      refine (w11 n.1 h0.1 h0.2).trans ?_
      unfold sw
      rw [e1,e2]
      rfl
  · exact aj (fun h=>by cases h) fun _=>aL rfl
theorem uQ (n:ak) (h:Sg n):Par (dp.F (n.1,n.2.1,n.2.2.1,n.2.2.2.1,n.2.2.2.2,())) fun y=>y.1=sw n:=by
 rw [dp.eq];unfold dp.B
 refine aj (fun e=>aF ?_) fun e=>?_
 ·have e:n.1=10:=by simpa using e
  unfold sw
  rw [e]
  rfl
 have h10:n.1≠10:=by simpa using e
 have h3:=zC n h h10
 refine aj (fun e1=>?_) fun _=>bo (h3.mono fun y hy=>aF hy)
 have e1:n.1=1:=by simpa using e1
 have hm:Mv n.2.2:=by
  rcases h with h|h|h
  ·omega
  ·exact h.2
  ·omega
 refine aj (fun e2=>?_) fun _=>bo (h3.mono fun y hy=>aF hy)
 have hM:dQ.F (n.2.2.1,n.2.2.2.1,n.2.2.2.2,())=some (true,()):=by
  simp at e2
  obtain ⟨o,k,v⟩:=n
  rcases hm with h|h|h|h|h
  ·dsimp only at h
   subst h
   rw [dQ.eq];unfold dQ.B
   simp [il,jn,show sq (⟨#[]⟩:ByteArray) ⟨#[]⟩=true from eW.2 rfl]
  ·dsimp only at h
   subst h
   rw [dQ.eq];unfold dQ.B
   simp [il,jn,show sq (⟨#[]⟩:ByteArray) ⟨#[]⟩=true from eW.2 rfl]
  ·dsimp only at h
   subst h
   rw [dQ.eq];unfold dQ.B
   simp [il,jn,show sq (⟨#[]⟩:ByteArray) ⟨#[]⟩=true from eW.2 rfl]
  ·have:=h.1;dsimp only at this e2;omega
  ·have:=h.1;dsimp only at this e2;omega
 exact bo (jg hM (aj (fun h=>by cases h) fun _=>bo (h3.mono fun y hy=>aF hy)))
omit [Lk] in
theorem cw1 (w:ByteArray):cw [w]=32::bl w:=by simp [cw]
theorem pF (e:List ak) (hl:e.length≤1000000) (he:∀n∈e,Sg n):Par (dg.F (e,())) fun y=>bl y.1=cw (exw e):=by
 rw [dg.eq];unfold dg.B
 refine gB (fun x=>bl x.1=cw ([⟨#[91]⟩]++wsL bN.z (fun n=> [sw n]) e e.length)) ?_ fun x hx=>ay fun _=>aF ?_
 ·refine iz (fun x=>∃i:Nat,x.2.1=(i:Int)∧i≤e.length∧bl x.1=cw ([⟨#[91]⟩]++wsL bN.z (fun n=> [sw n]) e i)) ⟨0,rfl,by omega,rfl⟩ ?_
  rintro ⟨t,_,_⟩ ⟨i,rfl,i1,i2⟩
  dsimp only at i2 ⊢
  refine aj (fun h5=>ay fun _=>?_) fun h5=>aL ?_
  ·simp at h5
   refine bo ((uQ _ (he _ (d9 (z:=bN.z) (i:=(i:Int)) (by omega) (by omega)))).mono fun y hy=>ay fun _=>ay fun _=>aC ⟨i+1,wrn h5 hl,by omega,?_⟩)
   rw [ee,ee,i2,hy,wa,rz,rz,rz,cw1 (sw _)]
   simp [bl]
  ·simp at h5
   have:i=e.length:=by omega
   dsimp only
   rw [i2,this]
 ·rw [ee,hx,exw,rz _ [_]]
  rfl
theorem tI (nm : ByteArray) (cs : List aB) (es : List (List ak)) (hc : cs.length ≤ 400) (he : es.length ≤ 400) (he2 : ∀ e ∈ es,e.length ≤ 1000000 ∧ ∀ n ∈ e,Sg n) :
    Par (cQ.F (nm,cs,es,())) fun y=>bl y.1=bl (⟨#[116,97,98,108,101]⟩:ByteArray)++cw (tbw nm cs es):=by
  rw [cQ.eq];unfold cQ.B
  refine ay fun _=>ay fun _=>?_
  refine gB (fun x=>bl x.1=bl (⟨#[116,97,98,108,101]⟩:ByteArray)++cw ([nm,⟨#[40]⟩]++wsC aV.z cow cs cs.length)) ?_ fun x hx=>ay fun _=>?_
  · refine iz (fun x=>∃i:Nat,x.2.1=(i:Int)∧i≤cs.length∧bl x.1=bl (⟨#[116,97,98,108,101]⟩:ByteArray)++cw ([nm,⟨#[40]⟩]++wsC aV.z cow cs i)) ⟨0,rfl,by omega,by simp [ee,cw,wsC,bl]⟩ ?_
    rintro ⟨t,_,_⟩ ⟨i,rfl,i1,i2⟩
    dsimp only at i2 ⊢
    refine aj (fun h5=>ay fun _=>?_) fun h5=>aL ?_
    · simp at h5
      refine gB (fun x=>bl x.1=bl t++cw (bif decide ((i:Int)>(0:Int)) then [⟨#[44]⟩] else [])) (aj (fun h=>ay fun _=>aC ?_) fun h=>aC ?_) ?_
      · dsimp only;rw [h,ee];rfl
      · rw [h];simp [cw]
      rintro ⟨u,_⟩ hu
      dsimp only at hu ⊢
      refine ay fun _=>ay fun _=>bo (jg (uP _ _) (ay fun _=>ay fun _=>?_))
      generalize hgt:gt cs (i:Int) aV.z=c
      refine gB (fun x=>bl x.1=bl u++cw ([c.1,pkw (wr (c.2.1-1)) [⟨#[98,111,111,108]⟩,⟨#[105,110,116]⟩,⟨#[116,101,120,116]⟩]]++(bif c.2.2.1 then [(⟨#[110,117,108,108]⟩:ByteArray)] else []))) (aj (fun h=>ay fun _=>aC ?_) fun h=>aC ?_) ?_
      · rw [h];simp [ee,cw,bl]
      · rw [h];simp [ee,cw,bl]
      rintro ⟨v,_⟩ hv
      dsimp only at hv ⊢
      refine gB (fun x=>bl x.1=bl v++cw (bif c.2.2.2.1 then [(⟨#[117,110,105,113,117,101]⟩:ByteArray)] else [])) (aj (fun h=>ay fun _=>aC ?_) fun h=>aC ?_) ?_
      · rw [h];simp [ee,cw,bl]
      · rw [h];simp [cw]
      rintro ⟨w,_⟩ hw
      dsimp only at hw ⊢
      refine aj (fun h=>ay fun _=>ay fun _=>bo (jg (uP _ _) (ay fun _=>ay fun _=>aC ⟨i+1,wrn h5 (by omega),by omega,?_⟩))) fun h=>aC ⟨i+1,wrn h5 (by omega),by omega,?_⟩
      · dsimp only
        rw [nq,hgt,ee,hw,hv,hu,i2]
        simp [cow,h,ee,cw,bl]
      · dsimp only
        rw [nq,hgt,hw,hv,hu,i2]
        simp [cow,h,ee,cw,bl]
    · simp at h5
      have:i=cs.length:=by omega
      dsimp only
      rw [i2,this]
  · refine iz (fun x=>∃j:Nat,x.2.1=(j:Int)∧j≤es.length∧bl x.1=bl (⟨#[116,97,98,108,101]⟩:ByteArray)++cw ([nm,⟨#[40]⟩]++wsC aV.z cow cs cs.length++ [⟨#[41]⟩]++wsL [] (fun e=>(⟨#[99,104,101,99,107]⟩:ByteArray)::exw e) es j)) ⟨0,rfl,by omega,by rw [ee,hx];simp [cw,wsL,bl]⟩ ?_
    rintro ⟨t,_,_⟩ ⟨j,rfl,j1,j2⟩
    dsimp only at j2 ⊢
    refine aj (fun h6=>ay fun _=>?_) fun h6=>aL ?_
    · simp at h6
      obtain ⟨g1,g2⟩:=he2 _ (d9 (z:=[]) (i:=(j:Int)) (by omega) (by omega))
      refine bo ((pF _ g1 g2).mono fun y hy=>ay fun _=>ay fun _=>aC ⟨j+1,wrn h6 (by omega),by omega,?_⟩)
      rw [ee,ee,j2,hy,wa]
      simp [cw,bl]
    · simp at h6
      have:j=es.length:=by omega
      subst this
      exact j2
theorem uR (n f w : ByteArray) (a b : Int) (e : List ak) (pk : List Int) (g : Bool) (ag : List cU) (ha : I64 a) (hb : I64 b) (he : e.length ≤ 1000000) (he2 : ∀ n ∈ e,Sg n)
    (hp:pk.length≤400) (hp2:∀x∈pk,I64 x) (hg:ag.length≤400) (hg2:∀x∈ag,I64 x.2):Par (dq.F (n,f,w,a,b,e,pk,g,ag,())) fun y=>bl y.1=bl (⟨#[118,105,101,119]⟩:ByteArray)++cw (viw n f w a b e pk g ag):=by
  rw [dq.eq];unfold dq.B
  refine ay fun _=>ay fun _=>ay fun _=>?_
  refine gB (fun x=>bl x.1=bl (⟨#[118,105,101,119]⟩:ByteArray)++cw ([n,⟨#[102,114,111,109]⟩,f]++(bif !sq w (⟨#[]⟩:ByteArray) then [(⟨#[106,111,105,110]⟩:ByteArray),w,⟨#[111,110]⟩,dB a,⟨#[61]⟩,dB b] else []))) ?_ fun x hx=>?_
  · refine aj (fun h=>ay fun _=>ay fun _=>ay fun _=>bo (jg (jm a ha) (ay fun _=>ay fun _=>ay fun _=>bo (jg (jm b hb) (ay fun _=>ay fun _=>aC ?_))))) fun h=>aC ?_
    · dsimp only
      rw [h]
      simp [ee,cw,bl]
    · dsimp only
      rw [h]
      simp [ee,cw,bl]
  refine gB (fun x=>bl x.1=bl (⟨#[118,105,101,119]⟩:ByteArray)++cw ([n,⟨#[102,114,111,109]⟩,f]++(bif !sq w (⟨#[]⟩:ByteArray) then [(⟨#[106,111,105,110]⟩:ByteArray),w,⟨#[111,110]⟩,dB a,⟨#[61]⟩,dB b] else [])++(bif decide ((e.length:Int)>(0:Int)) then (⟨#[119,104,101,114,101]⟩:ByteArray)::exw e else []))) ?_ fun x hx=>ay fun _=>?_
  · refine aj (fun h=>bo ((pF e he he2).mono fun u hu=>ay fun _=>ay fun _=>aC ?_)) fun h=>aC ?_
    · dsimp only
      rw [ee,ee,hx,hu,h]
      simp [ee,cw,bl]
    · dsimp only
      rw [hx,h]
      simp
  generalize hB:([n,⟨#[102,114,111,109]⟩,f]++(bif !sq w (⟨#[]⟩:ByteArray) then [(⟨#[106,111,105,110]⟩:ByteArray),w,⟨#[111,110]⟩,dB a,⟨#[61]⟩,dB b] else [])++(bif decide ((e.length:Int)>(0:Int)) then (⟨#[119,104,101,114,101]⟩:ByteArray)::exw e else []))=BB at hx
  have hvw:viw n f w a b e pk g ag=BB++ [⟨#[112,105,99,107]⟩]++wsC 0 (fun x=> [dB x]) pk pk.length++(bif g then [(⟨#[103,114,111,117,112]⟩:ByteArray)] else [])++wsC ep.z agw ag ag.length:=by rw [←hB];rfl
  rw [hvw]
  generalize (⟨#[118,105,101,119]⟩:ByteArray)=V at*
  refine gB (fun x=>bl x.1=bl V++cw (BB++ [⟨#[112,105,99,107]⟩]++wsC 0 (fun x=> [dB x]) pk pk.length)) ?_ fun x hx=>?_
  · refine iz (fun x=>∃i:Nat,x.2.1=(i:Int)∧i≤pk.length∧bl x.1=bl V++cw (BB++ [⟨#[112,105,99,107]⟩]++wsC 0 (fun x=> [dB x]) pk i)) ⟨0,rfl,by omega,by rw [ee,hx];simp [cw,wsC,bl]⟩ ?_
    rintro ⟨t,_,_⟩ ⟨i,rfl,i1,i2⟩
    dsimp only at i2 ⊢
    refine aj (fun h5=>?_) fun h5=>aL ?_
    · simp at h5
      have h64:=hp2 _ (d9 (z:=0) (i:=(i:Int)) (by omega) (by omega))
      refine aj (fun h=>ay fun _=>ay fun _=>bo (jg (jm _ h64) (ay fun _=>ay fun _=>aC ⟨i+1,wrn h5 (by omega),by omega,?_⟩))) fun h=>ay fun _=>bo (jg (jm _ h64) (ay fun _=>ay fun _=>aC ⟨i+1,wrn h5 (by omega),by omega,?_⟩))
      · dsimp only
        rw [ee,ee,i2,nq,h]
        simp [ee,cw,bl]
      · dsimp only
        rw [ee,i2,nq,h]
        simp [ee,cw,bl]
    · simp at h5
      have:i=pk.length:=by omega
      dsimp only
      rw [i2,this]
  refine gB (fun x=>bl x.1=bl V++cw (BB++ [⟨#[112,105,99,107]⟩]++wsC 0 (fun x=> [dB x]) pk pk.length++(bif g then [(⟨#[103,114,111,117,112]⟩:ByteArray)] else []))) (aj (fun h=>ay fun _=>aC ?_) fun h=>aC ?_) fun x hx=>?_
  · dsimp only
    rw [ee,hx,h]
    simp [cw,bl]
  · dsimp only
    rw [hx,h]
    simp
  refine iz (fun x=>∃i:Nat,x.2.1=(i:Int)∧i≤ag.length∧bl x.1=bl V++cw (BB++ [⟨#[112,105,99,107]⟩]++wsC 0 (fun x=> [dB x]) pk pk.length++(bif g then [(⟨#[103,114,111,117,112]⟩:ByteArray)] else [])++wsC ep.z agw ag i)) ⟨0,rfl,by omega,by rw [hx];simp [wsC]⟩ ?_
  rintro ⟨t,_,_⟩ ⟨i,rfl,i1,i2⟩
  dsimp only at i2 ⊢
  refine aj (fun h5=>?_) fun h5=>aL ?_
  · simp at h5
    have h64:=hg2 _ (d9 (z:=ep.z) (i:=(i:Int)) (by omega) (by omega))
    refine gB (fun x=>bl x.1=bl t++cw (bif decide ((i:Int)>(0:Int)) then [⟨#[44]⟩] else [])) (aj (fun h=>ay fun _=>aC ?_) fun h=>aC ?_) ?_
    · dsimp only;rw [h,ee];rfl
    · rw [h];simp [cw]
    rintro ⟨u,_⟩ hu
    dsimp only at hu ⊢
    generalize hgt:gt ag (i:Int) ep.z=c at h64 ⊢
    refine ay fun _=>bo (jg (uP _ _) (ay fun _=>ay fun _=>ay fun _=>?_))
    refine aj (fun h=>ay fun _=>bo (jg (jm _ h64) (ay fun _=>ay fun _=>aC ⟨i+1,wrn h5 (by omega),by omega,?_⟩))) fun h=>aC ⟨i+1,wrn h5 (by omega),by omega,?_⟩
    · dsimp only
      rw [ee,ee,hu,i2,nq,hgt,agw,h]
      simp [ee,cw,bl]
    · dsimp only
      rw [ee,hu,i2,nq,hgt,agw,h]
      simp [ee,cw,bl]
  · simp at h5
    have:i=ag.length:=by omega
    subst this
    exact i2
omit [Lk] in
theorem eqT {x y:ap}:Ty.eq ar x y=true↔x=y:=by
 obtain ⟨a,b,s⟩:=x
 obtain ⟨c,d,t⟩:=y
 simp [Ty.eq,MapKept.bytes_beq]
omit [Lk] in
theorem eqW {x y:ak}:Ty.eq bN x y=true↔x=y:=by
 obtain ⟨a,b,v⟩:=x
 obtain ⟨c,d,w⟩:=y
 have:Ty.eq bN (a,b,v) (c,d,w)=(a==c&&(b==d&&Ty.eq ar v w)):=rfl
 rw [this]
 simp only [Bool.and_eq_true,beq_iff_eq,eqT,Prod.mk.injEq]
omit [Lk] in
theorem eqC {x y:aB}:Ty.eq aV x y=true↔x=y:=by
 obtain ⟨a,b,c,d,e,f⟩:=x
 obtain ⟨a',b',c',d',e',f'⟩:=y
 simp [Ty.eq,MapKept.bytes_beq]
omit [Lk] in
theorem eqG {x y:cU}:Ty.eq ep x y=true↔x=y:=by
 obtain ⟨a,b⟩:=x
 obtain ⟨a',b'⟩:=y
 simp [Ty.eq]
theorem eq_l {A R : Type} {p q : List A} (hl : p.length = q.length) (hn : p.length ≤ 1000000) {body : Int × Unit → Option ((Int × Unit) ⊕ R)} {X Y : R}
    (h1:∀(i:Nat) (hi:i<p.length) (hi':i<q.length),p[i]=q[i]→body ((i:Int),())=il (((i+1:Nat):Int),()))
    (h0:∀(i:Nat) (hi:i<p.length) (hi':i<q.length),p[i]≠q[i]→body ((i:Int),())=ir X) (h2:body ((p.length:Int),())=ir Y):
    (p=q∧aN body ((0:Int),())=some Y)∨(p≠q∧aN body ((0:Int),())=some X):=by
  have H:∀n i,n+i=p.length→(∀(j:Nat) (h:j<p.length) (h':j<q.length),j<i→p[j]=q[j])→(p=q∧aN body ((i:Int),())=some Y)∨(p≠q∧aN body ((i:Int),())=some X):=by
    intro n
    induction n with
    |zero=>
      intro i hi h
      have:i=p.length:=by omega
      subst this
      exact .inl ⟨List.ext_getElem hl fun j hj hj'=>h j hj hj' hj,by rw [dC,h2];rfl⟩
    |succ n ih=>
      intro i hi h
      by_cases he:p[i]'(by omega)=q[i]'(by omega)
      · rw [dC,h1 i (by omega) (by omega) he]
        refine ih (i+1) (by omega) fun j hj hj' hji=>?_
        by_cases e:j=i
        · subst e;exact he
        · exact h j hj hj' (by omega)
      · exact .inr ⟨fun e=>he (by subst e;rfl),by rw [dC,h0 i (by omega) (by omega) he];rfl⟩
  exact H p.length 0 rfl fun _ _ _ h=>by omega
def Eb {A:Type} (x:Option (Bool×Unit)) (p q:A):Prop:=∃b,x=some (b,())∧(b=true↔p=q)
theorem Eb.len {A:Type} {p q:List A} {x y:Option (Bool×Unit)} (h:p.length≠q.length→x=some (false,())) (h2:p.length=q.length→Eb x p q):Eb x p q:=by
 by_cases e:p.length=q.length
 ·exact h2 e
 ·exact ⟨false,h e,by simp;rintro rfl;exact e rfl⟩
theorem Eb.of {A:Type} {p q:A} {x:Option (Bool×Unit)} (h:(p=q∧x=some (true,()))∨(p≠q∧x=some (false,()))):Eb x p q:=by
 rcases h with ⟨h,e⟩|⟨h,e⟩
 ·exact ⟨true,e,by simp [h]⟩
 ·exact ⟨false,e,by simp [h]⟩
theorem rA (p q:List ak) (h:p.length≤1000000):Eb (fp.F (p,q,())) p q:=by
 rw [fp.eq];unfold fp.B
 refine Eb.len (y:=none) (fun e=>?_) fun e=>Eb.of ?_
 ·have:((p.length:Int) !=(q.length:Int))=true:=by simp;omega
  dsimp only
  rw [this]
  rfl
 have e0:((p.length:Int) !=(q.length:Int))=false:=by simp;omega
 dsimp only
 rw [e0,Qb]
 refine eq_l e h (fun i hi hi' he=>?_) (fun i hi hi' he=>?_) ?_
 ·have d1:decide ((i:Int)<(p.length:Int))=true:=by simp;omega
  have i1:ib (i:Int) (p.length:Int)=true:=by simp;omega
  have i2:ib (i:Int) (q.length:Int)=true:=by simp;omega
  simp only [d1,i1,i2,ckT,Qc,cD hi,cD hi',wrn hi h,eqW.2 he,Bool.not_true,Qb]
 ·have d1:decide ((i:Int)<(p.length:Int))=true:=by simp;omega
  have i1:ib (i:Int) (p.length:Int)=true:=by simp;omega
  have i2:ib (i:Int) (q.length:Int)=true:=by simp;omega
  have ne:Ty.eq bN p[i] q[i]=false:=by rw [←Bool.not_eq_true,eqW];exact he
  simp only [d1,i1,i2,ckT,Qc,cD hi,cD hi',ne,Bool.not_false]
 ·have d1:decide ((p.length:Int)<(p.length:Int))=false:=by simp
  simp only [d1,Qb]
theorem eq_b {A R:Type} {z:A} {eq:A→A→Bool} (heq:∀x y,eq x y=true↔x=y) {p q:List A} (hl:p.length=q.length) (h:p.length≤1000000) {X Y:R}:
 (p=q∧aN (S:=Int×Unit) (fun (x,_)=>bif decide (x<(p.length:Int)) then ck (ib x p.length)<|ck (ib x q.length)<|bif !(eq (gt p x z) (gt q x z)) then ir X else il (wr (x+1),()) else ir Y) ((0:Int),())=some Y)∨
 (p≠q∧aN (S:=Int×Unit) (fun (x,_)=>bif decide (x<(p.length:Int)) then ck (ib x p.length)<|ck (ib x q.length)<|bif !(eq (gt p x z) (gt q x z)) then ir X else il (wr (x+1),()) else ir Y) ((0:Int),())=some X):=by
 refine eq_l hl h (fun i hi hi' he=>?_) (fun i hi hi' he=>?_) ?_
 ·have d1:decide ((i:Int)<(p.length:Int))=true:=by simp;omega
  have i1:ib (i:Int) (p.length:Int)=true:=by simp;omega
  have i2:ib (i:Int) (q.length:Int)=true:=by simp;omega
  simp only [d1,i1,i2,ckT,Qc,cD hi,cD hi',wrn hi h,(heq _ _).2 he,Bool.not_true,Qb]
 ·have d1:decide ((i:Int)<(p.length:Int))=true:=by simp;omega
  have i1:ib (i:Int) (p.length:Int)=true:=by simp;omega
  have i2:ib (i:Int) (q.length:Int)=true:=by simp;omega
  have ne:eq p[i] q[i]=false:=by rw [←Bool.not_eq_true,heq];exact he
  simp only [d1,i1,i2,ckT,Qc,cD hi,cD hi',ne,Bool.not_false]
 ·have d1:decide ((p.length:Int)<(p.length:Int))=false:=by simp
  simp only [d1,Qb]
theorem zD {A:Type} {z:A} {eq:A→A→Bool} (heq:∀x y,eq x y=true↔x=y) {p q:List A} (h:p.length≤1000000):
 Eb (bif ((p.length:Int) !=(q.length:Int)) then some (false,()) else aN (S:=Int×Unit) (fun (x,_)=>bif decide (x<(p.length:Int)) then ck (ib x p.length)<|ck (ib x q.length)<|bif !(eq (gt p x z) (gt q x z)) then ir (false,()) else il (wr (x+1),()) else ir (true,())) ((0:Int),())) p q:=by
 refine Eb.len (y:=none) (fun e=>?_) fun e=>?_
 ·have:((p.length:Int) !=(q.length:Int))=true:=by simp;omega
  rw [this]
  rfl
 ·have e0:((p.length:Int) !=(q.length:Int))=false:=by simp;omega
  rw [e0,Qb]
  exact Eb.of (eq_b heq e h)
theorem C3 (p q:List Int) (h:p.length≤1000000):Eb (fR.F (p,q,())) p q:=by
 rw [fR.eq]
 exact zD (z:=0) (eq:=fun x y=>x==y) (fun _ _=>beq_iff_eq) h
theorem sN_x (p q:List ak) (h:p.length≤1000000):Eb (aD.F (p,q,())) p q:=by
 rw [aD.eq]
 exact zD (z:=bN.z) (eq:=fun x y=>Ty.eq bN x y) (fun _ _=>eqW) h
theorem sC_x (p q:List aB) (h:p.length≤1000000):Eb (au.F (p,q,())) p q:=by
 rw [au.eq]
 exact zD (z:=aV.z) (eq:=fun x y=>Ty.eq aV x y) (fun _ _=>eqC) h
theorem sI_x (p q:List Int) (h:p.length≤1000000):Eb (bp.F (p,q,())) p q:=by
 rw [bp.eq]
 exact zD (z:=0) (eq:=fun x y=>x==y) (fun _ _=>beq_iff_eq) h
theorem sG_x (p q:List cU) (h:p.length≤1000000):Eb (aE.F (p,q,())) p q:=by
 rw [aE.eq]
 exact zD (z:=ep.z) (eq:=fun x y=>Ty.eq ep x y) (fun _ _=>eqG) h
theorem st_x (n:ByteArray) (cs:List aB) (es:List (List ak)) (m:ByteArray) (ds:List aB) (fs:List (List ak)) (h1:cs.length≤1000000) (h2:es.length≤1000000) (h3:∀e∈es,e.length≤1000000):
 Eb (cR.F (n,cs,es,m,ds,fs,())) (n,cs,es) (m,ds,fs):=by
 rw [cR.eq];unfold cR.B
 dsimp only
 have no:∀{x:Option (Bool×Unit)},(n,cs,es)≠(m,ds,fs)→x=some (false,())→Eb x (n,cs,es) (m,ds,fs):=fun h e=>Eb.of (.inr ⟨h,e⟩)
 cases a1:sq n m with
 |false=>exact no (fun e=>by injection e with e _;rw [eW.2 e] at a1;cases a1) rfl
 |true=>
  have a1:=eW.1 a1
  by_cases l1:cs.length=ds.length
  rotate_left 1
  ·have:((cs.length:Int) !=(ds.length:Int))=true:=by simp;omega
   exact no (fun e=>by injection e with _ e;injection e with e _;exact l1 (by rw [e])) (by rw [this];rfl)
  have b1:((cs.length:Int) !=(ds.length:Int))=false:=by simp;omega
  by_cases l2:es.length=fs.length
  rotate_left 1
  ·have:((es.length:Int) !=(fs.length:Int))=true:=by simp;omega
   exact no (fun e=>by injection e with _ e;injection e with _ e;exact l2 (by rw [e])) (by rw [b1,this];rfl)
  have b2:((es.length:Int) !=(fs.length:Int))=false:=by simp;omega
  simp only [Bool.not_true,Qb,b1,b2,jn,il,Qa]
  rcases eq_b (z:=aV.z) (eq:=fun x y=>Ty.eq aV x y) (fun _ _=>eqC) l1 h1 (X:=Sum.inr (false,())) (Y:=Sum.inl ()) with ⟨e,h⟩|⟨e,h⟩
  rotate_left 1
  ·refine no (fun g=>e (by injection g with _ g;injection g)) ?_
   refine Eq.trans (congrArg (fun x=>Option.bind x _) h) ?_
   rfl
  rw [show ∀y,Eb y (n,cs,es) (m,ds,fs)↔Eb y es fs from fun y=>by rw [a1,e];simp [Eb]]
  refine cast (congrArg (fun x=>Eb (Option.bind x _) es fs) h.symm) ?_
  refine Eb.of (eq_l l2 h2 (fun i hi hi' he=>?_) (fun i hi hi' he=>?_) ?_)
  ·obtain ⟨b,hb,hbe⟩:=rA es[i] fs[i] (h3 _ (List.getElem_mem hi))
   have d1:decide ((i:Int)<(es.length:Int))=true:=by simp;omega
   have i1:ib (i:Int) (es.length:Int)=true:=by simp;omega
   have i2:ib (i:Int) (fs.length:Int)=true:=by simp;omega
   dsimp only
   simp only [d1,i1,i2,ckT,Qc,cD hi,cD hi',hb,Qa,hbe.2 he,Bool.not_true,Qb,wrn hi h2]
   rfl
  ·obtain ⟨b,hb,hbe⟩:=rA es[i] fs[i] (h3 _ (List.getElem_mem hi))
   have d1:decide ((i:Int)<(es.length:Int))=true:=by simp;omega
   have i1:ib (i:Int) (es.length:Int)=true:=by simp;omega
   have i2:ib (i:Int) (fs.length:Int)=true:=by simp;omega
   have hf:b=false:=by rw [←Bool.not_eq_true,hbe];exact he
   dsimp only
   simp only [d1,i1,i2,ckT,Qc,cD hi,cD hi',hb,Qa,hf,Bool.not_false]
  ·have d1:decide ((es.length:Int)<(es.length:Int))=false:=by simp
   dsimp only
   simp only [d1,Qb]
theorem sv_x (a b c:ByteArray) (d e:Int) (f:List ak) (g:List Int) (h:Bool) (i:List cU) (a' b' c':ByteArray) (d' e':Int) (f':List ak) (g':List Int) (h':Bool) (i':List cU)
 (h1:f.length≤1000000) (h2:g.length≤1000000) (h3:i.length≤1000000):Eb (du.F (a,b,c,d,e,f,g,h,i,a',b',c',d',e',f',g',h',i',())) (a,b,c,(d,e),f,g,h,i) (a',b',c',(d',e'),f',g',h',i'):=by
 rw [du.eq];unfold du.B
 dsimp only
 have no:∀{x:Option (Bool×Unit)},¬(a=a'∧b=b'∧c=c'∧(d,e)=(d',e')∧f=f'∧g=g'∧h=h'∧i=i')→x=some (false,())→Eb x (a,b,c,(d,e),f,g,h,i) (a',b',c',(d',e'),f',g',h',i'):=fun h e=>Eb.of (.inr ⟨fun q=>h (by simpa only [Prod.mk.injEq] using q),e⟩)
 cases a1:sq a a' with
 |false=>exact no (fun q=>by rw [eW.2 q.1] at a1;cases a1) rfl
 |true=>
 cases a2:sq b b' with
 |false=>exact no (fun q=>by rw [eW.2 q.2.1] at a2;cases a2) rfl
 |true=>
 cases a3:sq c c' with
 |false=>exact no (fun q=>by rw [eW.2 q.2.2.1] at a3;cases a3) rfl
 |true=>
 cases a4:Ty.eq ep (d,e) (d',e') with
 |false=>exact no (fun q=>by rw [eqG.2 q.2.2.2.1] at a4;cases a4) rfl
 |true=>
 obtain ⟨x5,e5,b5⟩:=rA f f' h1
 obtain ⟨x6,e6,b6⟩:=C3 g g' h2
 simp only [e5,e6,Qa,Bool.not_true,Qb]
 cases x5 with
 |false=>exact no (fun q=>by cases b5.2 q.2.2.2.2.1) rfl
 |true=>
 cases x6 with
 |false=>exact no (fun q=>by cases b6.2 q.2.2.2.2.2.1) rfl
 |true=>
 cases a7:h==h' with
 |false=>exact no (fun q=>by rw [beq_iff_eq.2 q.2.2.2.2.2.2.1] at a7;cases a7) rfl
 |true=>
 by_cases l:i.length=i'.length
 rotate_left 1
 ·have:((i.length:Int) !=(i'.length:Int))=true:=by simp;omega
  exact no (fun q=>l (by rw [q.2.2.2.2.2.2.2])) (by rw [this];rfl)
 have bl:((i.length:Int) !=(i'.length:Int))=false:=by simp;omega
 simp only [Bool.not_true,Qb,bl,jn,il,Qa]
 rw [show ∀y,Eb y (a,b,c,(d,e),f,g,h,i) (a',b',c',(d',e'),f',g',h',i')↔Eb y i i' from fun y=>by
  rw [eW.1 a1,eW.1 a2,eW.1 a3,eqG.1 a4,b5.1 rfl,b6.1 rfl,beq_iff_eq.1 a7];simp [Eb]]
 exact Eb.of (eq_b (z:=ep.z) (eq:=fun x y=>Ty.eq ep x y) (fun _ _=>eqG) l h3)
theorem eq_lY {A R:Type} {p:List A} {body:Int×Unit→Option ((Int×Unit)⊕R)} {Y:R}
 (h1:∀(i:Nat),i<p.length→body ((i:Int),())=il (((i+1:Nat):Int),())) (h2:body ((p.length:Int),())=ir Y):aN body ((0:Int),())=some Y:=by
 have H:∀n i,n+i=p.length→aN body ((i:Int),())=some Y:=by
  intro n
  induction n with
  |zero=>
   intro i hi
   have:i=p.length:=by omega
   subst this
   rw [dC,h2];rfl
  |succ n ih=>
   intro i hi
   rw [dC,h1 i (by omega)]
   exact ih (i+1) (by omega)
 exact H p.length 0 rfl
theorem eq_lX {A R : Type} {p q : List A} (hl : p.length = q.length) (e : p ≠ q) {body : Int × Unit → Option ((Int × Unit) ⊕ R)} {X : R}
    (h1:∀(i:Nat) (hi:i<p.length) (hi':i<q.length),p[i]=q[i]→body ((i:Int),())=il (((i+1:Nat):Int),())) (h0:∀(i:Nat) (hi:i<p.length) (hi':i<q.length),p[i]≠q[i]→body ((i:Int),())=ir X):aN body ((0:Int),())=some X:=by
  have H:∀n i,n+i=p.length→(∀(j:Nat) (h:j<p.length) (h':j<q.length),j<i→p[j]=q[j])→aN body ((i:Int),())=some X:=by
    intro n
    induction n with
    |zero=>
      intro i hi h
      have:i=p.length:=by omega
      subst this
      exact absurd (List.ext_getElem hl fun j hj hj'=>h j hj hj' hj) e
    |succ n ih=>
      intro i hi h
      by_cases he:p[i]'(by omega)=q[i]'(by omega)
      · rw [dC,h1 i (by omega) (by omega) he]
        refine ih (i+1) (by omega) fun j hj hj' hji=>?_
        by_cases e:j=i
        · subst e;exact he
        · exact h j hj hj' (by omega)
      · rw [dC,h0 i (by omega) (by omega) he];rfl
  exact H p.length 0 rfl fun _ _ _ h=>by omega
theorem C4 (d:bL) (h:Sd d) (q0:Int) (q1:ByteArray) (q2:List aB) (q3:List (List ak)) (q4 q5 q6:ByteArray) (q7 q8:Int) (q9:List ak) (q10:List Int) (q11:Bool) (q12:List cU):
    ∃ b,fH.F (d.1,d.2.1.1,d.2.1.2.1,d.2.1.2.2,d.2.2.1,d.2.2.2.1,d.2.2.2.2.1,d.2.2.2.2.2.1.1,d.2.2.2.2.2.1.2,d.2.2.2.2.2.2.1,d.2.2.2.2.2.2.2.1,d.2.2.2.2.2.2.2.2.1,d.2.2.2.2.2.2.2.2.2,q0,q1,q2,q3,q4,q5,q6,q7,q8,q9,q10,q11,q12,()) = some (b,()) ∧
      fL.F (d.1,d.2.1.1,d.2.1.2.1,d.2.1.2.2,d.2.2.1,d.2.2.2.1,d.2.2.2.2.1,d.2.2.2.2.2.1.1,d.2.2.2.2.2.1.2,d.2.2.2.2.2.2.1,d.2.2.2.2.2.2.2.1,d.2.2.2.2.2.2.2.2.1,d.2.2.2.2.2.2.2.2.2,q0,q1,q2,q3,q4,q5,q6,q7,q8,q9,q10,q11,q12,())=some (b,())∧(b=true→d.2.1.2.2=q3∧d.2.2.2.2.2.2.1=q9):=by
  have lc:d.2.1.2.1.length≤1000000:=by have:=h.s1;omega
  have le:d.2.1.2.2.length≤1000000:=by have:=h.s2;omega
  have lx:∀e∈d.2.1.2.2,e.length≤1000000:=fun e he=>by have:=(h.s3 e he).1;omega
  have lw:d.2.2.2.2.2.2.1.length≤1000000:=by have:=h.s4.1;omega
  have lp:d.2.2.2.2.2.2.2.1.length≤1000000:=by have:=h.s5;omega
  have la:d.2.2.2.2.2.2.2.2.2.length≤1000000:=by have:=h.s6;omega
  obtain ⟨k,⟨n,cs,es⟩,vn,vf,vw,⟨o1,o2⟩,wh,pk,gr,ag⟩:=d
  dsimp only at lc le lx lw lp la ⊢
  obtain ⟨t1,e1,b1⟩:=st_x n cs es q1 q2 q3 lc le lx
  obtain ⟨t2,e2,b2⟩:=sv_x vn vf vw o1 o2 wh pk gr ag q4 q5 q6 q7 q8 q9 q10 q11 q12 lw lp la
  obtain ⟨c1,f1,g1⟩:=sC_x cs q2 lc
  obtain ⟨c2,f2,g2⟩:=sN_x wh q9 lw
  obtain ⟨c3,f3,g3⟩:=sI_x pk q10 lp
  obtain ⟨c4,f4,g4⟩:=sG_x ag q12 la
  refine ⟨(k==q0)&&(t1&&t2),?_,?_,fun hb=>?_⟩
  · rw [fH.eq];unfold fH.B
    dsimp only
    simp only [e1,e2,Qa]
    cases k==q0<;>cases t1<;>rfl
  rotate_left 1
  · simp only [Bool.and_eq_true] at hb
    have h1:=b1.1 hb.2.1
    have h2:=b2.1 hb.2.2
    simp only [Prod.mk.injEq] at h1 h2
    exact ⟨h1.2.2,h2.2.2.2.2.1⟩
  have hv:t2=(sq vn q4&&(sq vf q5&&(sq vw q6&&(Ty.eq ep (o1,o2) (q7,q8)&&(c2&&(c3&&(gr==q11&&c4))))))):=by
    rw [Bool.eq_iff_iff,b2]
    simp only [Bool.and_eq_true,eW,eqG,g2,g3,g4,beq_iff_eq,Prod.mk.injEq]
  have ht:∀bb:Bool,(bb=true↔es=q3)→t1=(sq n q1&&(c1&&bb)):=fun bb hbb=>by
    rw [Bool.eq_iff_iff,b1]
    simp only [Bool.and_eq_true,eW,g1,hbb,Prod.mk.injEq]
  rw [fL.eq];unfold fL.B
  dsimp only
  simp only [f1,f2,f3,f4,Qa]
  rw [hv]
  have tail:∀(bb k0 n0 c0 v1 v2 v3 v4 v5 v6 v7 v8:Bool),jn (S:=Bool×Unit) (bif n0 then bif c0 then il (bb,()) else il (false,()) else il (false,())) (fun x=>jn (S:=Bool×Unit) (bif v1 then bif v2 then bif v3 then bif v4 then bif v5 then bif v6 then bif v7 then il (v8,()) else il (false,()) else il (false,()) else il (false,()) else il (false,()) else il (false,()) else il (false,()) else il (false,())) fun x_1=>bif k0 then bif x.1 then some (x_1.1,()) else some (false,()) else some (false,()))=
      some (k0&&((n0&&(c0&&bb))&&(v1&&(v2&&(v3&&(v4&&(v5&&(v6&&(v7&&v8)))))))),()):=by
    intro bb k0 n0 c0 v1 v2 v3 v4 v5 v6 v7 v8
    cases k0<;>cases n0<;>cases c0<;>cases bb<;>cases v1<;>cases v2<;>cases v3<;>cases v4<;>cases v5<;>cases v6<;>cases v7<;>rfl
  have tailF:∀(k0 n0 c0 v1 v2 v3 v4 v5 v6 v7 v8:Bool),jn (S:=Bool×Unit) (bif n0 then bif c0 then il (false,()) else il (false,()) else il (false,())) (fun x=>jn (S:=Bool×Unit) (bif v1 then bif v2 then bif v3 then bif v4 then bif v5 then bif v6 then bif v7 then il (v8,()) else il (false,()) else il (false,()) else il (false,()) else il (false,()) else il (false,()) else il (false,()) else il (false,())) fun x_1=>bif k0 then bif x.1 then some (x_1.1,()) else some (false,()) else some (false,()))=
      some (k0&&((n0&&(c0&&false))&&(v1&&(v2&&(v3&&(v4&&(v5&&(v6&&(v7&&v8)))))))),()):=tail false
  by_cases l:es.length=q3.length
  rotate_left 1
  · have:((es.length:Int) !=(q3.length:Int))=true:=by simp;omega
    rw [this,Qc,tailF,ht false (by simp;rintro rfl;exact l rfl)]
  have l0:((es.length:Int) !=(q3.length:Int))=false:=by simp;omega
  rw [l0,Qb]
  have one:∀(i:Nat) (hi:i<es.length) (hi':i<q3.length),∃b,eQ.F (es[i],q3[i],())=some (b,())∧(b=true↔es[i]=q3[i]):=fun i hi hi'=>by
    obtain ⟨b,hb,hbe⟩:=sN_x es[i] q3[i] (lx _ (List.getElem_mem hi))
    refine ⟨b,?_,hbe⟩
    rw [eQ.eq];unfold eQ.B
    dsimp only
    rw [hb]
    rfl
  have step:∀(i:Nat) (hi:i<es.length) (hi':i<q3.length),decide ((i:Int)<(es.length:Int))=true∧ib (i:Int) (es.length:Int)=true∧ib (i:Int) (q3.length:Int)=true:=fun i hi hi'=>⟨by simp;omega,by simp;omega,by simp;omega⟩
  by_cases e:es=q3
  · rw [ht true (by simp [e])]
    refine eq_lY (p:=es) (fun i hi=>?_) ?_
    · obtain ⟨b,hb,hbe⟩:=one i hi (by omega)
      obtain ⟨d1,i1,i2⟩:=step i hi (by omega)
      have hi':i<q3.length:=by omega
      have hbt:b=true:=hbe.2 (by subst e;rfl)
      dsimp only
      simp only [d1,i1,i2,ckT,Qc,cD hi,cD hi',hb,Qa,hbt,Bool.not_true,il,jn,Qb,wrn hi le]
    · have d1:decide ((es.length:Int)<(es.length:Int))=false:=by simp
      dsimp only
      simp only [d1,Qb]
      rw [tail]
      rfl
  · rw [ht false (by simp [e])]
    refine eq_lX l e (fun i hi hi' he=>?_) (fun i hi hi' he=>?_)
    · obtain ⟨b,hb,hbe⟩:=one i hi hi'
      obtain ⟨d1,i1,i2⟩:=step i hi hi'
      dsimp only
      simp only [d1,i1,i2,ckT,Qc,cD hi,cD hi',hb,Qa,hbe.2 he,Bool.not_true,il,jn,Qb,wrn hi le]
    · obtain ⟨b,hb,hbe⟩:=one i hi hi'
      obtain ⟨d1,i1,i2⟩:=step i hi hi'
      have hbf:b=false:=by rw [←Bool.not_eq_true,hbe];exact he
      dsimp only
      simp only [d1,i1,i2,ckT,Qc,cD hi,cD hi',hb,Qa,hbf,Bool.not_false]
      refine Eq.trans (b:=Option.map Sum.inr _) rfl ?_
      rw [tailF]
      rfl
def Sgd (d:bL):Prop:=(∀e∈d.2.1.2.2,∀n∈e,Sg n)∧∀n∈d.2.2.2.2.2.2.1,Sg n
theorem zE (d : bL) (h : Sd d) (T : ByteArray) : ∃ r,(bif (decide ((T.size : Int) > (20000 : Int))) then some ((⟨#[]⟩ : ByteArray),()) else (eJ.F (T,())).bind fun y4 => (bif (y4.2.2.2.2.2.2.2.2.1 != (0 : Int)) then some ((⟨#[]⟩ : ByteArray),()) else
      (fH.F (d.1,d.2.1.1,d.2.1.2.1,d.2.1.2.2,d.2.2.1,d.2.2.2.1,d.2.2.2.2.1,d.2.2.2.2.2.1.1,d.2.2.2.2.2.1.2,d.2.2.2.2.2.2.1,d.2.2.2.2.2.2.2.1,d.2.2.2.2.2.2.2.2.1,d.2.2.2.2.2.2.2.2.2,y4.1,y4.2.1,y4.2.2.2.2.2.2.2.2.2.1,y4.2.2.2.2.2.2.2.2.2.2.1,y4.2.2.1,y4.2.2.2.1,y4.2.2.2.2.1,y4.2.2.2.2.2.1,y4.2.2.2.2.2.2.1,y4.2.2.2.2.2.2.2.2.2.2.2.1,y4.2.2.2.2.2.2.2.2.2.2.2.2.1,y4.2.2.2.2.2.2.2.1,y4.2.2.2.2.2.2.2.2.2.2.2.2.2.1,())).bind fun y5=>(bif (!y5.1) then some ((⟨#[]⟩:ByteArray),()) else some (T,()))))=some (r,())∧
    (bif (decide ((T.size:Int)>(20000:Int))) then some ((⟨#[]⟩:ByteArray),()) else (cB.F (T,())).bind fun y5=>(bif (y5.2.2.2.2.2.2.2.2.1 !=(0:Int)) then some ((⟨#[]⟩:ByteArray),()) else
      (fL.F (d.1,d.2.1.1,d.2.1.2.1,d.2.1.2.2,d.2.2.1,d.2.2.2.1,d.2.2.2.2.1,d.2.2.2.2.2.1.1,d.2.2.2.2.2.1.2,d.2.2.2.2.2.2.1,d.2.2.2.2.2.2.2.1,d.2.2.2.2.2.2.2.2.1,d.2.2.2.2.2.2.2.2.2,y5.1,y5.2.1,y5.2.2.2.2.2.2.2.2.2.1,y5.2.2.2.2.2.2.2.2.2.2.1,y5.2.2.1,y5.2.2.2.1,y5.2.2.2.2.1,y5.2.2.2.2.2.1,y5.2.2.2.2.2.2.1,y5.2.2.2.2.2.2.2.2.2.2.2.1,y5.2.2.2.2.2.2.2.2.2.2.2.2.1,y5.2.2.2.2.2.2.2.1,y5.2.2.2.2.2.2.2.2.2.2.2.2.2.1,())).bind fun y6=>(bif (!y6.1) then some ((⟨#[]⟩:ByteArray),()) else some (T,()))))=some (r,())∧(¬Sgd d→r=⟨#[]⟩):=by
  cases decide ((T.size:Int)>(20000:Int)) with
  |true=>exact ⟨_,rfl,rfl,fun _=>rfl⟩
  |false=>
    obtain ⟨y,e1,e2,hS⟩:=Bd T
    simp only [Qb,e1,e2,Qa]
    cases he:(y.2.2.2.2.2.2.2.2.1 !=(0:Int)) with
    |true=>exact ⟨_,rfl,rfl,fun _=>rfl⟩
    |false=>
      obtain ⟨b,f1,f2,f3⟩:=C4 d h y.1 y.2.1 y.2.2.2.2.2.2.2.2.2.1 y.2.2.2.2.2.2.2.2.2.2.1 y.2.2.1 y.2.2.2.1 y.2.2.2.2.1 y.2.2.2.2.2.1 y.2.2.2.2.2.2.1 y.2.2.2.2.2.2.2.2.2.2.2.1 y.2.2.2.2.2.2.2.2.2.2.2.2.1 y.2.2.2.2.2.2.2.1 y.2.2.2.2.2.2.2.2.2.2.2.2.2.1
      simp only [Qb,f1,f2,Qa]
      cases b with
      |false=>exact ⟨_,rfl,rfl,fun _=>rfl⟩
      |true=>
        obtain ⟨g1,g2⟩:=f3 rfl
        obtain ⟨s1,s2⟩:=hS (by simpa using he)
        exact ⟨_,rfl,rfl,fun hn=>absurd ⟨by rw [g1];exact s1,by rw [g2];exact s2⟩ hn⟩
theorem Bl (d : bL) (h : Sd d) : ∃ r,eK.F (d.1,d.2.1.1,d.2.1.2.1,d.2.1.2.2,d.2.2.1,d.2.2.2.1,d.2.2.2.2.1,d.2.2.2.2.2.1.1,d.2.2.2.2.2.1.2,d.2.2.2.2.2.2.1,d.2.2.2.2.2.2.2.1,d.2.2.2.2.2.2.2.2.1,d.2.2.2.2.2.2.2.2.2,()) = some (r,()) ∧ fA.F (d.1,d.2.1.1,d.2.1.2.1,d.2.1.2.2,d.2.2.1,d.2.2.2.1,d.2.2.2.2.1,d.2.2.2.2.2.1.1,d.2.2.2.2.2.1.2,d.2.2.2.2.2.2.1,d.2.2.2.2.2.2.2.1,d.2.2.2.2.2.2.2.2.1,d.2.2.2.2.2.2.2.2.2,()) = some (r,()) := by
  rw [eK.eq,fA.eq];unfold eK.B fA.B
  dsimp only
  obtain ⟨⟨tv,_⟩,ev,_⟩:=vD _ _ _ _ _ _ _ d.2.2.2.2.2.2.2.2.1 _ h.n2 h.n3 h.n4 h.o1 h.o2 h.s4 h.s5 h.p h.s6 h.g
  simp only [ev,Qa]
  have lw:d.2.2.2.2.2.2.1.length≤1000000:=by have:=h.s4.1;omega
  have lx:∀e∈d.2.1.2.2,e.length≤1000000:=fun e he=>by have:=(h.s3 e he).1;omega
  have fin:∀(TR:ByteArray) (l:List ByteArray),Wd 100000 l→(Sgd d→∃w r,l=w::r∧bl TR=bl w++cw r)→∃TP,strings_Join.F (l,(⟨#[32]⟩:ByteArray),())=some (TP,())∧(Sgd d→TR=TP):=fun TR l hl hS=>by
    obtain ⟨⟨TP,_⟩,e,_⟩:=yS l 100000 (by omega) hl 5000 (by omega) hl.2
    refine ⟨TP,e,fun hd=>?_⟩
    obtain ⟨w,r,rfl,hr⟩:=hS hd
    have hj:bl TP=bl w++cw r:=zy w r (TP,()) e
    exact jq (hr.trans hj.symm)
  have bJ:∀{B:Type} (l:List ByteArray) (TP:ByteArray) (f:_→Option B),strings_Join.F (l,(⟨#[32]⟩:ByteArray),())=some (TP,())→(strings_Join.F (l,(⟨#[32]⟩:ByteArray),())).bind f=f (TP,()):=fun l TP f e=>by rw [e];rfl
  have rR:∀(TR TP:ByteArray),(Sgd d→TR=TP)→∃r,_∧_:=fun TR TP hT=>by
    obtain ⟨r1,a1,a2,a3⟩:=zE d h TR
    obtain ⟨r2,b1,b2,b3⟩:=zE d h TP
    have:r1=r2:=by
      by_cases hd:Sgd d
      · have:=hT hd
        subst this
        rw [a1] at b1
        injection b1 with b1
        injection b1
      · rw [a3 hd,b3 hd]
    subst this
    exact ⟨r1,a1,b2⟩
  cases hk:(d.1==(0:Int)) with
  |true=>
    simp only [Qc]
    obtain ⟨⟨tr,_⟩,er,_⟩:=sV _ _ _ h.n1 h.s1 h.c h.s2 h.s3
    obtain ⟨⟨lw',_⟩,el,hl⟩:=yT _ _ _ h.n1 h.s1 h.c h.s2 h.s3
    obtain ⟨TP,ej,hT⟩:=fin tr lw' hl fun hd=>⟨_,_,zA _ _ _ h.s1 h.s2 (fun e he=>⟨lx e he,hd.1 e he⟩) _ el,tI _ _ _ h.s1 h.s2 (fun e he=>⟨lx e he,hd.1 e he⟩) _ er⟩
    simp only [er,el,Qa,il,jn]
    rw [bJ _ _ _ ej]
    exact rR tr TP hT
  |false=>
    simp only [Qb]
    obtain ⟨⟨lw',_⟩,el,hl⟩:=AQ _ _ _ _ _ _ _ d.2.2.2.2.2.2.2.2.1 _ h.n2 h.n3 h.n4 h.o1 h.o2 h.s4 h.s5 h.p h.s6 h.g
    obtain ⟨TP,ej,hT⟩:=fin tv lw' hl fun hd=>⟨_,_,Bj _ _ _ _ _ _ _ _ _ h.o1 h.o2 lw hd.2 h.s5 h.p h.s6 h.g _ el,uR _ _ _ _ _ _ _ _ _ h.o1 h.o2 lw hd.2 h.s5 h.p h.s6 h.g _ ev⟩
    simp only [el,Qa,il,jn]
    rw [bJ _ _ _ ej]
    exact rR tv TP hT
end Go.Proofs.Ytpoffnlnhdbpmaa
end
section
set_option maxRecDepth 100000
namespace Go.Proofs.Ytpoffnlnhdbpmaa
open Go Lv Go.Proofs Go.RowKit Go.Shelf
section
variable {α β S S' R R':Type}
theorem iZ {b1 : S → Option (S ⊕ R)} {b2 : S' → Option (S' ⊕ R')} {P : R → R' → Prop} (I : S → S' → Prop) {s : S} {t : S'} (h0 : I s t)
    (h:∀s t,I s t→Par (b1 s) fun z=>Par (b2 t) fun w=>match z,w with
      | .inl s',.inl t'=>I s' t'
      | .inr r,.inr q=>P r q
      |_,_=>False):Par (aN b1 s) fun r=>Par (aN b2 t) fun q=>P r q:=by
  intro r hr q hq
  obtain ⟨n,hn⟩:=@iV ⟨[],fun _=>True,false,fun _ _ _ _=>trivial⟩ _ _ _ _ _ hr
  clear hr
  induction n generalizing s t with
  |zero=>cases hn
  |succ n ih=>
    unfold ix at hn
    rw [dC] at hq
    cases hb:b1 s with
    |none=>rw [hb] at hn;cases hn
    |some z=>
      cases hc:b2 t with
      |none=>rw [hc] at hq;cases hq
      |some w=>
        have hz:=h s t h0 z hb w hc
        rw [hb] at hn
        rw [hc] at hq
        cases z with
        |inl s'=>
          cases w with
          |inl t'=>exact ih hz hq hn
          |inr q'=>exact hz.elim
        |inr r'=>
          cases w with
          |inl t'=>exact hz.elim
          |inr q'=>cases hn;cases hq;exact hz
theorem jK {x1 : Option (S ⊕ R)} {k1 : S → Option R} {x2 : Option (S' ⊕ R')} {k2 : S' → Option R'} {P : R → R' → Prop} (Q : S → S' → Prop)
    (h:Par x1 fun z=>Par x2 fun w=>match z,w with
      | .inl s',.inl t'=>Q s' t'
      | .inr r,.inr q=>P r q
      | .inl s',.inr q=>Par (k1 s') fun r=>P r q
      | .inr r,.inl t'=>Par (k2 t') fun q=>P r q) (hk:∀s t,Q s t→Par (k1 s) fun r=>Par (k2 t) fun q=>P r q):Par (jn x1 k1) fun r=>Par (jn x2 k2) fun q=>P r q:=by
  intro r hr q hq
  unfold jn at hr hq
  cases e1:x1 with
  |none=>rw [e1] at hr;cases hr
  |some z=>
    cases e2:x2 with
    |none=>rw [e2] at hq;cases hq
    |some w=>
      have hz:=h z e1 w e2
      rw [e1] at hr
      rw [e2] at hq
      cases z with
      |inl s'=>
        cases w with
        |inl t'=>exact hk _ _ hz _ hr _ hq
        |inr q'=>cases hq;exact hz _ hr
      |inr r'=>
        cases w with
        |inl t'=>cases hr;exact hz _ hq
        |inr q'=>cases hr;cases hq;exact hz
theorem l9 {x:Option α} {y:Option β} {P:α→β→Prop} (h:Par y fun b=>Par x fun a=>P a b):Par x fun a=>Par y fun b=>P a b:=fun a ha b hb=>h b hb a ha
theorem zF {x y:Option α} {P Q:α→Prop} (h1:Tot x P) (h2:Tot y Q) (h:Par x fun a=>Par y fun b=>a=b):x=y:=by
 obtain ⟨a,e1,_⟩:=h1
 obtain ⟨b,e2,_⟩:=h2
 rw [e1,e2,h a e1 b e2]
end
variable [Lk]
theorem uS (a b : Int) (s : ByteArray) : dz.F (a,b,s,()) = dQ.F (a,b,s,()) := by
  rw [dQ.eq,dz.eq];unfold dQ.B dz.B
  dsimp only
  by_cases h0:a=0
  · subst h0
    simp only [beq_self_eq_true,Qc,jn,il,Qa]
    have:Ty.eq ar ((0:Int),(b,s)) ((0:Int),((0:Int),(⟨#[]⟩:ByteArray)))=(decide (b=0)&&sq s ⟨#[]⟩):=by
      rw [Bool.eq_iff_iff,eqV]
      simp [eW]
    rw [this]
    cases sq s ⟨#[]⟩
    · simp
    · by_cases h:b≥0
      · by_cases h2:b=0
        · subst h2;rfl
        · have:¬b≤0:=by omega
          simp [h,h2,this]
      · have:¬b=0:=by omega
        simp [h,this]
  · have e0 : (a == 0) = false := by simpa using h0
    by_cases h1:a=1
    · subst h1
      simp only [e0,beq_self_eq_true,Qc,Qb,jn,il,Qa]
      by_cases h:b=0
      · subst h
        cases sq s ⟨#[]⟩<;>rfl
      · by_cases h2:b=1
        · subst h2
          cases sq s ⟨#[]⟩<;>rfl
        · have:¬(b≥0∧b≤1):=by omega
          have e:(b==0)=false:=by simpa using h
          have e2:(b==1)=false:=by simpa using h2
          rw [e,e2]
          by_cases h3:b≥0
          · have:¬b≤1:=by omega
            cases sq s ⟨#[]⟩<;>simp [h3,this]
          · cases sq s ⟨#[]⟩<;>simp [h3]
    · have e1:(a==1)=false:=by simpa using h1
      simp only [e0,e1,Qb,jn,il,Qa]
def tkn (o:Int):Int:=if o=0∨o=1 then 0 else if o=9∨o=10 then 1 else if 2≤o∧o≤8 then 2 else -1
theorem kA (o:Int):eL.F (o,())=some (tkn o,())∧dN.F (o,())=some (tkn o,()):=by
 rw [eL.eq,dN.eq];unfold eL.B dN.B
 by_cases h:0≤o∧o≤10
 ·have:o=0∨o=1∨o=2∨o=3∨o=4∨o=5∨o=6∨o=7∨o=8∨o=9∨o=10:=by omega
  rcases this with rfl|rfl|rfl|rfl|rfl|rfl|rfl|rfl|rfl|rfl|rfl<;>exact ⟨rfl,rfl⟩
 ·have e:∀k:Int,0≤k→k≤10→(o==k)=false:=fun k h1 h2=>by simp;omega
  have t:tkn o=-1:=by unfold tkn;rw [if_neg (by omega),if_neg (by omega),if_neg (by omega)]
  rw [t]
  simp only [e 0 (by decide) (by decide),e 1 (by decide) (by decide),e 2 (by decide) (by decide),e 3 (by decide) (by decide),e 4 (by decide) (by decide),e 5 (by decide) (by decide),e 6 (by decide) (by decide),e 7 (by decide) (by decide),e 8 (by decide) (by decide),e 9 (by decide) (by decide),e 10 (by decide) (by decide),Qb,jn,il,Qa,true_and,and_true]
  by_cases h2:o≥2
  ·have:¬o≤8:=by omega
   simp [h2,this]
  ·simp [h2]
theorem BZ (k:Int) (l:List Int) (h:l.length≤1000):eF.F (k,l,())=some (l.all fun x=>x==k||x==0,()):=by
 refine Tot.is ?_
 rw [eF.eq];unfold eF.B
 refine jd (l:=l) (fun x=>(x==k||x==0)=true) (fun i hi=>?_) (fun hq=>?_)
 ·have hw:wr ((i:Int)+1)=(i:Int)+1:=bB (by omega) (by omega)
  simp only [cD hi,hw]
  refine ac.2 ⟨fun _=>ah.2 ⟨by simp;omega,ac.2 ⟨fun e=>ac.2 ⟨fun e2=>aH.2 ?_,fun e2=>av.2 ⟨rfl,?_⟩⟩,fun e=>av.2 ⟨rfl,?_⟩⟩⟩,fun h=>by simp at h;omega⟩
  ·refine Eq.symm (List.all_eq_false.2 ⟨_,List.getElem_mem hi,?_⟩)
   simp at e e2
   simp [e,e2]
  ·simp at e2
   simp [e2]
  ·simp at e
   simp [e]
 ·exact ac.2 ⟨fun h=>by simp at h,fun _=>aH.2 (List.all_eq_true.2 hq).symm⟩
theorem wc (o x y:Int) (h:2≤o∧o≤8):cE.F (o,[x,y],())=cL.F (o,y,x,()):=by
 rw [cE.eq,cL.eq];unfold cE.B cL.B
 have a1:∀k,eF.F (k,[x,y],())=some ((x==k||x==0)&&((y==k||y==0)&&true),()):=fun k=>by rw [BZ _ _ (by simp)];rfl
 simp only [a1,Qa]
 have:o=2∨o=3∨o=4∨o=5∨o=6∨o=7∨o=8:=by omega
 have s2:∀k:Int,(some (k,(x==2||x==0)&&((y==2||y==0)&&true),()):Option (Int×Bool×Unit))=(bif (y==(2:Int)) then (bif (x==(2:Int)) then some (k,true,()) else some (k,(x==(0:Int)),())) else
  (bif (y==(0:Int)) then (bif (x==(2:Int)) then some (k,true,()) else some (k,(x==(0:Int)),())) else some (k,false,()))):=fun k=>by
  cases (x==2)<;>cases (x==0)<;>cases (y==2)<;>cases (y==0)<;>rfl
 have s1:∀k:Int,(some (k,(x==1||x==0)&&((y==1||y==0)&&true),()):Option (Int×Bool×Unit))=(bif (y==(1:Int)) then (bif (x==(1:Int)) then some (k,true,()) else some (k,(x==(0:Int)),())) else
  (bif (y==(0:Int)) then (bif (x==(1:Int)) then some (k,true,()) else some (k,(x==(0:Int)),())) else some (k,false,()))):=fun k=>by
  cases (x==1)<;>cases (x==0)<;>cases (y==1)<;>cases (y==0)<;>rfl
 have s3:(bif (x==y) then some ((1:Int),true,()) else (bif (x==(0:Int)) then some ((1:Int),true,()) else some ((1:Int),(y==(0:Int)),())))=(bif (y==x) then some ((1:Int),true,()) else (bif (y==(0:Int)) then some ((1:Int),true,()) else some ((1:Int),(x==(0:Int)),()))):=by
  rw [show (x==y)=(y==x) from Bool.eq_iff_iff.2 (by simp;exact eq_comm)]
  cases (y==x)<;>cases (x==0)<;>cases (y==0)<;>rfl
 rcases this with rfl|rfl|rfl|rfl|rfl|rfl|rfl
 ·exact s2 2
 ·exact s2 2
 ·exact s2 2
 ·refine Eq.trans ?_ (s3.trans ?_)
  ·rfl
  ·cases (y==x)<;>cases (y==0)<;>cases (x==0)<;>rfl
 ·refine Eq.trans ?_ (s3.trans ?_)
  ·rfl
  ·cases (y==x)<;>cases (y==0)<;>cases (x==0)<;>rfl
 ·exact s1 1
 ·exact s1 1
theorem wd (o x y:Int) (h:o=9∨o=10):cE.F (o,[x],())=cL.F (o,y,x,()):=by
 rw [cE.eq,cL.eq];unfold cE.B cL.B
 have a1:∀k,eF.F (k,[x],())=some ((x==k||x==0)&&true,()):=fun k=>by rw [BZ _ _ (by simp)];rfl
 simp only [a1,Qa]
 rcases h with rfl|rfl
 ·show (some ((1:Int),(x==1||x==0)&&true,()):Option (Int×Bool×Unit))=(bif (x==(1:Int)) then some ((1:Int),true,()) else some ((1:Int),(x==(0:Int)),()))
  cases (x==1)<;>cases (x==0)<;>rfl
 ·rfl
end Go.Proofs.Ytpoffnlnhdbpmaa
end
section
set_option maxRecDepth 100000
namespace Go.Proofs.Ytpoffnlnhdbpmaa
open Go Lv Go.Proofs Go.RowKit Go.Shelf
variable [Lk]
theorem kQ (o:Int):tkn o=0∨tkn o=1∨tkn o=2∨tkn o=-1:=by
 unfold tkn
 split
 ·exact .inl rfl
 ·split
  ·exact .inr (.inl rfl)
  ·split
   ·exact .inr (.inr (.inl rfl))
   ·exact .inr (.inr (.inr rfl))
theorem we (ok:Bool) (ks:List Int):bx.F (ok,ks,[],())=some (0,false,ks,[],()):=by
 rw [bx.eq];rfl
theorem wg (ok:Bool) (ks s:List Int) (x:Int) (h:s.length≤10000):bx.F (ok,ks,s++ [x],())=some (x,ok,ks,s,()):=by
 rw [bx.eq];unfold bx.B
 have hw:wr (((s++ [x]).length:Int)-1)=(s.length:Int):=by simp;exact bB (by omega) (by omega)
 have e0:(((s++ [x]).length:Int)==0)=false:=by simp;omega
 have e1:ib (s.length:Int) ((s++ [x]).length:Int)=true:=by simp;omega
 have e2:sb 0 (s.length:Int) ((s++ [x]).length:Int)=true:=by simp;omega
 dsimp only
 simp only [hw,e0,e1,e2,Qb,ckT,Int.toNat_natCast]
 simp
theorem C5 (k:Int) (ok:Bool) (ks s:List Int) (h:s.length≤10000):br.F (k,ok,ks,s,())=some (ok,ks,s++ [k],()):=by
 rw [br.eq];unfold br.B
 have e:Nat.ble (s.length+ [k].length) 17592186044416=true:=by simp;omega
 dsimp only
 rw [e]
 rfl
noncomputable def kR (t:Int):Int×List Int×Bool×List Int×List Int×Unit→Option ((Int×List Int×Bool×List Int×List Int×Unit)⊕((List Int×Bool×List Int×List Int×Unit)⊕(Bool×Bool×List Int×List Int×Unit))):=fun (x11,o5_0,o0_0_1,o0_0_2,o0_0_0,_)=>
 (bif (decide (x11<t)) then
 (bx.F (o0_0_1,o0_0_2,o0_0_0,())).bind fun y2=>
 ck (Nat.ble (o5_0.length+ [y2.1].length) 17592186044416)<|
 let e3:Int:=(wr (x11+(1:Int)))
 il (e3,(o5_0++ [y2.1]),y2.2.1,y2.2.2.1,y2.2.2.2.1,())
 else
 ir (.inl (o5_0,o0_0_1,o0_0_2,o0_0_0,())))
theorem xk (o b c d : Int) (s : ByteArray) (ks st : List Int) (hst : st.length ≤ 10000) (h : tkn o < 0 ∨ (st.length : Int) < tkn o) : ∃ y,cg.F (o,b,c,d,s,true,ks,st,()) = some (false,y) := by
  rw [cg.eq];unfold cg.B
  simp only [(kA o).2,Qa]
  have fin:∀(x:Option ((List Int×Bool×List Int×List Int×Unit)⊕(Bool×Bool×List Int×List Int×Unit))) (k),(∃l ok' ks' st',aN (kR (tkn o)) ((0:Int),[],true,ks,st,())=some (.inl (l,ok',ks',st',()))∧(ok'=false∨tkn o<0))→
      x=aN (kR (tkn o)) ((0:Int),[],true,ks,st,())→
      (∀l ok' ks' st',(ok'=false∨tkn o<0)→∃y,k (l,ok',ks',st',())=some (false,y))→∃y,jn x k=some (false,y):=by
    rintro x k ⟨l,ok',ks',st',h1,h2⟩ rfl hk
    rw [h1]
    exact hk _ _ _ _ h2
  refine fin _ _ ?_ rfl ?_
  · rcases kQ o with e|e|e|e
    · omega
    · have:st=[]:=by cases st with
        |nil=>rfl
        |cons _ _=>simp at h;omega
      subst this
      rw [e]
      refine ⟨[0],false,ks,[],?_,.inl rfl⟩
      rw [dC]
      simp only [kR,we]
      show aN (kR 1) ((1:Int),[0],false,ks,[],())=_
      rw [dC]
      rfl
    · rw [e]
      have:st=[]∨∃x,st=[x]:=by
        rcases st with _|⟨x,_|⟨y,r⟩⟩
        · exact .inl rfl
        · exact .inr ⟨x,rfl⟩
        · simp at h;omega
      rcases this with rfl|⟨x,rfl⟩
      · refine ⟨[0,0],false,ks,[],?_,.inl rfl⟩
        rw [dC]
        simp only [kR,we]
        show aN (kR 2) ((1:Int),[0],false,ks,[],())=_
        rw [dC]
        simp only [kR,we]
        show aN (kR 2) ((2:Int),[0,0],false,ks,[],())=_
        rw [dC]
        rfl
      · refine ⟨[x,0],false,ks,[],?_,.inl rfl⟩
        have p1:=wg true ks [] x (by simp)
        have p1:bx.F (true,ks,[x],())=_:=p1
        rw [dC]
        simp only [kR,p1]
        show aN (kR 2) ((1:Int),[x],true,ks,[],())=_
        rw [dC]
        simp only [kR,we]
        show aN (kR 2) ((2:Int),[x,0],false,ks,[],())=_
        rw [dC]
        rfl
    · rw [e]
      refine ⟨[],true,ks,st,?_,.inr (by omega)⟩
      rw [dC]
      rfl
  · intro l ok' ks' st' h
    have:∀x:Bool,x=true→∃y,(bif x then some (false,ok',ks',st',()) else none:Option (Bool×Bool×List Int×List Int×Unit))=some (false,y):=fun x hx=>by subst hx;exact ⟨_,rfl⟩
    cases ok' with
    |false=>exact ⟨_,rfl⟩
    |true=>
      have:decide (tkn o<0)=true:=by simp;rcases h with h|h;cases h;exact h
      simp only [(kA o).2,Qa,this,jn,il,Bool.not_true,Qb]
      exact ⟨_,rfl⟩
theorem zG (o b c d : Int) (s : ByteArray) (ks st l : List Int) (hst : st.length ≤ 9000) (h : (l.length : Int) = tkn o) : cg.F (o,b,c,d,s,true,ks,st ++ l,()) =
    (bif (o==(0:Int)) then (bif decide (0≤b∧b<(ks.length:Int)∧1≤gt ks b 0∧gt ks b 0≤3) then some (true,true,ks,st++ [gt ks b 0],()) else some (false,true,ks,st,())) else
      bif (o==(1:Int)) then (dQ.F (c,d,s,())).bind fun y=>some (y.1,true,ks,st++ [c],()) else
      (cE.F (o,l.reverse,())).bind fun y=>some (y.2.1,true,ks,st++ [y.1],())):=by
  rw [cg.eq];unfold cg.B
  simp only [(kA o).2,Qa]
  have L:aN (kR (tkn o)) ((0:Int),[],true,ks,st++l,())=some (.inl (l.reverse,true,ks,st,())):=by
    rw [←h]
    match l,h with
    | [],_=>rw [dC];simp [kR,ir]
    | [x],_=>
      rw [dC]
      simp only [kR,wg true ks st x (by omega)]
      show aN (kR 1) ((1:Int),[x],true,ks,st,())=_
      rw [dC]
      rfl
    | [x,y],_=>
      have p:=wg true ks (st++ [x]) y (by simp;omega)
      rw [List.append_assoc] at p
      rw [dC]
      simp only [kR,show st++ [x,y]=st++([x]++ [y]) from rfl,p]
      show aN (kR 2) ((1:Int),[y],true,ks,st++ [x],())=_
      rw [dC]
      simp only [kR,wg true ks st x (by omega)]
      show aN (kR 2) ((2:Int),[y,x],true,ks,st,())=_
      rw [dC]
      rfl
    |_::_::_::r,h=>
      have:=kQ o
      simp at h
      omega
  refine (congrArg (fun x=>jn x _) L).trans ?_
  have t0:decide (tkn o<0)=false:=by simp;omega
  simp only [jn,Qa,il,t0,Bool.not_true,Qb,C5 _ _ _ st (by omega),uS]
  cases (o==(0:Int)) with
  |false=>rfl
  |true=>
    simp only [Qc]
    by_cases h1:b<0
    · have:¬(0≤b∧b<(ks.length:Int)∧1≤gt ks b 0∧gt ks b 0≤3):=by omega
      simp [h1,this]
    · by_cases h2:b≥(ks.length:Int)
      · have:¬(0≤b∧b<(ks.length:Int)∧1≤gt ks b 0∧gt ks b 0≤3):=by omega
        simp only [h1,h2,this,decide_true,decide_false,Qc,Qb,Qa]
      · have e1:ib b (ks.length:Int)=true:=by simp;omega
        simp only [h1,h2,e1,ckT,decide_true,decide_false,Qc,Qb,Qa]
        by_cases h3:gt ks b 0<1
        · have:¬(0≤b∧b<(ks.length:Int)∧1≤gt ks b 0∧gt ks b 0≤3):=by omega
          simp only [h3,this,decide_true,decide_false,Qc,Qb,Qa]
        · by_cases h4:gt ks b 0>3
          · have:¬(0≤b∧b<(ks.length:Int)∧1≤gt ks b 0∧gt ks b 0≤3):=by omega
            simp only [h3,h4,this,decide_true,decide_false,Qc,Qb,Qa]
          · have:0≤b∧b<(ks.length:Int)∧1≤gt ks b 0∧gt ks b 0≤3:=by omega
            simp only [h3,h4,this,decide_true,decide_false,Qc,Qb,Qa,and_self]
theorem C6 (    e : List ak) (ks : List Int) : eU.F (e,ks,()) = fc.F (e,ks,()) := by
  refine (zF (uE e ks) (vN e ks) ?_).symm
  rw [fc.eq,eU.eq];unfold fc.B eU.B
  dsimp only
  cases hl:decide ((e.length:Int)>(100:Int)) with
  |true=>exact aF (aF rfl)
  |false=>
  have hl:e.length≤100:=by simp at hl;omega
  simp only [Qb]
  refine jK (fun s t=>t=(true,ks,s.1,())) ?_ ?_
  · refine iZ     (fun s t => ∃ i : Nat,s.1 = (i : Int) ∧ i ≤ e.length ∧ s.2.1.length ≤ i ∧ t = (s.1,true,ks,s.2.1,())) ⟨0,rfl,by omega,by simp,rfl⟩ ?_
    rintro ⟨_,st,_⟩ _ ⟨i,rfl,h1,h2,rfl⟩
    dsimp only at h2 ⊢
    by_cases h5:i<e.length
    rotate_left 1
    · have d1:decide ((i:Int)<(e.length:Int))=false:=by simp;omega
      simp only [d1,Qb]
      exact aL (aL rfl)
    have d1:decide ((i:Int)<(e.length:Int))=true:=by simp;omega
    have i1:ib (i:Int) (e.length:Int)=true:=by simp;omega
    simp only [d1,i1,ckT,Qc,cD h5,(kA _).1,Qa,wrn h5 (by omega:e.length≤1000000)]
    generalize e[i]=n
    obtain ⟨o,b,c,d,s⟩:=n
    dsimp only
    by_cases hbad:tkn o<0∨(st.length:Int)<tkn o
    · obtain ⟨y,hy⟩:=xk o b c d s ks st (by omega) hbad
      simp only [hy,Qa,Bool.not_false,Qc]
      by_cases h6:tkn o<0
      · simp only [h6,decide_true,Qc]
        exact aL (aL rfl)
      · have h7:(st.length:Int)<tkn o:=by omega
        simp only [h6,h7,decide_true,decide_false,Qc,Qb]
        exact aL (aL rfl)
    · have t0 := kQ o
      have h6:¬tkn o<0:=fun h=>hbad (.inl h)
      have h7:¬(st.length:Int)<tkn o:=fun h=>hbad (.inr h)
      obtain ⟨s',l,rfl,hlen⟩:∃s' l,st=s'++l∧(l.length:Int)=tkn o:=⟨st.take (st.length-(tkn o).toNat),st.drop (st.length-(tkn o).toNat),(List.take_append_drop _ _).symm,by simp;omega⟩
      have hs':s'.length≤9000:=by simp at h2;omega
      have w1:wr (((s'++l).length:Int)-tkn o)=(s'.length:Int):=by rw [←hlen,show ((s'++l).length:Int)-(l.length:Int)=s'.length by simp];exact bB (by omega) (by omega)
      have ts:List.take s'.length (s'++l)=s':=by simp
      have sb1:sb 0 (s'.length:Int) ((s'++l).length:Int)=true:=by simp;omega
      have nb1:Nat.ble (([]:List Int).length+s'.length) 17592186044416=true:=by simp;omega
      have nb2:∀x:Int,Nat.ble (([]:List Int)++s').length.succ 17592186044416=true:=fun x=>by simp;omega
      have nb3:∀x:Int,Nat.ble ((([]:List Int)++s').length+ [x].length) 17592186044416=true:=fun x=>by simp;omega
      rw [zG o b c d s ks s' l hs' hlen]
      simp only [h6,h7,w1,sb1,ckT,nb1,nb3,Int.toNat_natCast,ts,decide_false,Qb]
      have bad:∀{P:_→_→Prop},P (Sum.inr (Sum.inr ((0:Int),(30:Int),()))) (Sum.inr (Sum.inr ((0:Int),(30:Int),())))→Par (ir (S:=Int×List Int×Unit) (Sum.inr (α:=List Int×Unit) ((0:Int),(30:Int),()))) fun z=>Par (ir (S:=Int×Bool×List Int×List Int×Unit) (Sum.inr (α:=Bool×List Int×List Int×Unit) ((0:Int),(30:Int),()))) fun w=>P z w:=fun h=>aL (aL h)
      rcases t0 with e0|e0|e0|e0
      · have hl0:l=[]:=List.length_eq_zero_iff.1 (by omega)
        subst hl0
        have ho:o=0∨o=1:=by
          unfold tkn at e0
          split at e0
          · assumption
          · split at e0
            · cases e0
            · split at e0<;>cases e0
        obtain ⟨⟨kv,kf,_⟩,hL,_⟩:=ki o 0 0
        simp only [e0,show decide ((0:Int)>0)=false from rfl,show decide ((0:Int)>1)=false from rfl,jn,il,Qa,Qb,hL]
        rcases ho with rfl|rfl
        · simp only [beq_self_eq_true,Qc,show ((0:Int)==1)=false from rfl,Qb]
          by_cases g1:b≥0
          · by_cases g2:b<(ks.length:Int)
            · have i2:ib b (ks.length:Int)=true:=by simp;omega
              by_cases g3:gt ks b 0≥1
              · by_cases g4:gt ks b 0≤3
                · have g5:0≤b∧b<(ks.length:Int)∧1≤gt ks b 0∧gt ks b 0≤3:=by omega
                  simp only [g1,g2,g3,g4,g5,i2,ckT,decide_true,and_self,Qc,Qa,Bool.not_true,Qb]
                  exact aC (aC ⟨i+1,rfl,by omega,by simp at h2 ⊢;omega,rfl⟩)
                · have g5:¬(0≤b∧b<(ks.length:Int)∧1≤gt ks b 0∧gt ks b 0≤3):=by omega
                  simp only [g1,g2,g3,g4,g5,i2,ckT,decide_true,decide_false,Qc,Qa,Bool.not_true,Bool.not_false,Qb]
                  exact aL (aL rfl)
              · have g5:¬(0≤b∧b<(ks.length:Int)∧1≤gt ks b 0∧gt ks b 0≤3):=by omega
                simp only [g1,g2,g3,g5,i2,ckT,decide_true,decide_false,Qc,Qa,Bool.not_true,Bool.not_false,Qb]
                exact aL (aL rfl)
            · have g5:¬(0≤b∧b<(ks.length:Int)∧1≤gt ks b 0∧gt ks b 0≤3):=by omega
              simp only [g1,g2,g5,ckT,decide_true,decide_false,Qc,Qa,Bool.not_true,Bool.not_false,Qb]
              exact aL (aL rfl)
          · have g5:¬(0≤b∧b<(ks.length:Int)∧1≤gt ks b 0∧gt ks b 0≤3):=by omega
            simp only [g1,g5,ckT,decide_true,decide_false,Qc,Qa,Bool.not_true,Bool.not_false,Qb]
            exact aL (aL rfl)
        · simp only [show ((1:Int)==0)=false from rfl,beq_self_eq_true,Qc,Qb,Qa]
          obtain ⟨⟨m,_⟩,hm,_⟩:=pw c d s
          simp only [hm,Qa]
          cases m with
          |true=>exact aC (aC ⟨i+1,rfl,by omega,by simp at h2 ⊢;omega,rfl⟩)
          |false=>exact aL (aL rfl)
      · obtain ⟨x,rfl⟩:∃x,l=[x]:=List.length_eq_one_iff.1 (by omega)
        have ho:o=9∨o=10:=by
          unfold tkn at e0
          split at e0
          · cases e0
          · split at e0
            · assumption
            · split at e0<;>cases e0
        have w2:wr (((s'++ [x]).length:Int)-1)=(s'.length:Int):=by rw [←w1,e0]
        have i2:ib (s'.length:Int) ((s'++ [x]).length:Int)=true:=by simp;omega
        have g2:List.getD (s'++ [x]) s'.length 0=x:=by simp
        have o0:(o==0)=false:=by simp;omega
        have o1:(o==1)=false:=by simp;omega
        obtain ⟨⟨kv,kf,_⟩,hL,_⟩:=ki o 0 x
        simp only [e0,show decide ((1:Int)>0)=true from rfl,show decide ((1:Int)>1)=false from rfl,jn,il,Qa,Qb,Qc,w2,i2,ckT,Int.toNat_natCast,g2,hL,o0,o1,show [x].reverse=[x] from rfl,wd o x 0 ho]
        cases kf with
        |true=>exact aC (aC ⟨i+1,rfl,by omega,by simp at h2 ⊢;omega,rfl⟩)
        |false=>exact aL (aL rfl)
      · obtain ⟨y,x,rfl⟩:∃y x,l=[y,x]:=by
          have h:l.length=2:=by omega
          exact match l,h with
            | [a,b],_=>⟨a,b,rfl⟩
        have ho:2≤o∧o≤8:=by
          unfold tkn at e0
          split at e0
          · cases e0
          · split at e0
            · cases e0
            · split at e0
              · assumption
              · cases e0
        have w2:wr (((s'++ [y,x]).length:Int)-2)=(s'.length:Int):=by rw [←w1,e0]
        have w3:wr (((s'++ [y,x]).length:Int)-1)=((s'.length+1:Nat):Int):=by rw [bB (by simp;omega) (by simp;omega)];simp;omega
        have i2:ib (s'.length:Int) ((s'++ [y,x]).length:Int)=true:=by simp;omega
        have i3:ib ((s'.length+1:Nat):Int) ((s'++ [y,x]).length:Int)=true:=by simp;omega
        have g2:List.getD (s'++ [y,x]) s'.length 0=y:=by simp
        have g3:List.getD (s'++ [y,x]) (s'.length+1) 0=x:=by simp
        have o0:(o==0)=false:=by simp;omega
        have o1:(o==1)=false:=by simp;omega
        obtain ⟨⟨kv,kf,_⟩,hL,_⟩:=ki o y x
        simp only [e0,show decide ((2:Int)>0)=true from rfl,show decide ((2:Int)>1)=true from rfl,jn,il,Qa,Qb,Qc,w2,w3,i2,i3,ckT,Int.toNat_natCast,g2,g3,hL,o0,o1,show [y,x].reverse=[x,y] from rfl,wc o x y ho]
        cases kf with
        |true=>exact aC (aC ⟨i+1,rfl,by omega,by simp at h2 ⊢;omega,rfl⟩)
        |false=>exact aL (aL rfl)
      · omega
  · rintro ⟨st,_⟩ _ rfl
    dsimp only
    rw [b7.eq];unfold b7.B
    dsimp only
    simp only [Bool.not_true,Qb]
    by_cases h:st.length=1
    · have e1:((st.length:Int) !=1)=false:=by simp;omega
      have e2:ib 0 (st.length:Int)=true:=by simp;omega
      simp only [e1,e2,ckT,Qb,Qa,Qc]
      exact aF (aF rfl)
    · have e1:((st.length:Int) !=1)=true:=by simp;omega
      simp only [e1,Qc,Qa,Qb]
      exact aF (aF rfl)
end Go.Proofs.Ytpoffnlnhdbpmaa
end
section
set_option maxRecDepth 100000
namespace Go.Proofs.Ytpoffnlnhdbpmaa
open Go Lv Go.Proofs Go.RowKit Go.Shelf
section
variable {α β γ δ S R:Type}
theorem nX {x:Option α} {y:Option β} {k1:α→Option γ} {k2:β→Option δ} {P:γ→δ→Prop} (h:Par x fun a=>Par y fun b=>Par (k1 a) fun r=>Par (k2 b) fun q=>P r q):
 Par (Option.bind x k1) fun r=>Par (Option.bind y k2) fun q=>P r q:=by
 intro r hr q hq
 cases hx:x with
 |none=>rw [hx] at hr;cases hr
 |some a=>
  cases hy:y with
  |none=>rw [hy] at hq;cases hq
  |some b=>
   rw [hx] at hr
   rw [hy] at hq
   exact h a hx b hy r hr q hq
theorem mN {x:Option (S⊕R)} {k:S→Option R} {P:R→Prop} (h:Par x fun z=>match z with| .inl s=>Par (k s) P| .inr r=>P r):Par (jn x k) P:=by
 refine bo (h.mono fun z hz=>?_)
 cases z with
 |inl s=>exact hz
 |inr r=>exact aF hz
theorem Tot.p {x:Option α} {P:α→Prop} (h:Tot x P):Par x P:=by
 obtain ⟨y,e,hp⟩:=h
 intro z hz
 rw [e] at hz
 cases hz
 exact hp
end
variable [Lk]
theorem tk_s (n:ByteArray) (cs:List aB) (es:List (List ak)) (h:cs.length≤400):bZ.F (n,cs,es,())=some (cs.map (fun x=>x.2.1),cs.map (fun x=>x.2.2.1),()):=by
 have:Tot (bZ.F (n,cs,es,())) fun y=>y=(cs.map (fun x=>x.2.1),cs.map (fun x=>x.2.2.1),()):=by
  rw [bZ.eq];unfold bZ.B
  refine dk (fun x=>cs.length-x.1.toNat) (fun x=>∃i:Nat,x.1=(i:Int)∧i≤cs.length∧x.2.1=(cs.take i).map (fun x=>x.2.1)∧x.2.2.1=(cs.take i).map (fun x=>x.2.2.1)) ⟨0,rfl,by omega,rfl,rfl⟩ ?_
  rintro ⟨_,l,m,_⟩ ⟨i,rfl,i2,i3,i4⟩
  dsimp only at i3 i4 ⊢
  subst i3 i4
  refine ac.2 ⟨fun h5=>?_,fun h5=>aH.2 ?_⟩
  ·simp at h5
   simp only [cD h5,wrn h5 (by omega:cs.length≤1000000)]
   refine ah.2 ⟨by simp;omega,ah.2 ⟨by simp;omega,ah.2 ⟨by simp;omega,ah.2 ⟨by simp;omega,av.2 ⟨⟨i+1,rfl,h5,?_,?_⟩,by dsimp only;omega⟩⟩⟩⟩⟩<;>dsimp only<;>rw [←List.take_append_getElem h5,List.map_append]<;>rfl
  ·simp at h5
   rw [List.take_of_length_le (by omega)]
 obtain ⟨_,e,rfl⟩:=this
 exact e
theorem B0 (c:List bL) (d:bL) (hk:d.1=0) (h:d.2.1.2.1.length≤400) (f:TS aI.d.si→Option (TS aI.d.so)):aA.b f (c,dA d)=some (d.2.1.2.1.map (fun x=>x.2.1),d.2.1.2.1.map (fun x=>x.2.2.1),()):=by
 have:Tot (aA.b f (c,dA d)) fun y=>y=(d.2.1.2.1.map (fun x=>x.2.1),d.2.1.2.1.map (fun x=>x.2.2.1),()):=by
  unfold aA.b
  have e:(d.1==0)=true:=by simpa using hk
  dsimp only
  rw [e,Qc]
  generalize d.2.1.2.1=cs at h ⊢
  refine aY (fun _=>False) ?_ (fun _ h=>h.elim)
  refine dk (fun x=>cs.length-x.1.toNat) (fun x=>∃i:Nat,x.1=(i:Int)∧i≤cs.length∧x.2.1=(cs.take i).map (fun x=>x.2.1)∧x.2.2.1=(cs.take i).map (fun x=>x.2.2.1)) ⟨0,rfl,by omega,rfl,rfl⟩ ?_
  rintro ⟨_,l,m,_⟩ ⟨i,rfl,i2,i3,i4⟩
  dsimp only at i3 i4 ⊢
  subst i3 i4
  refine ac.2 ⟨fun h5=>?_,fun h5=>aH.2 ?_⟩
  ·simp at h5
   simp only [cD h5,wrn h5 (by omega:cs.length≤1000000)]
   refine ah.2 ⟨by simp;omega,ah.2 ⟨by simp;omega,ah.2 ⟨by simp;omega,av.2 ⟨⟨i+1,rfl,h5,?_,?_⟩,by dsimp only;omega⟩⟩⟩⟩<;>dsimp only<;>rw [←List.take_append_getElem h5,List.map_append]<;>rfl
  ·simp at h5
   dsimp only
   rw [List.take_of_length_le (by omega)]
 obtain ⟨_,e,rfl⟩:=this
 exact e
theorem tJ (c:List bL) (hc:c.length<1000000000000000) (f:TS cF.d.si→Option (TS cF.d.so)) (g:TS aA.d.si→Option (TS aA.d.so)) (h:∀d∈c,Par (f (c,dA d)) fun y=>Par (g (c,dA d)) fun z=>y.1=z.1)
 (vn vf vw:ByteArray) (o1 o2:Int) (wh:List ak) (pk:List Int) (gr:Bool) (ag:List cU):Par (bu.b f (c,vn,vf,vw,o1,o2,wh,pk,gr,ag,())) fun y=>Par (aI.b g (c,vn,vf,vw,o1,o2,wh,pk,gr,ag,())) fun z=>y.1=z.1:=by
 unfold bu.b aI.b
 dsimp only
 simp only [kD c _ hc,jW c _ hc,Qa]
 refine ay fun i1=>?_
 simp only [i1,ckT]
 rw [iq] at i1
 refine nX ((h _ (d9 i1.1 i1.2)).mono fun y hy=>hy.mono fun z hz=>?_)
 cases hs:sq vw (⟨#[]⟩:ByteArray) with
 |true=>exact aF (aF hz)
 |false=>
  simp only [Bool.not_false,Qc,Qb]
  refine ay fun i2=>?_
  simp only [i2,ckT]
  rw [iq] at i2
  refine nX ((h _ (d9 i2.1 i2.2)).mono fun y2 hy2=>hy2.mono fun z2 hz2=>?_)
  refine ay fun _=>ay fun _=>aF (ay fun _=>aF ?_)
  dsimp only
  rw [hz,hz2,List.nil_append]
theorem of_x (c : List bL) (d : bL) (h1 : d.2.1.2.1.length ≤ 400) (h2 : d.1 ≠ 0 → ∀ a ∈ d.2.2.2.2.2.2.2.2.2,a.1 ≤ 3) (f : TS bu.d.si → Option (TS bu.d.so)) (g : TS aI.d.si → Option (TS aI.d.so))
    (h:Par (f (c,d.2.2.1,d.2.2.2.1,d.2.2.2.2.1,d.2.2.2.2.2.1.1,d.2.2.2.2.2.1.2,d.2.2.2.2.2.2.1,d.2.2.2.2.2.2.2.1,d.2.2.2.2.2.2.2.2.1,d.2.2.2.2.2.2.2.2.2,())) fun y=>Par (g (c,d.2.2.1,d.2.2.2.1,d.2.2.2.2.1,d.2.2.2.2.2.1.1,d.2.2.2.2.2.1.2,d.2.2.2.2.2.2.1,d.2.2.2.2.2.2.2.1,d.2.2.2.2.2.2.2.2.1,d.2.2.2.2.2.2.2.2.2,())) fun z=>y.1=z.1):
    Par (cF.b f (c,dA d)) fun y=>Par (aA.b g (c,dA d)) fun z=>y.1=z.1:=by
  by_cases hk:d.1=0
  · rw [B0 c d hk h1 g]
    unfold cF.b
    have e:(d.1==0)=true:=by simpa using hk
    dsimp only
    rw [e,Qc,tk_s _ _ _ h1]
    exact aF (aF rfl)
  · have e : (d.1 == 0) = false := by simpa using hk
    have h2:=h2 hk
    unfold cF.b aA.b
    dsimp only
    rw [e]
    simp only [Qb]
    rw [show ∀(k:List Int×Unit→Option _),jn (S:=List Int×Unit) (il ([],())) k=k ([],()) from fun k=>rfl]
    refine nX (h.mono fun y hy=>hy.mono fun z hz=>?_)
    obtain ⟨J,_⟩:=y
    obtain ⟨J',_⟩:=z
    dsimp only at hz ⊢
    subst hz
    generalize d.2.2.2.2.2.2.2.1=pk at*
    generalize d.2.2.2.2.2.2.2.2.2=ag at*
    refine jK (fun s t=>s.1=t.1) ?_ ?_
    · refine iZ (fun s t=>s.1=t.1∧s.2.1=t.2.1) ⟨rfl,rfl⟩ ?_
      rintro ⟨i,l,m,_⟩ ⟨_,_,_⟩ ⟨rfl,rfl⟩
      dsimp only
      cases decide (i<(pk.length:Int)) with
      |false=>exact aL (aL rfl)
      |true=>exact ay fun _=>ay fun _=>ay fun _=>ay fun _=>aC (ay fun _=>ay fun _=>ay fun _=>aC ⟨rfl,rfl⟩)
    · rintro ⟨l,m,_⟩ ⟨_,_⟩ rfl
      dsimp only
      refine (iZ (P:=fun r q=>match q with| .inl s=>r.1=s.1| .inr r'=>r.1=r'.1) (fun s t=>s.1=t.1∧s.2.1=t.2.1) ⟨rfl,rfl⟩ ?_).mono fun r hr=>mN (hr.mono fun q hq=>?_)
      · rintro ⟨i,l,m,_⟩ ⟨_,_,_⟩ ⟨rfl,rfl⟩
        dsimp only
        cases decide (i<(ag.length:Int)) with
        |false=>exact aL (aL rfl)
        |true=>
          simp only [Qc]
          refine ay fun i1=>?_
          simp only [i1,ckT]
          rw [iq] at i1
          have:=h2 _ (d9 (z:=ep.z) i1.1 i1.2)
          by_cases g2:(gt ag i ep.z).1≥2
          · have g3:decide ((gt ag i ep.z).1≥2)=true:=by simpa using g2
            rw [g3]
            have:(gt ag i ep.z).1=2∨(gt ag i ep.z).1=3:=by omega
            rcases this with g|g
            · rw [g]
              exact ay fun _=>ay fun _=>ay fun _=>aC (ay fun _=>ay fun _=>aC ⟨rfl,rfl⟩)
            · rw [g]
              exact ay fun _=>ay fun _=>ay fun _=>aC (ay fun _=>ay fun _=>aC ⟨rfl,rfl⟩)
          · have g3:decide ((gt ag i ep.z).1≥2)=false:=by simpa using g2
            have g4:((gt ag i ep.z).1==2)=false:=by simp;omega
            have g5:((gt ag i ep.z).1==3)=false:=by simp;omega
            rw [g3,g4,g5]
            exact ay fun _=>ay fun _=>aC (ay fun _=>aC ⟨rfl,rfl⟩)
      · cases q with
        |inl s=>exact bo (fun _ _=>aF hq)
        |inr s=>exact hq
theorem r_x (c:List bL) (h:Gc c):∀(n:Nat),∀d∈c,Par (cF.r n (c,dA d)) fun y=>Par (aA.r n (c,dA d)) fun z=>y.1=z.1
 |0,d,hd=>iL
 |n+1,d,hd=>by
  obtain ⟨j,hj,rfl⟩:=List.getElem_of_mem hd
  have hl:=h.len
  show Par (cF.b (bu.b (cF.r n)) _) fun y=>Par (aA.b (aI.b (aA.r n)) _) _
  exact of_x c _ (h.s _ hd).s1 (fun hk a ha=>((h.g j hj).a0 hk a ha).2) _ _ (tJ c (by omega) _ _ (fun d hd=>r_x c h n d hd) _ _ _ _ _ _ _ _ _)
end Go.Proofs.Ytpoffnlnhdbpmaa
end
