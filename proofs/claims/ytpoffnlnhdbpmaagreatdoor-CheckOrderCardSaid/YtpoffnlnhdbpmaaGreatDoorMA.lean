import Derived.Test.YtpoffnlnhdbpmaaGreatDoorM9
set_option linter.all false
set_option linter.unusedVariables false
set_option linter.unusedSimpArgs false
set_option linter.unusedSectionVars false
section
set_option maxRecDepth 100000
namespace Go.Proofs.Ytpoffnlnhdbpmaa
open Go Lv Go.Proofs Go.RowKit Go.Shelf
variable [Lk]
theorem C3 (    e : List ao) (ks : List Int) : eO.F (e,ks,()) = eY.F (e,ks,()) := by
  refine (zF (ut e ks) (vA e ks) ?_).symm
  rw [eY.eq,eO.eq];unfold eY.B eO.B
  dsimp only
  cases hl:decide ((e.length:Int)>(100:Int)) with
  |true=>exact bi (bi rfl)
  |false=>
  have hl:e.length≤100:=by simp at hl;omega
  simp only [cond_false]
  refine lV (fun s t=>t=(true,ks,s.1,())) ?_ ?_
  · refine lU     (fun s t => ∃ i : Nat,s.1 = (i : Int) ∧ i ≤ e.length ∧ s.2.1.length ≤ i ∧ t = (s.1,true,ks,s.2.1,())) ⟨0,rfl,by omega,by simp,rfl⟩ ?_
    rintro ⟨_,st,_⟩ _ ⟨i,rfl,h1,h2,rfl⟩
    dsimp only at h2 ⊢
    by_cases h5:i<e.length
    rotate_left 1
    · have d1:decide ((i:Int)<(e.length:Int))=false:=by simp;omega
      simp only [d1,cond_false]
      exact bQ (bQ rfl)
    have d1:decide ((i:Int)<(e.length:Int))=true:=by simp;omega
    have i1:ib (i:Int) (e.length:Int)=true:=by simp;omega
    simp only [d1,i1,ckT,cond_true,cG h5,(ox _).1,Option.bind_some,wrn h5 (by omega:e.length≤1000000)]
    generalize e[i]=n
    obtain ⟨o,b,c,d,s⟩:=n
    dsimp only
    by_cases hbad:tkn o<0∨(st.length:Int)<tkn o
    · obtain ⟨y,hy⟩:=xa o b c d s ks st (by omega) hbad
      simp only [hy,Option.bind_some,Bool.not_false,cond_true]
      by_cases h6:tkn o<0
      · simp only [h6,decide_true,cond_true]
        exact bQ (bQ rfl)
      · have h7:(st.length:Int)<tkn o:=by omega
        simp only [h6,h7,decide_true,decide_false,cond_true,cond_false]
        exact bQ (bQ rfl)
    · have t0 := nR o
      have h6:¬tkn o<0:=fun h=>hbad (.inl h)
      have h7:¬(st.length:Int)<tkn o:=fun h=>hbad (.inr h)
      obtain ⟨s',l,rfl,hlen⟩:∃s' l,st=s'++l∧(l.length:Int)=tkn o:=⟨st.take (st.length-(tkn o).toNat),st.drop (st.length-(tkn o).toNat),(List.take_append_drop _ _).symm,by simp;omega⟩
      have hs':s'.length≤9000:=by simp at h2;omega
      have w1:wr (((s'++l).length:Int)-tkn o)=(s'.length:Int):=by rw [←hlen,show ((s'++l).length:Int)-(l.length:Int)=s'.length by simp];exact bF (by omega) (by omega)
      have ts:List.take s'.length (s'++l)=s':=by simp
      have sb1:sb 0 (s'.length:Int) ((s'++l).length:Int)=true:=by simp;omega
      have nb1:Nat.ble (([]:List Int).length+s'.length) 17592186044416=true:=by simp;omega
      have nb2:∀x:Int,Nat.ble (([]:List Int)++s').length.succ 17592186044416=true:=fun x=>by simp;omega
      have nb3:∀x:Int,Nat.ble ((([]:List Int)++s').length+ [x].length) 17592186044416=true:=fun x=>by simp;omega
      rw [zH o b c d s ks s' l hs' hlen]
      simp only [h6,h7,w1,sb1,ckT,nb1,nb3,Int.toNat_natCast,ts,decide_false,cond_false]
      have bad:∀{P:_→_→Prop},P (Sum.inr (Sum.inr ((0:Int),(30:Int),()))) (Sum.inr (Sum.inr ((0:Int),(30:Int),())))→Par (ir (S:=Int×List Int×Unit) (Sum.inr (α:=List Int×Unit) ((0:Int),(30:Int),()))) fun z=>Par (ir (S:=Int×Bool×List Int×List Int×Unit) (Sum.inr (α:=Bool×List Int×List Int×Unit) ((0:Int),(30:Int),()))) fun w=>P z w:=fun h=>bQ (bQ h)
      rcases t0 with e0|e0|e0|e0
      · have hl0:l=[]:=List.length_eq_zero_iff.1 (by omega)
        subst hl0
        have ho:o=0∨o=1:=by
          unfold tkn at e0
          split at e0
          · assumption
          · split at e0
            · cases e0
            · split at e0<;>cases e0
        obtain ⟨⟨kv,kf,_⟩,hL,_⟩:=na o 0 0
        simp only [e0,show decide ((0:Int)>0)=false from rfl,show decide ((0:Int)>1)=false from rfl,jn,il,Option.bind_some,cond_false,hL]
        rcases ho with rfl|rfl
        · simp only [beq_self_eq_true,cond_true,show ((0:Int)==1)=false from rfl,cond_false]
          by_cases g1:b≥0
          · by_cases g2:b<(ks.length:Int)
            · have i2:ib b (ks.length:Int)=true:=by simp;omega
              by_cases g3:gt ks b 0≥1
              · by_cases g4:gt ks b 0≤3
                · have g5:0≤b∧b<(ks.length:Int)∧1≤gt ks b 0∧gt ks b 0≤3:=by omega
                  simp only [g1,g2,g3,g4,g5,i2,ckT,decide_true,and_self,cond_true,Option.bind_some,Bool.not_true,cond_false]
                  exact aV (aV ⟨i+1,rfl,by omega,by simp at h2 ⊢;omega,rfl⟩)
                · have g5:¬(0≤b∧b<(ks.length:Int)∧1≤gt ks b 0∧gt ks b 0≤3):=by omega
                  simp only [g1,g2,g3,g4,g5,i2,ckT,decide_true,decide_false,cond_true,Option.bind_some,Bool.not_true,Bool.not_false,cond_false]
                  exact bQ (bQ rfl)
              · have g5:¬(0≤b∧b<(ks.length:Int)∧1≤gt ks b 0∧gt ks b 0≤3):=by omega
                simp only [g1,g2,g3,g5,i2,ckT,decide_true,decide_false,cond_true,Option.bind_some,Bool.not_true,Bool.not_false,cond_false]
                exact bQ (bQ rfl)
            · have g5:¬(0≤b∧b<(ks.length:Int)∧1≤gt ks b 0∧gt ks b 0≤3):=by omega
              simp only [g1,g2,g5,ckT,decide_true,decide_false,cond_true,Option.bind_some,Bool.not_true,Bool.not_false,cond_false]
              exact bQ (bQ rfl)
          · have g5:¬(0≤b∧b<(ks.length:Int)∧1≤gt ks b 0∧gt ks b 0≤3):=by omega
            simp only [g1,g5,ckT,decide_true,decide_false,cond_true,Option.bind_some,Bool.not_true,Bool.not_false,cond_false]
            exact bQ (bQ rfl)
        · simp only [show ((1:Int)==0)=false from rfl,beq_self_eq_true,cond_true,cond_false,Option.bind_some]
          obtain ⟨⟨m,_⟩,hm,_⟩:=sL c d s
          simp only [hm,Option.bind_some]
          cases m with
          |true=>exact aV (aV ⟨i+1,rfl,by omega,by simp at h2 ⊢;omega,rfl⟩)
          |false=>exact bQ (bQ rfl)
      · obtain ⟨x,rfl⟩:∃x,l=[x]:=List.length_eq_one_iff.1 (by omega)
        have ho:o=9∨o=10:=by
          unfold tkn at e0
          split at e0
          · cases e0
          · split at e0
            · assumption
            · split at e0<;>cases e0
        have w2:wr (((s'++ [x]).length:Int)-1)=(s'.length:Int):=by rw [←w1,e0]
        have i2:ib (s'.length:Int) ((s'++ [x]).length:Int)=true:=by simp;omega
        have g2:List.getD (s'++ [x]) s'.length 0=x:=by simp
        have o0:(o==0)=false:=by simp;omega
        have o1:(o==1)=false:=by simp;omega
        obtain ⟨⟨kv,kf,_⟩,hL,_⟩:=na o 0 x
        simp only [e0,show decide ((1:Int)>0)=true from rfl,show decide ((1:Int)>1)=false from rfl,jn,il,Option.bind_some,cond_false,cond_true,w2,i2,ckT,Int.toNat_natCast,g2,hL,o0,o1,show [x].reverse=[x] from rfl,Bh o x 0 ho]
        cases kf with
        |true=>exact aV (aV ⟨i+1,rfl,by omega,by simp at h2 ⊢;omega,rfl⟩)
        |false=>exact bQ (bQ rfl)
      · obtain ⟨y,x,rfl⟩:∃y x,l=[y,x]:=by
          have h:l.length=2:=by omega
          exact match l,h with
            | [a,b],_=>⟨a,b,rfl⟩
        have ho:2≤o∧o≤8:=by
          unfold tkn at e0
          split at e0
          · cases e0
          · split at e0
            · cases e0
            · split at e0
              · assumption
              · cases e0
        have w2:wr (((s'++ [y,x]).length:Int)-2)=(s'.length:Int):=by rw [←w1,e0]
        have w3:wr (((s'++ [y,x]).length:Int)-1)=((s'.length+1:Nat):Int):=by rw [bF (by simp;omega) (by simp;omega)];simp;omega
        have i2:ib (s'.length:Int) ((s'++ [y,x]).length:Int)=true:=by simp;omega
        have i3:ib ((s'.length+1:Nat):Int) ((s'++ [y,x]).length:Int)=true:=by simp;omega
        have g2:List.getD (s'++ [y,x]) s'.length 0=y:=by simp
        have g3:List.getD (s'++ [y,x]) (s'.length+1) 0=x:=by simp
        have o0:(o==0)=false:=by simp;omega
        have o1:(o==1)=false:=by simp;omega
        obtain ⟨⟨kv,kf,_⟩,hL,_⟩:=na o y x
        simp only [e0,show decide ((2:Int)>0)=true from rfl,show decide ((2:Int)>1)=true from rfl,jn,il,Option.bind_some,cond_false,cond_true,w2,w3,i2,i3,ckT,Int.toNat_natCast,g2,g3,hL,o0,o1,show [y,x].reverse=[x,y] from rfl,Bg o x y ho]
        cases kf with
        |true=>exact aV (aV ⟨i+1,rfl,by omega,by simp at h2 ⊢;omega,rfl⟩)
        |false=>exact bQ (bQ rfl)
      · omega
  · rintro ⟨st,_⟩ _ rfl
    dsimp only
    rw [bW.eq];unfold bW.B
    dsimp only
    simp only [Bool.not_true,cond_false]
    by_cases h:st.length=1
    · have e1:((st.length:Int) !=1)=false:=by simp;omega
      have e2:ib 0 (st.length:Int)=true:=by simp;omega
      simp only [e1,e2,ckT,cond_false,Option.bind_some,cond_true]
      exact bi (bi rfl)
    · have e1:((st.length:Int) !=1)=true:=by simp;omega
      simp only [e1,cond_true,Option.bind_some,cond_false]
      exact bi (bi rfl)
end Go.Proofs.Ytpoffnlnhdbpmaa
end
section
set_option maxRecDepth 100000
namespace Go.Proofs.Ytpoffnlnhdbpmaa
open Go Lv Go.Proofs Go.RowKit Go.Shelf
section
variable {α β γ δ S R:Type}
theorem px {x:Option α} {y:Option β} {k1:α→Option γ} {k2:β→Option δ} {P:γ→δ→Prop} (h:Par x fun a=>Par y fun b=>Par (k1 a) fun r=>Par (k2 b) fun q=>P r q):
 Par (Option.bind x k1) fun r=>Par (Option.bind y k2) fun q=>P r q:=by
 intro r hr q hq
 cases hx:x with
 |none=>rw [hx] at hr;cases hr
 |some a=>
  cases hy:y with
  |none=>rw [hy] at hq;cases hq
  |some b=>
   rw [hx] at hr
   rw [hy] at hq
   exact h a hx b hy r hr q hq
theorem zI {x:Option (S⊕R)} {k:S→Option R} {P:R→Prop} (h:Par x fun z=>match z with| .inl s=>Par (k s) P| .inr r=>P r):Par (jn x k) P:=by
 refine bp (h.mono fun z hz=>?_)
 cases z with
 |inl s=>exact hz
 |inr r=>exact bi hz
theorem Tot.p {x:Option α} {P:α→Prop} (h:Tot x P):Par x P:=by
 obtain ⟨y,e,hp⟩:=h
 intro z hz
 rw [e] at hz
 cases hz
 exact hp
end
variable [Lk]
theorem tk_s (n:ByteArray) (cs:List aC) (es:List (List ao)) (h:cs.length≤400):bV.F (n,cs,es,())=some (cs.map (fun x=>x.2.1),cs.map (fun x=>x.2.2.1),()):=by
 have:Tot (bV.F (n,cs,es,())) fun y=>y=(cs.map (fun x=>x.2.1),cs.map (fun x=>x.2.2.1),()):=by
  rw [bV.eq];unfold bV.B
  refine cW (fun x=>cs.length-x.1.toNat) (fun x=>∃i:Nat,x.1=(i:Int)∧i≤cs.length∧x.2.1=(cs.take i).map (fun x=>x.2.1)∧x.2.2.1=(cs.take i).map (fun x=>x.2.2.1)) ⟨0,rfl,by omega,rfl,rfl⟩ ?_
  rintro ⟨_,l,m,_⟩ ⟨i,rfl,i2,i3,i4⟩
  dsimp only at i3 i4 ⊢
  subst i3 i4
  refine ac.2 ⟨fun h5=>?_,fun h5=>aE.2 ?_⟩
  ·simp at h5
   simp only [cG h5,wrn h5 (by omega:cs.length≤1000000)]
   refine ai.2 ⟨by simp;omega,ai.2 ⟨by simp;omega,ai.2 ⟨by simp;omega,ai.2 ⟨by simp;omega,ak.2 ⟨⟨i+1,rfl,h5,?_,?_⟩,by dsimp only;omega⟩⟩⟩⟩⟩<;>dsimp only<;>rw [←List.take_append_getElem h5,List.map_append]<;>rfl
  ·simp at h5
   rw [List.take_of_length_le (by omega)]
 obtain ⟨_,e,rfl⟩:=this
 exact e
theorem BX (c:List bx) (d:bx) (hk:d.1=0) (h:d.2.1.2.1.length≤400) (f:TS aI.d.si→Option (TS aI.d.so)):aA.b f (c,dA d)=some (d.2.1.2.1.map (fun x=>x.2.1),d.2.1.2.1.map (fun x=>x.2.2.1),()):=by
 have:Tot (aA.b f (c,dA d)) fun y=>y=(d.2.1.2.1.map (fun x=>x.2.1),d.2.1.2.1.map (fun x=>x.2.2.1),()):=by
  unfold aA.b
  have e:(d.1==0)=true:=by simpa using hk
  dsimp only
  rw [e,cond_true]
  generalize d.2.1.2.1=cs at h ⊢
  refine aR (fun _=>False) ?_ (fun _ h=>h.elim)
  refine cW (fun x=>cs.length-x.1.toNat) (fun x=>∃i:Nat,x.1=(i:Int)∧i≤cs.length∧x.2.1=(cs.take i).map (fun x=>x.2.1)∧x.2.2.1=(cs.take i).map (fun x=>x.2.2.1)) ⟨0,rfl,by omega,rfl,rfl⟩ ?_
  rintro ⟨_,l,m,_⟩ ⟨i,rfl,i2,i3,i4⟩
  dsimp only at i3 i4 ⊢
  subst i3 i4
  refine ac.2 ⟨fun h5=>?_,fun h5=>aE.2 ?_⟩
  ·simp at h5
   simp only [cG h5,wrn h5 (by omega:cs.length≤1000000)]
   refine ai.2 ⟨by simp;omega,ai.2 ⟨by simp;omega,ai.2 ⟨by simp;omega,ak.2 ⟨⟨i+1,rfl,h5,?_,?_⟩,by dsimp only;omega⟩⟩⟩⟩<;>dsimp only<;>rw [←List.take_append_getElem h5,List.map_append]<;>rfl
  ·simp at h5
   dsimp only
   rw [List.take_of_length_le (by omega)]
 obtain ⟨_,e,rfl⟩:=this
 exact e
theorem tC (c:List bx) (hc:c.length<1000000000000000) (f:TS cA.d.si→Option (TS cA.d.so)) (g:TS aA.d.si→Option (TS aA.d.so)) (h:∀d∈c,Par (f (c,dA d)) fun y=>Par (g (c,dA d)) fun z=>y.1=z.1)
 (vn vf vw:ByteArray) (o1 o2:Int) (wh:List ao) (pk:List Int) (gr:Bool) (ag:List cH):Par (bq.b f (c,vn,vf,vw,o1,o2,wh,pk,gr,ag,())) fun y=>Par (aI.b g (c,vn,vf,vw,o1,o2,wh,pk,gr,ag,())) fun z=>y.1=z.1:=by
 unfold bq.b aI.b
 dsimp only
 simp only [ld c _ hc,jJ c _ hc,Option.bind_some]
 refine aD fun i1=>?_
 simp only [i1,ckT]
 rw [jb] at i1
 refine px ((h _ (fJ i1.1 i1.2)).mono fun y hy=>hy.mono fun z hz=>?_)
 cases hs:sq vw (⟨#[]⟩:ByteArray) with
 |true=>exact bi (bi hz)
 |false=>
  simp only [Bool.not_false,cond_true,cond_false]
  refine aD fun i2=>?_
  simp only [i2,ckT]
  rw [jb] at i2
  refine px ((h _ (fJ i2.1 i2.2)).mono fun y2 hy2=>hy2.mono fun z2 hz2=>?_)
  refine aD fun _=>aD fun _=>bi (aD fun _=>bi ?_)
  dsimp only
  rw [hz,hz2,List.nil_append]
theorem of_x (c : List bx) (d : bx) (h1 : d.2.1.2.1.length ≤ 400) (h2 : d.1 ≠ 0 → ∀ a ∈ d.2.2.2.2.2.2.2.2.2,a.1 ≤ 3) (f : TS bq.d.si → Option (TS bq.d.so)) (g : TS aI.d.si → Option (TS aI.d.so))
    (h:Par (f (c,d.2.2.1,d.2.2.2.1,d.2.2.2.2.1,d.2.2.2.2.2.1.1,d.2.2.2.2.2.1.2,d.2.2.2.2.2.2.1,d.2.2.2.2.2.2.2.1,d.2.2.2.2.2.2.2.2.1,d.2.2.2.2.2.2.2.2.2,())) fun y=>Par (g (c,d.2.2.1,d.2.2.2.1,d.2.2.2.2.1,d.2.2.2.2.2.1.1,d.2.2.2.2.2.1.2,d.2.2.2.2.2.2.1,d.2.2.2.2.2.2.2.1,d.2.2.2.2.2.2.2.2.1,d.2.2.2.2.2.2.2.2.2,())) fun z=>y.1=z.1):
    Par (cA.b f (c,dA d)) fun y=>Par (aA.b g (c,dA d)) fun z=>y.1=z.1:=by
  by_cases hk:d.1=0
  · rw [BX c d hk h1 g]
    unfold cA.b
    have e:(d.1==0)=true:=by simpa using hk
    dsimp only
    rw [e,cond_true,tk_s _ _ _ h1]
    exact bi (bi rfl)
  · have e : (d.1 == 0) = false := by simpa using hk
    have h2:=h2 hk
    unfold cA.b aA.b
    dsimp only
    rw [e]
    simp only [cond_false]
    rw [show ∀(k:List Int×Unit→Option _),jn (S:=List Int×Unit) (il ([],())) k=k ([],()) from fun k=>rfl]
    refine px (h.mono fun y hy=>hy.mono fun z hz=>?_)
    obtain ⟨J,_⟩:=y
    obtain ⟨J',_⟩:=z
    dsimp only at hz ⊢
    subst hz
    generalize d.2.2.2.2.2.2.2.1=pk at*
    generalize d.2.2.2.2.2.2.2.2.2=ag at*
    refine lV (fun s t=>s.1=t.1) ?_ ?_
    · refine lU (fun s t=>s.1=t.1∧s.2.1=t.2.1) ⟨rfl,rfl⟩ ?_
      rintro ⟨i,l,m,_⟩ ⟨_,_,_⟩ ⟨rfl,rfl⟩
      dsimp only
      cases decide (i<(pk.length:Int)) with
      |false=>exact bQ (bQ rfl)
      |true=>exact aD fun _=>aD fun _=>aD fun _=>aD fun _=>aV (aD fun _=>aD fun _=>aD fun _=>aV ⟨rfl,rfl⟩)
    · rintro ⟨l,m,_⟩ ⟨_,_⟩ rfl
      dsimp only
      refine (lU (P:=fun r q=>match q with| .inl s=>r.1=s.1| .inr r'=>r.1=r'.1) (fun s t=>s.1=t.1∧s.2.1=t.2.1) ⟨rfl,rfl⟩ ?_).mono fun r hr=>zI (hr.mono fun q hq=>?_)
      · rintro ⟨i,l,m,_⟩ ⟨_,_,_⟩ ⟨rfl,rfl⟩
        dsimp only
        cases decide (i<(ag.length:Int)) with
        |false=>exact bQ (bQ rfl)
        |true=>
          simp only [cond_true]
          refine aD fun i1=>?_
          simp only [i1,ckT]
          rw [jb] at i1
          have:=h2 _ (fJ (z:=dW.z) i1.1 i1.2)
          by_cases g2:(gt ag i dW.z).1≥2
          · have g3:decide ((gt ag i dW.z).1≥2)=true:=by simpa using g2
            rw [g3]
            have:(gt ag i dW.z).1=2∨(gt ag i dW.z).1=3:=by omega
            rcases this with g|g
            · rw [g]
              exact aD fun _=>aD fun _=>aD fun _=>aV (aD fun _=>aD fun _=>aV ⟨rfl,rfl⟩)
            · rw [g]
              exact aD fun _=>aD fun _=>aD fun _=>aV (aD fun _=>aD fun _=>aV ⟨rfl,rfl⟩)
          · have g3:decide ((gt ag i dW.z).1≥2)=false:=by simpa using g2
            have g4:((gt ag i dW.z).1==2)=false:=by simp;omega
            have g5:((gt ag i dW.z).1==3)=false:=by simp;omega
            rw [g3,g4,g5]
            exact aD fun _=>aD fun _=>aV (aD fun _=>aV ⟨rfl,rfl⟩)
      · cases q with
        |inl s=>exact bp (fun _ _=>bi hq)
        |inr s=>exact hq
theorem r_x (c:List bx) (h:Gc c):∀(n:Nat),∀d∈c,Par (cA.r n (c,dA d)) fun y=>Par (aA.r n (c,dA d)) fun z=>y.1=z.1
 |0,d,hd=>kI
 |n+1,d,hd=>by
  obtain ⟨j,hj,rfl⟩:=List.getElem_of_mem hd
  have hl:=h.len
  show Par (cA.b (bq.b (cA.r n)) _) fun y=>Par (aA.b (aI.b (aA.r n)) _) _
  exact of_x c _ (h.s _ hd).s1 (fun hk a ha=>((h.g j hj).a0 hk a ha).2) _ _ (tC c (by omega) _ _ (fun d hd=>r_x c h n d hd) _ _ _ _ _ _ _ _ _)
end Go.Proofs.Ytpoffnlnhdbpmaa
end
section
set_option maxRecDepth 100000
namespace Go.Proofs.Ytpoffnlnhdbpmaa
open Go Lv Go.Proofs Go.RowKit Go.Shelf
variable [Lk]
theorem xb (o a b:Int):Par (da.F (o,a,b,())) fun y=>0≤y.1:=by
 refine Tot.p ?_
 rw [da.eq];unfold da.B
 simp [jH]
theorem C4 (a b:Int) (s:ByteArray):Par (dT.F (a,b,s,())) fun y=>y.1=true→0≤a:=by
 refine Tot.p ?_
 rw [dT.eq];unfold dT.B
 simp [jH]
 omega
theorem Bi (e:List ao) (ks:List Int):Par (eY.F (e,ks,())) fun y=>0≤y.1:=by
 rw [eY.eq];unfold eY.B
 have z0:(0:Int)≤0:=by decide
 refine aw (fun _=>bi z0) fun _=>?_
 refine gu (fun s=>∀x∈s.1,0≤x) ?_ fun s hs=>aw (fun _=>bi z0) fun h=>aD fun i0=>bi ?_
 ·refine jh (fun s=>∀x∈s.2.1,0≤x) (by simp) ?_
  rintro ⟨i,l,_⟩ hl
  dsimp only at hl ⊢
  refine aw (fun _=>?_) fun _=>bQ hl
  refine aD fun _=>bp fun y2 _=>?_
  refine gu (fun _=>True) (aw (fun _=>bQ z0) fun _=>aw (fun _=>bQ z0) fun _=>aV trivial) fun _ _=>?_
  refine gu (fun _=>True) (aw (fun _=>aD fun _=>aV trivial) fun _=>aV trivial) fun _ _=>?_
  refine gu (fun _=>True) (aw (fun _=>aD fun _=>aV trivial) fun _=>aV trivial) fun _ _=>?_
  refine aD fun _=>aD fun _=>bp ((xb _ _ _).mono fun y11 h11=>?_)
  have tk:∀(n:Nat) (k:Int),0≤k→∀x∈([]++List.take n l)++ [k],0≤x:=fun n k hk x hx=>by
   simp at hx
   rcases hx with hx|rfl
   ·exact hl x (List.mem_of_mem_take hx)
   ·exact hk
  refine gu (fun s=>s.2.1=true→0≤s.1) ?_ fun s hs=>?_
  ·refine aw (fun _=>aw (fun _=>aw (fun _=>aD fun _=>aw (fun h=>aV fun _=>?_) fun _=>aV (fun h=>by cases h)) fun _=>aV fun _=>h11) fun _=>aV fun _=>h11) fun _=>aV fun _=>h11
   simp at h
   dsimp only
   omega
  ·refine aw (fun _=>bp ((C4 _ _ _).mono fun y14 h14=>aw (fun _=>bQ z0) fun h=>aD fun _=>aV (tk _ _ (h14 (by simpa using h))))) fun _=>aw (fun _=>bQ z0) fun h=>aD fun _=>aV (tk _ _ (hs (by simpa using h)))
 ·rw [jb] at i0
  exact hs _ (fJ (i:=(0:Int)) (z:=(0:Int)) i0.1 i0.2)
theorem vS (e:List ao) (ks:List Int):cZ.F (e,ks,())=ep.F (e,ks,()):=by
 rw [cZ.eq,ep.eq];unfold cZ.B ep.B
 dsimp only
 rw [C3]
 obtain ⟨⟨k,r,_⟩,e1,_⟩:=ut e ks
 have h:=Bi e ks _ e1
 dsimp only at h
 simp only [e1,Option.bind_some]
 cases (r==0) with
 |false=>rfl
 |true=>
  simp only [cond_true]
  by_cases h1:k=1
  ·subst h1;rfl
  ·have e2:(k==1)=false:=by simpa using h1
   rw [e2,cond_false]
   have:(k==0)=decide (k<2):=by rw [Bool.eq_iff_iff];simp;omega
   rw [this]
theorem uH (c:List bx) (hc:c.length<1000000000000000) (f:TS cA.d.si→Option (TS cA.d.so)) (vn vf vw:ByteArray) (o1 o2:Int) (wh:List ao) (pk:List Int) (gr:Bool) (ag:List cH) {i:Nat} (hi:fnd c vf=some i) (li:i<c.length):
 Par (bq.b f (c,vn,vf,vw,o1,o2,wh,pk,gr,ag,())) fun y=>∀z,f (c,dA c[i])=some z→∃w,y.1=z.1++w:=by
 unfold bq.b
 dsimp only
 simp only [ld c _ hc,Option.bind_some,iz hi,cG li]
 refine aD fun _=>bp fun y3 e3=>aw (fun _=>bi fun z hz=>?_) fun _=>aD fun _=>bp fun y6 _=>aD fun _=>aD fun _=>bi fun z hz=>?_
 ·have:=e3.symm.trans hz
  cases this
  exact ⟨[],(List.append_nil _).symm⟩
 ·have:=e3.symm.trans hz
  cases this
  exact ⟨y6.1,rfl⟩
theorem C5 (c : List bx) (hc : Gc c) (vn vf vw : ByteArray) (o1 o2 : Int) (wh : List ao) (pk : List Int) (gr : Bool) (ag : List cH) (hp : pk.length ≤ 400) (ha : ag.length ≤ 400) (hv : Vg o1 o2 pk ag) :
    Par (fC.F (c,vn,vf,vw,o1,o2,wh,pk,gr,ag,())) fun y=>Par (dz.F (c,vn,vf,vw,o1,o2,wh,pk,gr,ag,())) fun z=>z.1= !y.1:=by
  have hl:=hc.len
  obtain ⟨⟨v1,v2⟩,⟨v3,v4⟩,v5,v6⟩:=hv
  rw [fC.eq,dz.eq];unfold fC.B dz.B
  dsimp only
  simp only [ld c _ (show c.length<1000000000000000 by omega),jJ c _ (show c.length<1000000000000000 by omega),Option.bind_some]
  refine lV (fun _ _=>¬mn c vf<0) ?_ ?_
  · refine aw (fun h=>?_) fun h=>?_
    · rw [h]
      exact bQ (bQ rfl)
    · rw [h]
      have h:¬mn c vf<0:=by simpa using h
      simp only [cond_false]
      refine aw (fun h2=>?_) fun h2=>?_
      · rw [h2]
        simp only [cond_true]
        refine aw (fun h3=>?_) fun h3=>?_
        · rw [h3]
          exact bQ (bQ rfl)
        · rw [h3]
          exact aV (aV h)
      · rw [h2]
        exact aV (aV h)
  rintro _ _ g
  obtain ⟨i,hi⟩:=jC g
  have li:=jR hi
  have i1:ib (i:Int) (c.length:Int)=true:=by simp;omega
  simp only [iz hi,cG li,i1,ckT]
  refine bp fun y4 e4=>bp fun y7 e7=>rp (bp fun z6 e6=>bp fun z7 e7'=>aD fun _=>rp ?_)
  rw [cA.eq] at e7
  rw [aA.eq] at e6
  rw [bq.eq] at e4
  rw [aI.eq] at e7'
  have hO:y7.1=z6.1:=r_x c hc 64 _ (List.getElem_mem li) y7 e7 z6 e6
  have hJ:y4.1=z7.1:=tC c (by omega) _ _ (r_x c hc 64) _ _ _ _ _ _ _ _ _ y4 e4 z7 e7'
  obtain ⟨w,hw⟩:=uH c (by omega) _ _ _ _ _ _ _ _ _ _ hi li y4 e4 y7 e7
  have hK:y7.1.length≤800:=by
    have:=Tot.p (r_t c hc 64 i (by omega) li) y7 e7
    rw [this.1]
    exact m9 (hc.s _ (List.getElem_mem li))
  clear e4 e6 e7 e7'
  obtain ⟨J,_⟩:=y4
  obtain ⟨K,m,_⟩:=y7
  obtain ⟨K',m',_⟩:=z6
  obtain ⟨J',_⟩:=z7
  dsimp only at hO hJ hw hK ⊢
  subst hO hJ hw
  have w1:wr ((K.length:Int)+o2)=K.length+o2:=bF (by omega) (by omega)
  have lKw:((K++w).length:Int)=K.length+w.length:=by simp
  simp only [w1,Int.toNat_natCast]
  refine lV (fun _ t=>t.1=false) ?_ ?_
  · cases hs : sq vw (⟨#[]⟩ : ByteArray) with
    |true=>exact aV (aV rfl)
    |false=>
      simp only [Bool.not_false,cond_true]
      refine zI (aD fun _=>aw (fun a1=>bQ ?_) fun a1=>aD fun _=>aw (fun a2=>bQ ?_) fun a2=>aV (aD fun _=>aD fun b1=>aD fun _=>aD fun b2=>?_))
      · exact aD fun _=>aw (fun _=>aV (bi rfl)) fun h=>by rw [a1] at h;cases h
      · simp at a1 a2
        refine aD fun _=>aw (fun h=>by simp at h;omega) fun _=>aD fun _=>aw (fun _=>aV (bi rfl)) fun h=>?_
        simp at h
        omega
      · simp at a1 a2
        have e1:List.getD (K++w) o1.toNat 0=List.getD K o1.toNat 0:=by
          rw [List.getD_eq_getElem?_getD,List.getD_eq_getElem?_getD,List.getElem?_append_left (by omega)]
        have e2:((K.length:Int)+o2).toNat=K.length+o2.toNat:=by omega
        rw [e1,e2]
        refine aw (fun a3=>bQ ?_) fun a3=>aV ?_
        · exact aD fun _=>aw (fun _=>aV (bi rfl)) fun _=>aD fun _=>aw (fun _=>aV (bi rfl)) fun _=>aD fun _=>aD fun _=>aD fun _=>aD fun _=>aV (by rw [a3];exact bi rfl)
        · refine aD fun _=>aw (fun h=>?_) fun _=>aD fun _=>aw (fun h=>?_) fun _=>aD fun _=>aD fun _=>aD fun _=>aD fun _=>aV a3
          · simp at h;omega
          · simp at h;omega
  rintro _ ⟨_,_⟩ rfl
  simp only [cond_false,vS]
  refine lV (fun s t=>s.1=K++w∧t.1=K++w) ?_ ?_
  · refine aw (fun h=>?_) fun h=>?_
    · rw [h]
      simp only [cond_true]
      refine px fun a ea b eb=>?_
      rw [ea] at eb
      cases eb
      refine aw (fun h2=>?_) fun h2=>?_
      · rw [h2]
        exact bQ (bQ rfl)
      · rw [h2]
        exact aV (aV ⟨rfl,rfl⟩)
    · rw [h]
      exact aV (aV ⟨rfl,rfl⟩)
  rintro ⟨_,_⟩ ⟨_,_⟩ ⟨rfl,rfl⟩
  dsimp only
  generalize K++w=J
  refine lV (fun _ _=>True) ?_ fun _ _ _=>?_
  · refine lU (fun s t=>s.1=t.1) rfl ?_
    rintro ⟨j,_⟩ ⟨_,_⟩ rfl
    dsimp only
    refine aw (fun h=>?_) fun h=>?_
    · rw [h]
      refine aD fun i1=>?_
      simp only [i1,ckT,cond_true]
      refine aw (fun h2=>?_) fun h2=>?_
      · rw [h2]
        exact bQ (bQ rfl)
      · rw [h2]
        exact aV (aV rfl)
    · rw [h]
      exact bQ (bQ trivial)
  refine lV (fun _ _=>True) ?_ fun _ _ _=>?_
  · refine lU (fun s t=>s.1=t.1) rfl ?_
    rintro ⟨j,_⟩ ⟨_,_⟩ rfl
    dsimp only
    refine aw (fun h=>?_) fun h=>?_
    · rw [h]
      refine aD fun i1=>?_
      simp only [i1,ckT,cond_true]
      generalize gt ag j dW.z=a
      by_cases a0:a.1=0
      · have b0:(a.1==0)=true:=by simpa using a0
        have b1:(a.1 !=0)=false:=by simp [a0]
        have b2:(a.1==1)=false:=by simp [a0]
        rw [b0,b1,b2]
        exact aV (aV rfl)
      · have b0:(a.1==0)=false:=by simpa using a0
        have b1:(a.1 !=0)=true:=by simpa using a0
        rw [b0,b1]
        simp only [cond_true,cond_false]
        refine aw (fun h2=>?_) fun h2=>?_
        · rw [h2]
          exact bQ (bQ rfl)
        · rw [h2]
          simp only [cond_false]
          refine aw (fun h3=>?_) fun h3=>?_
          · rw [h3]
            refine aD fun i2=>?_
            simp only [i2,ckT,cond_true]
            refine aw (fun h4=>?_) fun h4=>?_
            · rw [h4]
              exact bQ (bQ rfl)
            · rw [h4]
              exact aV (aV rfl)
          · rw [h3]
            exact aV (aV rfl)
    · rw [h]
      exact bQ (bQ trivial)
  have w2:wr ((pk.length:Int)+(ag.length:Int))=pk.length+ag.length:=bF (by omega) (by omega)
  simp only [w2]
  have fin:Par (bif ((pk.length:Int)+ag.length==0) then some (true,()) else some (decide ((pk.length:Int)+ag.length>40),())) fun y=>Par (bif decide ((pk.length:Int)+ag.length≥1) then some (decide ((pk.length:Int)+ag.length≤40),()) else some (false,())) fun z=>z.1= !y.1:=by
    refine aw (fun h=>bi ?_) fun h=>bi ?_
    · refine aw (fun h2=>?_) fun h2=>bi rfl
      simp at h h2
      omega
    · refine aw (fun h2=>bi ?_) fun h2=>?_
      · dsimp only
        rw [←decide_not,decide_eq_decide]
        omega
      · simp at h h2
        omega
  cases gr with
  |true=>exact fin
  |false=>
    simp only [Bool.not_false,cond_true,cond_false]
    refine aw (fun h=>bi ?_) fun h=>?_
    · have:((ag.length:Int)==0)=false:=by simp at h ⊢;intro e;simp [e] at h
      rw [this]
      exact bi rfl
    · have:((ag.length:Int)==0)=true:=by simp at h ⊢;exact h
      rw [this]
      exact fin
end Go.Proofs.Ytpoffnlnhdbpmaa
end
section
set_option maxRecDepth 100000
namespace Go.Proofs.Ytpoffnlnhdbpmaa
open Go Lv Go.Proofs Go.RowKit Go.Shelf
section
variable {α β γ δ S R:Type}
theorem C6 {x:Option α} {y:Option (S⊕R)} {k1:α→Option γ} {k2:S→Option R} {P:γ→R→Prop} (h:Par x fun a=>Par y fun w=>Par (k1 a) fun r=>match w with| .inl t=>Par (k2 t) fun q=>P r q| .inr q=>P r q):
 Par (Option.bind x k1) fun r=>Par (jn y k2) fun q=>P r q:=by
 intro r hr q hq
 cases hx:x with
 |none=>rw [hx] at hr;cases hr
 |some a=>
  cases hy:y with
  |none=>rw [hy] at hq;cases hq
  |some b=>
   rw [hx] at hr
   rw [hy] at hq
   have:=h a hx b hy r hr
   cases b with
   |inl t=>exact this q hq
   |inr q'=>cases hq;exact this
theorem qr {b1 b2 : S → Option (S ⊕ R)} (I : S → Prop) {s : S} (h0 : I s) (h : ∀ s,I s → b1 s = b2 s ∧ ∀ s',b1 s = some (.inl s') → I s') : aK b1 s = aK b2 s := by
  have it:∀n s,I s→ix b1 n s=ix b2 n s:=by
    intro n
    induction n with
    |zero=>intro _ _;rfl
    |succ n ih=>
      intro s hs
      obtain ⟨e,hn⟩:=h s hs
      unfold ix
      rw [←e]
      cases hb:b1 s with
      |none=>rfl
      |some z=>
        cases z with
        |inl s'=>exact ih s' (hn s' hb)
        |inr r=>rfl
  cases h1:aK b1 s with
  |some r=>
    obtain ⟨n,hn⟩:=@iT ⟨[],fun _=>True,false,fun _ _ _ _=>trivial⟩ _ _ _ _ _ h1
    rw [it n s h0] at hn
    exact (@kG ⟨[],fun _=>True,false,fun _ _ _ _=>trivial⟩ _ _ _ _ _ _ hn).symm
  |none=>
    cases h2:aK b2 s with
    |none=>rfl
    |some r=>
      obtain ⟨n,hn⟩:=@iT ⟨[],fun _=>True,false,fun _ _ _ _=>trivial⟩ _ _ _ _ _ h2
      rw [←it n s h0] at hn
      rw [@kG ⟨[],fun _=>True,false,fun _ _ _ _=>trivial⟩ _ _ _ _ _ _ hn] at h1
      cases h1
end
variable [Lk]
def Ckc (cs:List aC):Prop:=(∀(i j:Nat) (hi:i<cs.length) (hj:j<i),sq cs[i].1 cs[j].1=false)∧(List.getD cs 0 aX.z).2.2.1=false∧(List.getD cs 0 aX.z).2.1≠1∧sq (List.getD cs 0 aX.z).2.2.2.2.1 ⟨#[]⟩=true
theorem C7 (n : ByteArray) (cs : List aC) (es : List (List ao)) (h : cs.length ≤ 400) : Par (fp.F (n,cs,es,())) fun y => y.1 = true ↔ ¬ Ckc cs := by
  rw [fp.eq];unfold fp.B
  dsimp only
  refine gu (fun _=>∀(i j:Nat) (hi:i<cs.length) (hj:j<i),sq cs[i].1 cs[j].1=false) ?_ fun _ hn=>?_
  · refine jh (fun s=>∃k:Nat,s.1=(k:Int)∧k≤cs.length∧∀(i j:Nat) (hi:i<cs.length) (hj:j<i),i<k→sq cs[i].1 cs[j].1=false) ⟨0,rfl,by omega,fun _ _ _ _ h=>by omega⟩ ?_
    rintro ⟨_,_⟩ ⟨k,rfl,k1,k2⟩
    dsimp only
    refine aw (fun h5=>?_) fun h5=>bQ ?_
    · simp at h5
      refine gu (fun _=>∀(j:Nat) (hj:j<k),sq cs[k].1 cs[j].1=false) ?_ fun _ hk=>aV ⟨k+1,wrn h5 (by omega),h5,fun i j hi hj hik=>?_⟩
      · refine jh (fun s=>∃m:Nat,s.1=(m:Int)∧m≤k∧∀(j:Nat) (hj:j<k),j<m→sq cs[k].1 cs[j].1=false) ⟨0,rfl,by omega,fun _ _ h=>by omega⟩ ?_
        rintro ⟨_,_⟩ ⟨m,rfl,m1,m2⟩
        dsimp only
        refine aw (fun h6=>?_) fun h6=>bQ ?_
        · simp at h6
          have hm:m<cs.length:=by omega
          simp only [cG h5,cG hm]
          refine aD fun _=>aD fun _=>aw (fun e=>bQ ?_) fun e=>aV ⟨m+1,wrn hm (by omega),h6,fun j hj hjm=>?_⟩
          · simp only [true_iff]
            intro hc
            rw [hc.1 k m h5 h6] at e
            cases e
          · by_cases ej:j=m
            · subst ej;exact e
            · exact m2 j hj (by omega)
        · simp at h6
          exact fun j hj=>m2 j hj (by omega)
      · by_cases ei:i=k
        · subst ei;exact hk j hj
        · exact k2 i j hi hj (by omega)
    · simp at h5
      exact fun i j hi hj=>k2 i j hi hj (by omega)
  · refine aD fun _=>aw (fun e=>bi ?_) fun e=>aD fun _=>aw (fun e2=>bi ?_) fun e2=>aD fun _=>bi ?_
    · simp only [true_iff]
      intro hc
      rw [hc.2.1] at e
      cases e
    · simp only [true_iff]
      intro hc
      exact hc.2.2.1 (by simpa using e2)
    · cases e3:sq (List.getD cs 0 aX.z).2.2.2.2.1 ⟨#[]⟩ with
      |true=>
        simp only [Bool.not_true,Bool.false_eq_true,false_iff,Classical.not_not]
        exact ⟨hn,e,by simpa using e2,e3⟩
      |false=>
        simp only [Bool.not_false,true_iff]
        intro hc
        have:=hc.2.2.2
        rw [e3] at this
        cases this
theorem tab_x (c : List bx) (hc : Gc c) (n : ByteArray) (cs : List aC) (es : List (List ao)) (h : cs.length ≤ 400) (h1 : 1 ≤ cs.length) (he : es.length ≤ 400) :
    Par ((fp.F (n,cs,es,())).bind fun y5=>bif y5.1 then some ((91:Int),()) else (fD.F (c,n,cs,es,())).bind fun y6=>bif y6.1 then some ((92:Int),()) else (bV.F (n,cs,es,())).bind fun y7=>
      aK (S:=(List Int)×Int×Unit) (fun (x5,x7,_)=>(bif (decide (x7<(es.length:Int))) then ck (ib x7 es.length)<|let e8:(List ao):=(gt es x7 []);(ep.F (e8,x5,())).bind fun y9=>(bif (!y9.1) then ir ((93:Int),()) else let e10:Int:=(wr (x7+(1:Int)));il (x5,e10,())) else ir ((0:Int),()))) (y7.1,(0:Int),()))
      fun y=>Par (cO.F (c,n,cs,es,())) fun z=>y.1=z.1:=by
  have hl:=hc.len
  rw [cO.eq];unfold cO.B
  dsimp only
  have hK:∀{A:Type} (k:_→Option A),(aA.F (c,(0:Int),n,cs,es,(⟨#[]⟩:ByteArray),(⟨#[]⟩:ByteArray),(⟨#[]⟩:ByteArray),(0:Int),(0:Int),([]:List ao),([]:List Int),false,([]:List cH),())).bind k=k (cs.map (fun x=>x.2.1),cs.map (fun x=>x.2.2.1),()):=fun k=>by
    rw [aA.eq]
    exact (congrArg (fun x=>Option.bind x k) (BX c (0,(n,cs,es),((⟨#[]⟩:ByteArray),(⟨#[]⟩:ByteArray),(⟨#[]⟩:ByteArray),((0:Int),(0:Int)),([]:List ao),([]:List Int),false,([]:List cH))) rfl h _)).trans rfl
  rw [hK]
  simp only [tk_s _ _ _ h,Option.bind_some]
  refine bp ((C7 n cs es h).mono fun y5 h5=>rp (gu (fun _=>Ckc cs) ?_ fun _ hck=>rp ?_))
  · refine Par.mono (P:=fun z=>match z with| .inl _=>Ckc cs| .inr q=>q=((91:Int),())∧¬Ckc cs) ?_ fun z hz=>?_
    · refine jh (fun s=>∃k:Nat,s.1=(k:Int)∧k≤cs.length∧(∀(i j:Nat) (hi:i<cs.length) (hj:j<i),i<k→sq cs[i].1 cs[j].1=false)∧(0<k→(List.getD cs 0 aX.z).2.2.1=false∧(List.getD cs 0 aX.z).2.1≠1∧sq (List.getD cs 0 aX.z).2.2.2.2.1 ⟨#[]⟩=true)) ⟨0,rfl,by omega,fun _ _ _ _ h=>by omega,fun h=>by omega⟩ ?_
      rintro ⟨_,_⟩ ⟨k,rfl,k1,k2,k3⟩
      dsimp only
      refine aw (fun g5=>?_) fun g5=>bQ ?_
      · simp at g5
        simp only [cG g5]
        refine aD fun _=>gu (fun s=>s.1=false↔((∀(j:Nat) (hj:j<k),sq cs[k].1 cs[j].1=false)∧(k=0→cs[k].2.2.1=false∧cs[k].2.1≠1∧sq cs[k].2.2.2.2.1 ⟨#[]⟩=true))) ?_ fun s hs=>aw (fun e=>bQ ⟨rfl,fun hck=>?_⟩) fun e=>aV ⟨k+1,wrn g5 (by omega),g5,fun i j hi hj hik=>?_,fun _=>?_⟩
        · refine jh (fun s=>∃m:Nat,s.1=(m:Int)∧m≤k∧∀(j:Nat) (hj:j<k),j<m→sq cs[k].1 cs[j].1=false) ⟨0,rfl,by omega,fun _ _ h=>by omega⟩ ?_
          rintro ⟨_,_⟩ ⟨m,rfl,m1,m2⟩
          dsimp only
          have hm:m<cs.length:=by omega
          refine aw (fun g6=>?_) fun g6=>?_
          rotate_left 1
          · simp at g6
            omega
          simp only [cG hm]
          refine gu (fun s=>s.1=sq cs[m].1 cs[k].1) (aD fun _=>aV rfl) fun s hs=>aw (fun e=>?_) fun e=>?_
          · rw [hs] at e
            have em:=eS.1 e
            by_cases emk:m=k
            · subst emk
              have e0:((m:Int) !=(m:Int))=false:=by simp
              rw [e0]
              refine kL (aw (fun h=>by cases h) fun _=>aw (fun z0=>aw (fun a1=>aV ?_) fun a1=>aw (fun a2=>aV ?_) fun a2=>aV ?_) fun z0=>aV ?_)
              · simp only [Bool.true_eq_false,false_iff]
                exact fun hh=>by rw [(hh.2 (by simpa using z0)).1] at a1;cases a1
              · simp only [Bool.true_eq_false,false_iff]
                exact fun hh=>(hh.2 (by simpa using z0)).2.1 (by simpa using a2)
              · constructor
                · intro a3
                  exact ⟨fun j hj=>m2 j hj hj,fun _=>⟨a1,by simpa using a2,by simpa using a3⟩⟩
                · intro hh
                  have:=(hh.2 (by simpa using z0)).2.2
                  dsimp only
                  rw [this]
                  rfl
              · simp only [true_iff]
                exact ⟨fun j hj=>m2 j hj hj,fun h=>by simp [h] at z0⟩
            · have e0:((m:Int) !=(k:Int))=true:=by simp;omega
              rw [e0]
              refine kL (aV ?_)
              simp only [Bool.true_eq_false,false_iff]
              intro hh
              have:=hh.1 m (by omega)
              rw [eS.2 em.symm] at this
              cases this
          · rw [hs] at e
            have emk:m≠k:=by
              rintro rfl
              rw [eS.2 rfl] at e
              cases e
            refine aV ⟨m+1,wrn hm (by omega),by omega,fun j hj hjm=>?_⟩
            by_cases ej:j=m
            · subst ej
              rw [qp] at e ⊢
              exact fun h=>e h.symm
            · exact m2 j hj (by omega)
        · have:=(hs.2 ⟨fun j hj=>hck.1 k j g5 hj,fun hk=>?_⟩)
          · rw [this] at e
            cases e
          · subst hk
            have:=hck.2
            rw [show List.getD cs 0 aX.z=cs[0] from cG (i:=0) g5 _] at this
            exact this
        · by_cases ei:i=k
          · subst ei;exact (hs.1 e).1 j hj
          · exact k2 i j hi hj (by omega)
        · by_cases ek:k=0
          · subst ek
            have:=(hs.1 e).2 rfl
            rw [show List.getD cs 0 aX.z=cs[0] from cG (i:=0) g5 _]
            exact this
          · exact k3 (by omega)
      · simp at g5
        exact ⟨fun i j hi hj=>k2 i j hi hj (by omega),k3 (by omega)⟩
    · cases z with
      |inl s=>exact hz
      |inr q=>
        obtain ⟨rfl,hz⟩:=hz
        rw [h5.2 hz]
        exact bi rfl
  have e5:y5.1=false:=by
    cases e:y5.1 with
    |false=>rfl
    |true=>exact absurd hck (h5.1 e)
  rw [e5]
  simp only [cond_false]
  rw [fD.eq];unfold fD.B
  dsimp only
  refine C6 ((lU (P:=fun r q=>match q with| .inl _=>r.1=false| .inr q=>r.1=true∧q.1=(92:Int)) (fun s t=>s.1=t.1) rfl ?_).mono fun y6 h6=>h6.mono fun w hw=>?_)
  · rintro ⟨i,_⟩ ⟨_,_⟩ rfl
    dsimp only
    refine aw (fun g5=>?_) fun g5=>by rw [g5];exact bQ (bQ rfl)
    rw [g5]
    simp only [cond_true]
    refine aD fun i1=>?_
    simp only [i1,ckT]
    generalize gt cs i aX.z=e1
    refine aw (fun g6=>by rw [g6];exact aV (aV rfl)) fun g6=>?_
    rw [g6]
    simp only [cond_false,ld c _ (show c.length<1000000000000000 by omega),jJ c _ (show c.length<1000000000000000 by omega),Option.bind_some]
    refine aD fun i2=>lV (fun s t=>s.1=(List.getD t.2.1 0 aX.z).2.1) ?_ ?_
    · refine aw (fun g7=>?_) fun g7=>by rw [g7];exact aV (aV rfl)
      rw [g7]
      simp only [cond_true]
      refine aw (fun g8=>by rw [g8];exact bQ (bQ ⟨rfl,rfl⟩)) fun g8=>?_
      rw [g8]
      simp only [cond_false]
      refine aD fun i3=>?_
      simp only [i3,ckT]
      refine aw (fun g9=>by rw [g9];exact bQ (bQ ⟨rfl,rfl⟩)) fun g9=>?_
      rw [g9]
      simp only [cond_false]
      exact aD fun _=>aV (aV rfl)
    · rintro ⟨k,_⟩ ⟨a,b,e,_⟩ hk
      dsimp only at hk ⊢
      subst hk
      have hb:(e1.2.1 !=(List.getD b 0 aX.z).2.1)=((List.getD b 0 aX.z).2.1 !=e1.2.1):=bne_comm
      refine aw (fun g7=>bQ ?_) fun g7=>?_
      · rw [←hb,g7]
        exact aD fun _=>bQ ⟨rfl,rfl⟩
      · rw [←hb,g7]
        simp only [cond_false]
        refine aw (fun g8=>?_) fun g8=>by rw [g8];exact aV (aD fun _=>aV rfl)
        rw [g8]
        simp only [cond_true]
        refine aw (fun g9=>by rw [g9];exact bQ (aD fun _=>bQ ⟨rfl,rfl⟩)) fun g9=>by rw [g9];exact aV (aD fun _=>aV rfl)
  cases w with
  |inr q=>
    rw [hw.1]
    exact bi hw.2.symm
  | inl t =>
    dsimp only at hw ⊢
    rw [hw]
    simp only [cond_false]
    refine lU (fun s t=>s=(cs.map (fun x=>x.2.1),t.1,())∧t.2.1=cs.map (fun x=>x.2.1)∧0≤t.1∧t.1≤(es.length:Int)) ⟨rfl,rfl,by simp,by simp⟩ ?_
    rintro _ ⟨i,_,_⟩ ⟨rfl,rfl,i0,i3⟩
    dsimp only at i0 i3 ⊢
    refine aw (fun g5=>?_) fun g5=>?_
    · rw [g5]
      simp only [cond_true,vS]
      refine aD fun i1=>?_
      simp only [i1,ckT]
      have i1:=jb.1 i1
      obtain ⟨⟨b,_⟩,e1,_⟩:=qV (gt es i []) (cs.map (fun x=>x.2.1))
      simp only [e1,Option.bind_some]
      cases b with
      |false=>
        refine bQ (gu (fun s=>s.1=true) (aV rfl) fun s hs=>?_)
        have:decide (i≥0)=true:=by simpa using i0
        rw [hs,this]
        simp only [cond_true]
        exact kL (bi rfl)
      |true=>
        have hw:wr (i+1)=i+1:=bF (by omega) (by omega)
        rw [hw]
        refine aV (gu (fun s=>s=(false,cs.map (fun x=>x.2.1),())) (aV rfl) fun s hs=>?_)
        subst hs
        exact aV ⟨rfl,rfl,by dsimp only;omega,by dsimp only;omega⟩
    · rw [g5]
      simp only [cond_false]
      exact bQ (kL (bi rfl))
end Go.Proofs.Ytpoffnlnhdbpmaa
end
section
set_option maxRecDepth 100000
namespace Go.Proofs.Ytpoffnlnhdbpmaa
open Go Lv Go.Proofs Go.RowKit Go.Shelf
variable [Lk]
theorem add_e (c:List bx) (hc:Gc c) (d:bx) (hd:Sd d):eN.F (c,dA d)=dx.F (c,dA d):=by
 have hl:=hc.len
 have hcl:c.length<1000000000000000:=by omega
 obtain ⟨r,p1,p2⟩:=Bf d hd
 have hm:gn.F (dA d)=some (!sq r ⟨#[]⟩,()):=by
  rw [gn.eq];unfold gn.B
  dsimp only
  rw [p2]
  rfl
 have hp:=Tot.p (qT d hd) _ p1
 have ht:Tot (dx.F (c,dA d)) fun _=>True:=by
  rw [dx.eq];unfold dx.B
  dsimp only
  simp only [hm,Option.bind_some]
  refine ac.2 ⟨fun _=>ah.2 trivial,fun e=>ac.2 ⟨fun _=>ah.2 trivial,fun _=>?_⟩⟩
  have hp:=hp (by simpa using e)
  simp only [ow,Option.bind_some,jJ c _ hcl]
  refine ac.2 ⟨fun _=>ah.2 trivial,fun _=>ac.2 ⟨fun e=>?_,fun e=>?_⟩⟩
  ·exact af.2 ((yR c hc _ _ _ hd.s1 (hp.1 (by simpa using e)) hd.s2).mono fun _ _=>ah.2 trivial)
  ·have e:d.1≠0:=by simpa using e
   have hv:=hp.2 e
   exact af.2 ((sZ c hc _ _ _ _ _ _ _ _ _ hd.s5 hd.s6 ⟨hv.1,hv.2.1⟩ (fun a ha=>(hv.2.2.2 a ha).1)).mono fun _ _=>ac.2 ⟨fun _=>ah.2 trivial,fun _=>ah.2 trivial⟩)
 refine zF (qW c hc d hd) ht ?_
 rw [eN.eq,dx.eq];unfold eN.B dx.B
 dsimp only
 simp only [hm,p1,Option.bind_some]
 cases hs:sq r (⟨#[]⟩:ByteArray) with
 |true=>exact bi (bi rfl)
 |false=>
  have hp:=hp hs
  simp only [Bool.not_false,Bool.not_true,cond_false]
  refine aw (fun h=>by rw [h];exact bi (bi rfl)) fun h=>?_
  rw [h]
  simp only [cond_false,ow,qU,Option.bind_some,jJ c _ hcl,ld c _ hcl]
  refine aw (fun h=>by rw [h];exact bi (bi rfl)) fun h=>?_
  rw [h]
  simp only [cond_false]
  by_cases hk:d.1=0
  ·have e1:(d.1 !=0)=false:=by simp [hk]
   have e2:(d.1==0)=true:=by simpa using hk
   rw [e1,e2]
   refine (tab_x c hc _ _ _ hd.s1 (hp.1 hk) hd.s2).mono fun y hy=>bp (hy.mono fun z hz=>bi ?_)
   exact Prod.ext hz rfl
  ·have e1:(d.1 !=0)=true:=by simpa using hk
   have e2:(d.1==0)=false:=by simpa using hk
   rw [e1,e2]
   refine px ((C5 c hc _ _ _ _ _ _ _ _ _ hd.s5 hd.s6 (hp.2 hk)).mono fun y hy=>hy.mono fun z hz=>?_)
   rw [hz]
   cases y.1 with
   |true=>exact bi (bi rfl)
   |false=>exact bi (bi rfl)
theorem Gc.suc {c:List bx} {i:Nat} (hi:i<c.length) (hl:c.length≤22) (hs:Sd c[i]) (h:Gc (c.take i)) (hg:Gd (c.take i) c[i]):Gc (c.take (i+1)):=by
 refine ⟨by simp;omega,fun d hd=>?_,fun j hj=>?_⟩
 ·rw [←List.take_append_getElem hi] at hd
  rcases List.mem_append.1 hd with h1|h1
  ·exact h.s d h1
  ·rw [List.mem_singleton.1 h1]
   exact hs
 ·simp only [List.length_take] at hj
  simp only [List.getElem_take]
  rw [List.take_take,show min j (i+1)=j by omega]
  by_cases e:j=i
  ·subst e;exact hg
  ·have:=h.g j (by simp;omega)
   simp only [List.getElem_take] at this
   rw [List.take_take,show min j i=j by omega] at this
   exact this
theorem may_x (c:List bx) (hl:c.length≤22) (hs:∀d∈c,Sd d):gk.F (c,())=schema_May.F (c,()):=by
 rw [gk.eq,schema_May.eq];unfold gk.B schema_May.B
 dsimp only
 refine qr (fun s=>∃i:Nat,s.1=(i:Int)∧i≤c.length∧Gc (c.take i)) ⟨0,rfl,by omega,⟨by simp,by simp,by simp⟩⟩ ?_
 rintro ⟨_,_⟩ ⟨i,rfl,h1,hG⟩
 dsimp only
 by_cases h5:i<c.length
 ·have d1:decide ((i:Int)<(c.length:Int))=true:=by simp;omega
  have i1:ib (i:Int) (c.length:Int)=true:=by simp;omega
  have i2:sb 0 (i:Int) (c.length:Int)=true:=by simp;omega
  have hS:=hs _ (List.getElem_mem h5)
  simp only [d1,i1,i2,ckT,cond_true,cG h5,Int.toNat_zero,List.drop_zero,Int.toNat_natCast,wrn h5 (by omega:c.length≤1000000)]
  obtain ⟨⟨r,_⟩,e1,hr⟩:=qW _ hG _ hS
  have e2:dx.F (c.take i,dA c[i])=some (r,()):=(add_e _ hG _ hS).symm.trans e1
  simp only [e1,e2,Option.bind_some]
  refine ⟨trivial,fun s' h=>?_⟩
  cases e:(r !=0) with
  |true=>rw [e] at h;cases h
  |false=>
   rw [e] at h
   cases h
   exact ⟨i+1,rfl,h5,Gc.suc h5 hl hS hG (hr (by simpa using e))⟩
 ·have d1:decide ((i:Int)<(c.length:Int))=false:=by simp;omega
  simp only [d1,cond_false]
  exact ⟨trivial,fun s' h=>by cases h⟩
end Go.Proofs.Ytpoffnlnhdbpmaa
end
section
set_option maxRecDepth 100000
namespace Go.Proofs.Ytpoffnlnhdbpmaa
open Go Lv Go.Proofs Go.RowKit Go.Shelf
section
variable {α S R:Type}
theorem zJ {b1 b2:S→Option (S⊕R)} (I:S→Prop) {s:S} (h0:I s) (h:∀s,I s→b1 s=b2 s∧Par (b1 s) fun z=>match z with| .inl s'=>I s'| .inr _=>True):aK b1 s=aK b2 s:=
 qr I h0 fun s hs=>⟨(h s hs).1,fun s' e=>(h s hs).2 _ e⟩
end
variable [Lk]
theorem C8 (x y : ax) : dj.F (x.1,x.2.1,x.2.2,y.1,y.2.1,y.2.2,()) = some (cV x y,()) := by
  rw [dj.eq];unfold dj.B
  dsimp only
  unfold cV
  rcases ji x.1 y.1 with ⟨h,e⟩|⟨h,e⟩|⟨h,e⟩
  · have e1:(x.1 !=y.1)=true:=by simp;omega
    simp [e,e1,h]
  · have e1:(x.1 !=y.1)=false:=by simp [h]
    rw [e1,e]
    simp only [cond_false,ne_eq,not_true_eq_false,if_false]
    rcases ji x.2.1 y.2.1 with ⟨h,e⟩|⟨h,e⟩|⟨h,e⟩
    · have e1:(x.2.1 !=y.2.1)=true:=by simp;omega
      simp [e,e1,h]
    · have e1:(x.2.1 !=y.2.1)=false:=by simp [h]
      rw [e1,e]
      simp only [cond_false,ne_eq,not_true_eq_false,if_false]
      rw [ByteArray.toList_eq,ByteArray.toList_eq,vB]
      unfold uk
      rcases yS x.2.2.data.toList y.2.2.data.toList with h|h|h
      · have h':Lib.compareBytes x.2.2.data.toList y.2.2.data.toList=-1:=h
        rw [h,h']
        rfl
      · have h':Lib.compareBytes x.2.2.data.toList y.2.2.data.toList=0:=h
        have he:=ra _ _ h
        rw [h,h',he]
        simp
      · have h':Lib.compareBytes x.2.2.data.toList y.2.2.data.toList=1:=h
        have he:(x.2.2.data.toList==y.2.2.data.toList)=false:=by
          rw [beq_eq_false_iff_ne]
          intro he
          rw [he,qY] at h
          cases h
        rw [h,h',he]
        rfl
    · have e1:(x.2.1 !=y.2.1)=true:=by simp;omega
      have h2:¬x.2.1<y.2.1:=by omega
      simp [e,e1,h2]
  · have e1:(x.1 !=y.1)=true:=by simp;omega
    have h2:¬x.1<y.1:=by omega
    simp [e,e1,h2]
theorem uI (a b : List ax) (ha : a.length ≤ 1000) : dk.F (a,b,()) = some (kc a b,()) := by
  refine Tot.is ?_
  rw [dk.eq];unfold dk.B
  refine aR (fun _=>∃i,(i=a.length∨i=b.length)∧i≤a.length∧i≤b.length∧kc a b=kc (a.drop i) (b.drop i)) ?_ fun _ h=>?_
  · refine cW (fun x=>a.length-x.1.toNat) (fun x=>∃i:Nat,x.1=(i:Int)∧i≤a.length∧i≤b.length∧kc a b=kc (a.drop i) (b.drop i)) ⟨0,rfl,by simp,by simp,by simp⟩ ?_
    rintro ⟨_,_⟩ ⟨i,rfl,h1,h2,h3⟩
    dsimp only
    refine ac.2 ⟨fun h5=>ac.2 ⟨fun h6=>?_,fun h6=>?_⟩,fun h5=>?_⟩
    · simp at h5 h6
      simp only [cG h5,cG h6,C8,Option.bind_some,wrn h5 (by omega:a.length≤1000000)]
      rw [List.drop_eq_getElem_cons h5,List.drop_eq_getElem_cons h6] at h3
      rw [rb] at h3
      refine ai.2 ⟨by simp;omega,ai.2 ⟨by simp;omega,ac.2 ⟨fun e=>aE.2 ?_,fun e=>ak.2 ⟨⟨i+1,rfl,h5,h6,?_⟩,?_⟩⟩⟩⟩
      · dsimp only
        rw [h3,if_pos (by simpa using e)]
      · rw [h3,if_neg (by simpa using e)]
      · dsimp only
        omega
    · simp at h6
      exact aE.2 ⟨i,.inr (by omega),h1,h2,h3⟩
    · simp at h5
      exact aE.2 ⟨i,.inl (by omega),h1,h2,h3⟩
  · obtain ⟨i,hi,h1,h2,h3⟩:=h
    rw [h3]
    refine ac.2 ⟨fun h5=>ah.2 ?_,fun h5=>ac.2 ⟨fun h6=>ah.2 ?_,fun h6=>ah.2 ?_⟩⟩
    · simp at h5
      rw [List.drop_eq_getElem_cons (show i<b.length by omega),List.drop_eq_nil_of_le (show a.length≤i by omega)]
      rfl
    · simp at h5 h6
      rw [List.drop_eq_getElem_cons (show i<a.length by omega),List.drop_eq_nil_of_le (show b.length≤i by omega)]
      rfl
    · simp at h5 h6
      rw [List.drop_eq_nil_of_le (show b.length≤i by omega),List.drop_eq_nil_of_le (show a.length≤i by omega)]
      rfl
theorem zK (l:List ax):gh.F (l,())=fO.F (l,()):=by
 refine zF (qo l) (yZ l) ?_
 rw [gh.eq,fO.eq];unfold gh.B fO.B
 dsimp only
 refine aw (fun h=>?_) fun h=>by rw [h];exact bi (bi rfl)
 rw [h]
 simp at h
 rw [gB.eq];unfold gB.B
 dsimp only
 have h1:∀a b c,eU.F (a,b,c,())=(dT.F (a,b,c,())).bind fun y=>some (!y.1,()):=fun a b c=>by rw [eU.eq];unfold eU.B;dsimp only;rw [zG]
 refine bp ((lU (P:=fun r q=>r=q) (fun s t=>s.1=t.1∧0≤s.1∧s.1≤(l.length:Int)) ⟨rfl,by simp,by simp⟩ ?_).mono fun y hy=>bi hy)
 rintro ⟨i,_⟩ ⟨_,_⟩ ⟨rfl,i0,i9⟩
 dsimp only at i0 i9 ⊢
 refine aw (fun h5=>?_) fun h5=>by rw [h5];exact bQ (bQ rfl)
 rw [h5]
 simp at h5
 simp only [cond_true]
 refine aD fun i1=>?_
 obtain ⟨⟨m,_⟩,hm,_⟩:=sL (gt l i bh.z).1 (gt l i bh.z).2.1 (gt l i bh.z).2.2
 have hw:wr (i+1)=i+1:=bF (by omega) (by omega)
 simp only [i1,ckT,h1,hm,Option.bind_some,hw]
 cases m with
 |false=>
  refine bQ ?_
  have:decide (i≥0)=true:=by simpa using i0
  simp only [this]
  exact bQ rfl
 |true=>exact aV (aV ⟨rfl,by dsimp only;omega,by dsimp only;omega⟩)
theorem bag_x (l : List bj) (hl : l.length ≤ 12) (hk : ∀ r ∈ l,r.1.length ≤ 40) : gm.F (l,()) = gp.F (l,()) := by
  rw [gm.eq,gp.eq];unfold gm.B gp.B
  dsimp only
  have hf:∀n:Int,fQ.F (n,())=fF.F (n,()):=fun n=>by rw [fQ.eq,fF.eq];rfl
  refine zJ (fun s=>∃i:Nat,s.1=(i:Int)∧i≤l.length) ⟨0,rfl,by omega⟩ ?_
  rintro ⟨_,_⟩ ⟨i,rfl,h1⟩
  dsimp only
  by_cases h5:i<l.length
  rotate_left 1
  · have d1:decide ((i:Int)<(l.length:Int))=false:=by simp;omega
    rw [d1]
    exact ⟨rfl,bQ trivial⟩
  have d1:decide ((i:Int)<(l.length:Int))=true:=by simp;omega
  have i1:ib (i:Int) (l.length:Int)=true:=by simp;omega
  simp only [d1,i1,ckT,cond_true,cG h5,hf,zK,wrn h5 (by omega:l.length≤1000000)]
  have hcmp:∀z:bj,z.1.length≤1000→dk.F (z.1,l[i].1,())=dM.F (z.1,l[i].1,()):=fun z hz=>(uI _ _ hz).trans (BO _ _ hz).symm
  have hz : (gt l (wr ((i : Int) - 1)) dq.z).1.length ≤ 1000 := by
    by_cases h:0≤wr ((i:Int)-1)∧wr ((i:Int)-1)<(l.length:Int)
    · have:=hk _ (fJ (z:=dq.z) h.1 h.2)
      omega
    · by_cases h0:i=0
      · subst h0
        have:gt l (wr (((0:Nat):Int)-1)) dq.z∈l:=by
          have:(wr (((0:Nat):Int)-1)).toNat=0:=by rw [eu];rfl
          unfold gt
          rw [this,List.getD_eq_getElem?_getD,List.getElem?_eq_getElem h5]
          exact List.getElem_mem h5
        have:=hk _ this
        omega
      · rw [bF (by omega) (by omega)] at h
        omega
  simp only [hcmp _ hz]
  refine ⟨trivial,gu (fun _=>True) ?_ fun _ _=>aw (fun _=>bQ trivial) fun _=>aV ⟨i+1,rfl,h5⟩⟩
  exact aw (fun _=>aV trivial) fun _=>bp fun _ _=>aw (fun _=>aV trivial) fun _=>bp fun _ _=>aw (fun _=>aV trivial) fun _=>aw (fun _=>aD fun _=>bp fun _ _=>aV trivial) fun _=>aV trivial
end Go.Proofs.Ytpoffnlnhdbpmaa
end
section
set_option maxRecDepth 100000
namespace Go.Proofs.Ytpoffnlnhdbpmaa
open Go Lv Go.Proofs Go.RowKit Go.Shelf
variable [Lk]
def Ro (n:Nat) (r:bj):Prop:=r.2=1∧r.1.length=n∧(fst0 r.1).1≠0
def Rx (n:Nat) (l:List bj):Prop:=∀(i:Nat) (h:i<l.length),Ro n l[i]∧∀(j:Nat) (hj:j<i),fst0 l[j].1≠fst0 l[i].1
def Cx (n:Nat) (l:List bj):Prop:=∀(i:Nat) (h:i<l.length),Ro n l[i]∧∀(h0:0<i) (h1:i-1<l.length),fst0 l[i-1].1≠fst0 l[i].1
theorem zL {a b:List ax} (ha:1≤a.length) (hb:1≤b.length) (h:kc a b<0) (hn:fst0 a≠fst0 b):cV (fst0 a) (fst0 b)<0:=by
 cases a with
 |nil=>simp at ha
 |cons x a=>
  cases b with
  |nil=>simp at hb
  |cons y b=>
   rw [rb] at h
   have hn:x≠y:=hn
   have:cV x y≠0:=fun e=>hn (AR e)
   rw [if_pos this] at h
   exact h
theorem rx_cx {n : Nat} {l : List bj} (hn : 1 ≤ n) (hb : Bk l) : Rx n l ↔ Cx n l := by
  constructor
  · exact fun h i hi=>⟨(h i hi).1,fun h0 h1=>(h i hi).2 (i-1) (by omega)⟩
  · intro h
    have lt:∀(d i:Nat) (hi:i+d+1<l.length),cV (fst0 l[i].1) (fst0 l[i+d+1].1)<0:=by
      intro d
      induction d with
      |zero=>
        intro i hi
        have h1:=(hb (i+1) hi).2 (by omega) (by omega)
        have h2:=(h (i+1) hi).2 (by omega) (by omega)
        simp only [Nat.add_sub_cancel] at h1 h2
        have e1:=(h i (by omega)).1.2.1
        have e2:=(h (i+1) hi).1.2.1
        exact zL (by omega) (by simp only [Nat.add_zero];omega) h1 h2
      |succ d ih=>
        intro i hi
        have h0:=ih i (by omega)
        have h1:=(hb (i+d+1+1) (by omega)).2 (by omega) (by omega)
        have h2:=(h (i+d+1+1) (by omega)).2 (by omega) (by omega)
        simp only [Nat.add_sub_cancel] at h1 h2
        have e1:=(h (i+d+1) (by omega)).1.2.1
        have e2:=(h (i+d+1+1) (by omega)).1.2.1
        exact yT h0 (zL (by omega) (by show 1≤l[i+d+1+1].1.length;omega) h1 h2)
    refine fun i hi=>⟨(h i hi).1,fun j hj e=>?_⟩
    have:=lt (i-j-1) j (by omega)
    simp only [show j+(i-j-1)+1=i by omega] at this
    rw [e,AQ] at this
    omega
theorem Bj (n : ByteArray) (cs : List aC) (es : List (List ao)) (l : List bj) (h1 : 1 ≤ cs.length) (h : l.length ≤ 12) : Par (fE.F (n,cs,es,l,())) fun y => y.1 = true ↔ Rx cs.length l := by
  rw [fE.eq];unfold fE.B
  refine jh (fun x=>∃i:Nat,x.1=(i:Int)∧i≤l.length∧∀(k:Nat) (hk:k<l.length),k<i→Ro cs.length l[k]∧∀(j:Nat) (hj:j<k),fst0 l[j].1≠fst0 l[k].1) ⟨0,rfl,by omega,fun _ _ h=>by omega⟩ ?_
  rintro ⟨_,_⟩ ⟨i,rfl,i1,i2⟩
  dsimp only
  refine aw (fun h5=>?_) fun h5=>bQ ?_
  · simp at h5
    simp only [cG h5,wrn h5 (by omega:l.length≤1000000)]
    have no:¬(Ro cs.length l[i]∧∀(j:Nat) (hj:j<i),fst0 l[j].1≠fst0 l[i].1)→(false=true↔Rx cs.length l):=fun h=>by
      simp only [Bool.false_eq_true,false_iff]
      exact fun h2=>h (h2 i h5)
    refine gu (fun _=>Ro cs.length l[i]∧∀(j:Nat) (hj:j<i),fst0 l[j].1≠fst0 l[i].1) ?_ fun _ hq=>aV ⟨i+1,rfl,h5,fun k hk hki=>?_⟩
    · refine gu (fun _=>l[i].2=1∧l[i].1.length=cs.length) ?_ fun _ hr=>?_
      · refine aD fun _=>aw (fun e=>bQ (no fun h=>?_)) fun e=>aD fun _=>aw (fun e2=>bQ (no fun h=>?_)) fun e2=>aV ⟨by simpa using e,by simp at e2;omega⟩
        · have:=h.1.1
          simp [this] at e
        · have:=h.1.2.1
          simp [this] at e2
      · refine aD fun _=>aD fun _=>aw (fun e=>bQ (no fun h=>?_)) fun e=>?_
        · exact h.1.2.2 (by simpa using e)
        · refine jh (fun x=>∃m:Nat,x.1=(m:Int)∧m≤i∧∀(j:Nat) (hj:j<i),j<m→fst0 l[j].1≠fst0 l[i].1) ⟨0,rfl,by omega,fun _ _ h=>by omega⟩ ?_
          rintro ⟨_,_⟩ ⟨m,rfl,m1,m2⟩
          dsimp only
          refine aw (fun h6=>?_) fun h6=>bQ ?_
          · simp at h6
            have hm:m<l.length:=by omega
            simp only [cG hm]
            refine aD fun _=>aD fun _=>aD fun _=>aD fun _=>aw (fun e=>bQ (no fun h=>?_)) fun e=>aV ⟨m+1,wrn hm (by omega),h6,fun j hj hjm=>?_⟩
            · exact h.2 m h6 (eqV.1 e)
            · by_cases ej:j=m
              · subst ej;exact neV.1 e
              · exact m2 j hj (by omega)
          · simp at h6
            exact ⟨⟨hr.1,hr.2,by simpa using e⟩,fun j hj=>m2 j hj (by omega)⟩
    · by_cases e:k=i
      · subst e;exact hq
      · exact i2 k hk (by omega)
  · simp at h5
    simp only [true_iff]
    exact fun k hk=>i2 k hk (by omega)
theorem C9 (c:List bx) (hl:c.length≤22) (hs:∀d∈c,Sd d) (b:List bC) (hb:Sb b):cR.F (c,b,())=fX.F (c,b,()):=by
 rw [cR.eq,fX.eq];unfold cR.B fX.B
 dsimp only
 rw [←may_x c hl hs]
 obtain ⟨⟨y,_⟩,e,hy⟩:=yF c hl hs
 simp only [e,Option.bind_some]
 cases y with
 |false=>rfl
 |true=>
 have hc:=hy rfl
 simp only [Bool.not_true,cond_false,rc c (show c.length≤1000 by omega),vC c (show c.length≤1000 by omega),Option.bind_some]
 cases e:(((tabs c).length:Int) !=(b.length:Int)) with
 |true=>rfl
 |false=>
 have hn:(tabs c).length=b.length:=by simp at e;omega
 have hbl:=hb.l
 simp only [cond_false,hn]
 refine zJ (fun s=>∃i:Nat,s.1=(i:Int)∧i≤b.length) ⟨0,rfl,by omega⟩ ?_
 rintro ⟨_,_⟩ ⟨i,rfl,h1⟩
 dsimp only
 by_cases hi:i<b.length
 rotate_left 1
 ·have d1:decide ((i:Int)<(b.length:Int))=false:=by simp;omega
  rw [d1]
  exact ⟨rfl,bQ trivial⟩
 have hi':i<(tabs c).length:=by omega
 have d1:decide ((i:Int)<(b.length:Int))=true:=by simp;omega
 have i1:ib (i:Int) (b.length:Int)=true:=by simp;omega
 have g2:List.getD (tabs c) (Int.toNat (i:Int)) io.z=(tabs c)[i]:=cG hi' _
 have hm:=List.getElem_mem hi
 have ht:=mi hc (List.getElem_mem hi')
 simp only [d1,i1,ckT,cond_true,cG hi,g2,wrn hi (by omega:b.length≤1000000)]
 refine and_comm.1 ⟨?_,?_⟩
 ·refine gu (fun _=>True) ?_ fun _ _=>aV ⟨i+1,rfl,hi⟩
  refine gu (fun _=>True) ?_ fun _ _=>?_
  ·exact aw (fun _=>bQ trivial) fun _=>bp fun _ _=>aw (fun _=>bQ trivial) fun _=>aV trivial
  ·refine jh (fun _=>True) trivial fun s _=>aw (fun _=>aD fun _=>?_) fun _=>bQ trivial
   refine gu (fun _=>True) ?_ fun _ _=>aw (fun _=>bQ trivial) fun _=>aV trivial
   exact aw (fun _=>aV trivial) fun _=>aw (fun _=>aV trivial) fun _=>aD fun _=>aw (fun _=>aV trivial) fun _=>aw (fun _=>aD fun _=>aD fun _=>aD fun _=>aV trivial) fun _=>aV trivial
 cases hq:sq b[i].1 (tabs c)[i].1 with
 |false=>rfl
 |true=>
 simp only [Bool.not_true,cond_false,bag_x _ (hb.r _ hm) (hb.k _ hm)]
 obtain ⟨⟨bv,_⟩,ebv,hbv⟩:=BP _ (hb.r _ hm) (hb.k _ hm)
 simp only [ebv,Option.bind_some]
 cases bv with
 |false=>rfl
 |true=>
 have hB:Bk b[i].2:=hbv.1 rfl
 obtain ⟨⟨v,_⟩,ev,_⟩:=vD (tabs c)[i].1 (tabs c)[i].2.1 (tabs c)[i].2.2 b[i].2 ht.1 (hb.r _ hm)
 have hv:=(Bj _ _ _ _ ht.1 (hb.r _ hm) _ ev).trans (rx_cx ht.1 hB)
 dsimp only at hv
 simp only [ev,Option.bind_some,Bool.not_true,cond_false]
 rw [show ∀(k:Unit→Option _),jn (S:=Unit) (il ()) k=k () from fun k=>rfl]
 have hrl:=hb.r _ hm
 have key:∀(L:Option (Unit⊕(Int×Unit)⊕(Bool×Unit))),Tot L (fun z=>match z with| .inl _=>v=true| .inr q=>v=false∧q=.inr (false,()))→jn L (fun _=>il (R:=Bool×Unit) (((i+1:Nat):Int),()))=bif !v then ir (false,()) else il (((i+1:Nat):Int),()):=by
  rintro L ⟨z,rfl,hz⟩
  cases z with
  |inl u=>
   have:v=true:=hz
   rw [this]
   rfl
  |inr q=>
   obtain ⟨h1,rfl⟩:=hz
   rw [h1]
   rfl
 refine key _ ?_
 have hR:∀(j:Nat) (h:j<b[i].2.length),1≤(tabs c)[i].2.1.length:=fun _ _=>ht.1
 generalize (tabs c)[i].2.1.length=n at*
 generalize b[i].2=l at*
 refine cW (fun x=>l.length-x.1.toNat) (fun x=>∃j:Nat,x.1=(j:Int)∧j≤l.length∧∀(k:Nat) (h:k<l.length),k<j→Ro n l[k]∧∀(h0:0<k) (h1:k-1<l.length),fst0 l[k-1].1≠fst0 l[k].1) ⟨0,rfl,by omega,fun _ _ h=>by omega⟩ ?_
 rintro ⟨_,_⟩ ⟨j,rfl,j1,j2⟩
 dsimp only
 refine ac.2 ⟨fun h5=>?_,fun h5=>aE.2 (hv.2 fun k hk=>j2 k hk (by simp at h5;omega))⟩
 have hj:j<l.length:=by simpa using h5
 have no:¬(Ro n l[j]∧∀(h0:0<j) (h1:j-1<l.length),fst0 l[j-1].1≠fst0 l[j].1)→v=false:=fun h=>by
  cases v with
  |false=>rfl
  |true=>exact absurd ((hv.1 rfl) j hj) h
 simp only [cG hj,wrn hj (by omega:l.length≤1000000)]
 refine ai.2 ⟨by simp;omega,aR (fun x=>x.1=false↔(Ro n l[j]∧∀(h0:0<j) (h1:j-1<l.length),fst0 l[j-1].1≠fst0 l[j].1)) ?_ fun x hx=>ac.2 ⟨fun e=>aE.2 ⟨no fun h=>?_,rfl⟩,fun e=>ak.2 ⟨⟨j+1,rfl,hj,fun k hk hkj=>?_⟩,by dsimp only;omega⟩⟩⟩
 ·refine ac.2 ⟨fun e=>ak.2 ?_,fun e=>ac.2 ⟨fun e2=>ak.2 ?_,fun e2=>ai.2 ⟨?_,ac.2 ⟨fun e3=>ak.2 ?_,fun e3=>ac.2 ⟨fun e4=>?_,fun e4=>ak.2 ?_⟩⟩⟩⟩⟩
  ·simp only [Bool.true_eq_false,false_iff]
   intro h
   simp [h.1.1] at e
  ·simp only [Bool.true_eq_false,false_iff]
   intro h
   simp [h.1.2.1] at e2
  ·have:=hR j hj
   simp at e2
   rw [jb];omega
  ·simp only [Bool.true_eq_false,false_iff]
   intro h
   exact h.1.2.2 (by simpa using e3)
  ·simp at e4
   have hj':j-1<l.length:=by omega
   have w1:wr ((j:Int)-1)=((j-1:Nat):Int):=by rw [bF (by omega) (by omega)];omega
   have hj2:=(j2 (j-1) hj' (by omega)).1.2.1
   have:=hR j hj
   simp at e2
   simp only [w1,cG hj']
   refine ai.2 ⟨by simp;omega,ai.2 ⟨by rw [jb];omega,ai.2 ⟨by rw [jb];omega,ak.2 ?_⟩⟩⟩
   dsimp only
   rw [neV]
   constructor
   ·exact fun h=>⟨⟨by simpa using e,by omega,by simpa using e3⟩,fun _ _=>h⟩
   ·exact fun h=>h.2 e4 hj'
  ·simp at e4
   simp only [true_iff]
   exact ⟨⟨by simpa using e,by simp at e2;omega,by simpa using e3⟩,fun h _=>by omega⟩
 ·rw [hx.2 h] at e
  cases e
 ·by_cases ek:k=j
  ·subst ek;exact hx.1 e
  ·exact j2 k hk (by omega)
end Go.Proofs.Ytpoffnlnhdbpmaa
end
section
set_option maxRecDepth 100000
namespace Go.Proofs.Ytpoffnlnhdbpmaa
open Go Lv Go.Proofs Go.RowKit Go.Shelf
section
variable [i:Lk]
theorem vT:fw.F ()=some (true,()):=by
 rcases i with ⟨⟨⟩⟩
 kernel_rfl
end
variable [Lk]
theorem Gb.ne {c:List bx} {b:List bC} (hc:Gc c) (hb:Gb c b):∀x∈b,∀r∈x.2,1≤r.1.length:=fun x hx r hr=>by
 obtain ⟨i,hi,rfl⟩:=List.getElem_of_mem hx
 have h':i<(tabs c).length:=by rw [←hb.n];exact hi
 have:=((hb.m i hi h').2.e r hr).2
 have:=(mi hc (List.getElem_mem h')).1
 omega
abbrev zW:Int×ByteArray×Int×Unit:=((0:Int),(⟨#[]⟩:ByteArray),(0:Int),())
theorem Bl (n:ByteArray) (cs:List aC) (es:List (List ao)) (b:List bC):Par (dd.F (n,cs,es,b,())) fun y=>(y.1=0→y=zW)∧(y.1≠0→y.2.1=n):=by
 rw [dd.eq];unfold dd.B
 have bad:∀k m:Int,k≠0→(((k,n,m,()):Int×ByteArray×Int×Unit).1=0→((k,n,m,()):Int×ByteArray×Int×Unit)=zW)∧(((k,n,m,()):Int×ByteArray×Int×Unit).1≠0→((k,n,m,()):Int×ByteArray×Int×Unit).2.1=n):=fun k m h=>⟨fun e=>absurd e h,fun _=>rfl⟩
 refine bp fun y1 _=>gu (fun _=>True) ?_ fun _ _=>?_
 ·refine gu (fun _=>True) (bp fun _ _=>aV trivial) fun _ _=>aw (fun _=>bQ (bad _ _ (by decide))) fun _=>?_
  refine gu (fun _=>True) (bp fun _ _=>aV trivial) fun _ _=>aw (fun _=>bQ (bad _ _ (by decide))) fun _=>?_
  exact gu (fun _=>True) (bp fun _ _=>aV trivial) fun _ _=>aw (fun _=>bQ (bad _ _ (by decide))) fun _=>aV trivial
 ·exact bp fun y9 _=>aw (fun e=>bi (bad _ _ (by simpa using e))) fun _=>bi ⟨fun _=>rfl,fun h=>absurd rfl h⟩
structure Gm (c:List bx) (b:List bC):Prop where
 gc:Gc c
 gb:Gb c b
 sb:Sb b
 cm:Cm c b
noncomputable def tv (b:List bC) (t:fR):Int×ByteArray×Int×Unit:=(dd.F (t.1,t.2.1,t.2.2,b,())).getD zW
theorem tv_s {c:List bx} {b:List bC} (g:Gm c b) {t:fR} (ht:t∈tabs c):dd.F (t.1,t.2.1,t.2.2,b,())=some (tv b t)∧((tv b t).1=0→tv b t=zW)∧((tv b t).1≠0→(tv b t).2.1=t.1):=by
 have hok:=mi g.gc ht
 have hl:∀r∈fl b t.1,r.1.length=t.2.1.length:=by
  obtain ⟨j,hj,rfl⟩:=List.getElem_of_mem ht
  have hj':j<b.length:=by rw [g.gb.n];exact hj
  rw [CF g.gc g.gb hj]
  exact fun r hr=>((g.gb.m j hj' hj).2.e r hr).2
 obtain ⟨y,e,_⟩:=vI t b hok.2.1 hok.2.2.1 hl g.sb (g.gb.ne g.gc)
 have:tv b t=y:=by unfold tv;rw [e];rfl
 rw [this]
 exact ⟨e,Bl _ _ _ _ y e⟩
theorem Bm {c:List bx} (hc:Gc c) {k:Nat} (hk:k<c.length):fnd c (nmD c[k])=some k:=by
 refine List.findIdx?_eq_some_iff_getElem.2 ⟨hk,eS.2 rfl,fun j hj=>?_⟩
 have:=List.findIdx?_eq_none_iff.1 (hc.g k hk).nm c[j] (List.mem_take_iff_getElem.2 ⟨j,by omega,rfl⟩)
 rw [this]
 simp
theorem Bo {c:List bx} {b:List bC} (g:Gm c b) (hm:cR.F (c,b,())=some (true,())) {t:fR} (ht:t∈tabs c):dB.F (c,b,t.1,())=some (tv b t):=by
 have hcl:=g.gc.len
 obtain ⟨d,hd,h0,rfl⟩:=re ht
 obtain ⟨k,hk,rfl⟩:=List.getElem_of_mem hd
 have hn:nmD c[k]=c[k].2.1.1:=by
  unfold nmD
  have:(c[k].1==0)=true:=by simpa using h0
  rw [this]
  rfl
 have hf:=Bm g.gc hk
 rw [hn] at hf
 rw [dB.eq];unfold dB.B
 dsimp only
 have hneg:decide (((k:Nat):Int)<0)=false:=by simp
 have i1:ib (k:Int) (c.length:Int)=true:=by simp;omega
 have h0':(c[k].1 !=0)=false:=by simp [h0]
 simp only [jJ c _ (show c.length<1000000000000000 by omega),Option.bind_some,iz hf,hneg,cond_false,hm,Bool.not_true,i1,ckT,cG hk,h0']
 rw [show ∀(k:Unit→Option (Int×ByteArray×Int×Unit)),jn (S:=Unit) (il ()) k=k () from fun k=>rfl]
 rw [(tv_s g ht).1]
 rfl
noncomputable def fv (b:List bC) (l:List fR):Int×ByteArray×Int×Unit:=l.foldl (fun a t=>if a.1=0 then tv b t else a) zW
theorem vU (b:List bC):∀(l:List fR) (a:Int×ByteArray×Int×Unit),a.1≠0→l.foldl (fun a t=>if a.1=0 then tv b t else a) a=a
 | [],_,_=>rfl
 |t::l,a,h=>by
  rw [List.foldl_cons,if_neg h]
  exact vU b l a h
theorem Da (b:List bC) {l:List fR} {i:Nat} (h:i<l.length):fv b (l.take (i+1))=if (fv b (l.take i)).1=0 then tv b l[i] else fv b (l.take i):=by
 unfold fv
 rw [←List.take_append_getElem h,List.foldl_append]
 rfl
theorem zM (l m:List bx):tabs (l++m)=tabs l++tabs m:=by
 unfold tabs
 rw [List.filter_append,List.map_append]
theorem Bp {c : List bx} {b : List bC} (g : Gm c b) (hm : cR.F (c,b,()) = some (true,())) : cz.F (c,b,()) = some (fv b (tabs c)) := by
  have hcl:=g.gc.len
  have:Tot (cz.F (c,b,())) fun y=>y=fv b (tabs c):=by
    rw [cz.eq];unfold cz.B
    dsimp only
    simp only [hm,Option.bind_some,Bool.not_true,cond_false]
    refine aR (fun _=>fv b (tabs c)=zW) ?_ fun _ h=>ah.2 h.symm
    refine cW (fun x=>c.length-x.1.toNat) (fun x=>∃i:Nat,x.1=(i:Int)∧i≤c.length∧fv b (tabs (c.take i))=zW) ⟨0,rfl,by omega,rfl⟩ ?_
    rintro ⟨_,_⟩ ⟨i,rfl,i1,i2⟩
    dsimp only
    refine ac.2 ⟨fun h5=>?_,fun h5=>aE.2 ?_⟩
    · simp at h5
      simp only [cG h5,wrn h5 (by omega:c.length≤1000000)]
      have hts:=kK h5
      refine ai.2 ⟨by simp;omega,ac.2 ⟨fun e=>ak.2 ⟨⟨i+1,rfl,h5,?_⟩,by dsimp only;omega⟩,fun e=>?_⟩⟩
      · have:(c[i].1==0)=false:=by simpa using e
        rw [hts,this,cond_false,List.append_nil]
        exact i2
      · have h0:c[i].1=0:=by simpa using e
        have h0':(c[i].1==0)=true:=by simpa using h0
        have ht:c[i].2.1∈tabs c:=List.mem_map.2 ⟨c[i],List.mem_filter.2 ⟨List.getElem_mem h5,h0'⟩,rfl⟩
        obtain ⟨e1,e2,e3⟩:=tv_s g ht
        rw [h0',cond_true] at hts
        have hfv:fv b (tabs (c.take (i+1)))=tv b c[i].2.1:=by
          rw [hts]
          unfold fv at i2 ⊢
          rw [List.foldl_append,i2]
          rfl
        rw [e1]
        refine af.2 (ah.2 (ac.2 ⟨fun e=>aE.2 ?_,fun e=>ak.2 ⟨⟨i+1,rfl,h5,?_⟩,by dsimp only;omega⟩⟩))
        · show tv b c[i].2.1=fv b (tabs c)
          have:tabs c=tabs (c.take (i+1))++tabs (c.drop (i+1)):=by rw [←zM,List.take_append_drop]
          rw [this]
          unfold fv at hfv ⊢
          rw [List.foldl_append,hfv]
          exact (vU b _ _ (by simpa using e)).symm
        · rw [hfv]
          exact e2 (by simpa using e)
    · simp at h5
      rw [List.take_of_length_le (by omega)] at i2
      exact i2
  obtain ⟨_,e,rfl⟩:=this
  exact e
theorem Db {c:List bx} {b:List bC} (g:Gm c b):Tot (cz.F (c,(tabs c).map (fun t=>(t.1,([]:List bj))),())) fun y=>y.1=0:=by
 have hn:∀x∈(tabs c).map (fun t=>(t.1,([]:List bj))),x.2=[]:=fun x hx=>by
  obtain ⟨t,_,rfl⟩:=List.mem_map.1 hx
  rfl
 have hs:Sb ((tabs c).map (fun t=>(t.1,([]:List bj)))):=by
  refine ⟨?_,fun x hx=>?_,fun x hx r hr=>?_⟩
  ·rw [List.length_map,←g.gb.n]
   exact g.sb.l
  ·rw [hn x hx]
   simp
  ·rw [hn x hx] at hr
   cases hr
 refine (A1 c g.gc _ hs fun x hx r hr=>?_).mono fun y hy=>hy.2 ⟨⟨g.cm.s,by rw [List.length_map],fun i h h'=>?_⟩,fun t ht=>?_⟩
 ·rw [hn x hx] at hr
  cases hr
 ·simp only [List.getElem_map]
  exact ⟨rfl,(fun i h=>by cases h),(fun i h=>by cases h)⟩
 ·have hf:∀s,fl ((tabs c).map (fun t=>(t.1,([]:List bj)))) s=[]:=fun s=>by
   rcases yX ((tabs c).map (fun t=>(t.1,([]:List bj)))) s with h|⟨x,hx,_,h⟩
   ·exact h
   ·rw [h,hn x hx]
  refine ⟨?_,?_,?_,?_⟩
  ·rw [hf];intro r hr;cases hr
  ·rw [hf];intro k h _ i j hj;cases hj
  ·intro k h _ r hr
   rw [hf] at hr
   cases hr
  ·rw [hf];intro e he r hr;cases hr
theorem eqWv {x y:sK}:Ty.eq gT x y=true↔x=y:=by
 obtain ⟨a,s,b⟩:=x
 obtain ⟨c,t,d⟩:=y
 simp [Ty.eq,MapKept.bytes_beq]
theorem xc (c : List bx) (hl : c.length < 1000000000000000) (hd : ∀ d ∈ c,Dn d) (b : List bC) (hb : Bn b) : dN.F (c,b,()) = some (true,()) := by
  refine Tot.is ?_
  rw [dN.eq];unfold dN.B
  refine aR (fun x=>x.1=false→Gm c b∧cR.F (c,b,())=some (true,())) ?_ fun x hx=>ac.2 ⟨fun _=>?_,fun e=>?_⟩
  · have h0:∀{A:Prop},((true,()):Bool×Unit).1=false→A:=fun h=>by cases h
    rw [vT,Option.bind_some]
    refine ac.2 ⟨fun h=>by simp at h,fun _=>af.2 ((Ct c hl hd).mono fun y hy=>ac.2 ⟨fun _=>ak.2 h0,fun e=>ac.2 ⟨fun _=>ak.2 h0,fun _=>?_⟩⟩)⟩
    obtain ⟨l22,hs⟩:=hy e
    refine af.2 ((yU b hb).mono fun y hy=>ac.2 ⟨fun _=>ak.2 h0,fun e=>?_⟩)
    have hB:=hy (by simpa using e)
    obtain ⟨⟨y,_⟩,ey,hy⟩:=yW c l22 hs b hB
    rw [ey]
    refine af.2 (ah.2 (ak.2 fun e=>?_))
    have ht:y=true:=by simpa using e
    subst ht
    obtain ⟨hc,hG⟩:=hy rfl
    have hm:cR.F (c,b,())=some (true,()):=(C9 c l22 hs b hB).trans ey
    exact ⟨⟨hc,hG,hB,(Tot.p (za c hc b hB (hG.ne hc)) _ hm).1 rfl⟩,hm⟩
  · rw [vT]
    exact ah.2 rfl
  obtain ⟨g,hm⟩:=hx e
  have hcl:=g.gc.len
  have htl:=pq c
  simp only [rc c (show c.length≤1000 by omega),Option.bind_some]
  refine aR (fun x=>x.1=(tabs c).map (fun t=>(t.1,([]:List bj)))∧x.2=fv b (tabs c)) ?_ fun x hx=>?_
  · refine cW (fun x=>(tabs c).length-x.1.toNat) (fun x=>∃i:Nat,x.1=(i:Int)∧i≤(tabs c).length∧x.2.1=((tabs c).take i).map (fun t=>(t.1,([]:List bj)))∧x.2.2=fv b ((tabs c).take i)) ⟨0,rfl,by omega,rfl,rfl⟩ ?_
    rintro ⟨_,o,a,s,n,_⟩ ⟨i,rfl,i1,i2,i3⟩
    dsimp only at i2 i3 ⊢
    subst i2
    have o1:a=(fv b ((tabs c).take i)).1:=by rw [←i3]
    refine ac.2 ⟨fun h5=>?_,fun h5=>aE.2 ?_⟩
    · simp at h5
      have g2:List.getD (tabs c) (Int.toNat (i:Int)) io.z=(tabs c)[i]:=cG h5 _
      have hmem:=List.getElem_mem h5
      obtain ⟨_,e2,e3⟩:=tv_s g hmem
      have hs:=Da b h5
      simp only [g2,Bo g hm hmem,Option.bind_some,wrn h5 (by omega:(tabs c).length≤1000000)]
      refine ai.2 ⟨by simp;omega,aR (fun _=>True) ?_ fun _ _=>?_⟩
      · refine ac.2 ⟨fun e=>ai.2 ⟨by simp;omega,ac.2 ⟨fun h=>?_,fun _=>ak.2 trivial⟩⟩,fun _=>ak.2 trivial⟩
        rw [eS.2 (e3 (by simpa using e))] at h
        cases h
      · have hmap:((tabs c).take i).map (fun t=>(t.1,([]:List bj)))++ [((tabs c)[i].1,([]:List bj))]=((tabs c).take (i+1)).map (fun t=>(t.1,([]:List bj))):=by
          rw [←List.take_append_getElem h5,List.map_append]
          rfl
        refine ac.2 ⟨fun e=>ai.2 ⟨by simp;omega,ai.2 ⟨by simp;omega,ak.2 ⟨⟨i+1,rfl,h5,hmap,?_⟩,by dsimp only;omega⟩⟩⟩,fun e=>ai.2 ⟨by simp;omega,ai.2 ⟨by simp;omega,ak.2 ⟨⟨i+1,rfl,h5,hmap,?_⟩,by dsimp only;omega⟩⟩⟩⟩
        · have:(fv b ((tabs c).take i)).1=0:=by rw [←o1];simpa using e
          rw [hs,if_pos this]
        · have:¬(fv b ((tabs c).take i)).1=0:=by rw [←o1];simpa using e
          rw [hs,if_neg this]
          exact i3
    · simp at h5
      rw [List.take_of_length_le (by omega)] at i3 ⊢
      exact ⟨rfl,i3⟩
  · obtain ⟨o,a,s,n,_⟩:=x
    obtain ⟨h1,h2⟩:=hx
    dsimp only at h1 h2 ⊢
    subst h1
    rw [Bp g hm,←h2]
    refine af.2 (ah.2 (ac.2 ⟨fun _=>af.2 ((Db g).mono fun y hy=>ah.2 ?_),fun h=>?_⟩))
    · dsimp only
      rw [hy]
      rfl
    · have:Ty.eq gT (a,(s,n)) (a,(s,n))=true:=eqWv.2 rfl
      dsimp only at h
      rw [this] at h
      cases h
end Go.Proofs.Ytpoffnlnhdbpmaa
end
section
set_option maxRecDepth 100000
namespace Go.Proofs.Ytpoffnlnhdbpmaa
open Go Lv Go.Proofs Go.RowKit Go.Shelf
variable [Lk]
omit [Lk] in
theorem nh {t n:Nat} (h0:Nat.blt 0 (PP.bytesOf t)=true) (h:n*PP.bytesOf t≤reachBytes):n<1000000000000000:=by
 have h0:0<PP.bytesOf t:=Nat.le_of_ble_eq_true h0
 have:n*1≤n*PP.bytesOf t:=Nat.mul_le_mul_left n h0
 unfold reachBytes at h
 omega
omit [Lk] in
theorem lW {n:Int} (h:(Lit.int .i64 n).wf=true):I64 n:=by
 simp only [Lit.wf,Bool.and_eq_true,decide_eq_true_eq] at h
 have hm:IntKind.i64.min=-9223372036854775808:=by decide
 have hM:IntKind.i64.max=9223372036854775807:=by decide
 constructor<;>omega
theorem in_dn {d:bx} (h:In PP gv d):Dn d:=by
 simp only [In] at h
 obtain ⟨h1,⟨h2,⟨h3,h3'⟩,h4,h4'⟩,h5,h6,h7,h8,⟨h9,h9'⟩,⟨h10,h10'⟩,_,h12,h12'⟩:=h
 exact ⟨nh (by kernel_rfl) h3,nh (by kernel_rfl) h4,fun e he=>nh (by kernel_rfl) (h4' e he).1,nh (by kernel_rfl) h9,nh (by kernel_rfl) h10,nh (by kernel_rfl) h12,
  fun e he n hn=>⟨lW ((h4' e he).2 n hn).2.1,lW ((h4' e he).2 n hn).2.2.2.1⟩,fun n hn=>⟨lW (h9' n hn).2.1,lW (h9' n hn).2.2.2.1⟩,lW h8.1,lW h8.2,fun n hn=>lW (h10' n hn),fun x hx=>lW (h12' x hx).2⟩
theorem in_bn {b:List bC} (h:In PP (.sl 44 dS) b):Bn b:=by
 simp only [In] at h
 exact ⟨nh (by kernel_rfl) h.1,fun x hx r hr=>nh (by kernel_rfl) ((h.2 x hx).2.2 r hr).1.1⟩
theorem pure4 (x:pD [(.sl 84 gv,false),(.sl 44 dS,false)]) (h:vc Tryz.prog [(.sl 84 gv,false),(.sl 44 dS,false)] x):dN.F (pi 0 [(.sl 84 gv,false),(.sl 44 dS,false)] x)=some (true,()):=by
 obtain ⟨c,b,u⟩:=x
 obtain ⟨⟨hc,hc'⟩,hb,_⟩:=h
 exact xc c (nh (by kernel_rfl) hc) (fun d hd=>in_dn (hc' d hd)) b (in_bn hb)
theorem zN:fk Tryz.prog 4 ⟨2,dN.d.si,dN.d.so,dN.F⟩:=dN.k.ok eR.c mixed
end Go.Proofs.Ytpoffnlnhdbpmaa
end
