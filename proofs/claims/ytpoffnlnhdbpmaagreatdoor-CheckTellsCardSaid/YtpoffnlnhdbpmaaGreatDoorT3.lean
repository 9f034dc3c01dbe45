import Derived.Test.YtpoffnlnhdbpmaaGreatDoorT2
import Derived.Laws.StructEq
import Derived.ChangeKeysEq
import Derived.ProofKit
import Derived.SizedLaws
import Derived.Below
import Derived.ChangeOld
import Derived.Deep.Slices
import Derived.OpenShut
import Derived.Lib.AppendZerosOnto
import Derived.Lib.Overlaps
import Derived.Laws.Externs
import Derived.Laws.CopyRow
import Derived.Lib.JoinLaws
import Derived.Recover
import Derived.FnData
import Derived.Lib.LaidTab
import Derived.KernelRfl
set_option linter.all false
set_option linter.unusedVariables false
set_option linter.unusedSimpArgs false
set_option linter.unusedSectionVars false
section
namespace Lv
variable [gG]
open Go Go.RowKit
section
variable {P:Program} {ops:Array Oper} {es:List E} {st:St}
theorem yo (K : Ok P ops es st) {Q : Exit → Act → World → Prop} {D W : List Nat} {ρ0 : Nat → Value} {ok0 : Nat → Prop} {w0 : World} {a0 : Act} (hD : ∀ e ∈ es,∀ l ∈ names e.t.up,l ∈ D) (hW : ∀ e ∈ es,∀ t ∈ gX e.o,t ∈ W ∧ t < a0.tmps.size)
    (hQ:∀a w,(∃ρ ok,ew ρ ok w (goAll st es).hp (goAll st es).nx∧eH ρ ok w (goAll st es).nx (goAll st es).env a.tmps∧gV ρ0 ok0 w0 st.hp st.nx D ρ ok w (goAll st es).hp (goAll st es).nx∧Tm W a0 a)→Q .normal a w):
    ∀(fuel:Nat) (listed:Array Bool) (a:Act) (w:World),listed.toList.countP (! ·)=fuel→(∃env hp ρ ok,Inv ops es st D W ρ0 ok0 w0 a0 listed env hp ρ ok w a)→wpAny P .any ops Q fuel listed a w:=by
  have hlen:ops.size=es.length:=by rw [←Array.length_toList,←K.all,List.length_map]
  have hop:∀(i:Nat) (e:E),es[i]?=some e→ops[i]?=some e.o:=fun i e h=>by
    have:ops.toList[i]?=some e.o:=by rw [←K.all,List.getElem?_map,h];rfl
    simpa using this
  have hall:nmAt es st es.length=(goAll st es).nx:=by simp [nmAt]
  intro fuel
  induction fuel with
  |zero=>
    rintro listed a w hc ⟨env,hp,ρ,ok,I⟩
    have full:∀i,i<es.length→listed.getD i false=true:=fun i hi=>by
      have:=pr listed.toList hc i (by simpa [I.size] using hi)
      simp at this
      simp [this]
    refine ⟨?_,?_⟩
    · cases hr:Region.ready .any ops listed with
      |nil=>rfl
      |cons i r=>
        have hi:i∈Region.ready .any ops listed:=by rw [hr];exact List.mem_cons_self
        obtain ⟨h1,o,h2,_⟩:=mem_ready.1 hi
        have hlt:i<es.length:=by rw [←hlen];exact (Array.getElem?_eq_some_iff.1 h2).1
        have:=full i hlt
        have hs:i<listed.size:=by rw [I.size];exact hlt
        simp [hs] at h1 this
        rw [h1] at this;cases this
    · have e1:env=(goAll st es).env:=funext fun t=>by
        have:=K.canonE.last I.seenE full t
        simpa [vE] using this
      have e2:hp=(goAll st es).hp:=funext fun t=>by
        have:=K.canonH.last I.seenH full t
        simpa [vH] using this
      have H:=I.H
      have HE:=I.envR
      have G:=I.G
      rw [hall,e2] at H G
      rw [hall,e1] at HE
      exact hQ a w ⟨ρ,ok,H,HE,G,I.T⟩
  |succ fuel ih=>
    rintro listed a w hc ⟨env,hp,ρ,ok,I⟩
    refine ⟨fun hr=>?_,fun i hi=>?_⟩
    · exfalso
      rcases sE listed with h|⟨i,h1,h2,h3⟩
      · have:listed.toList.countP (! ·)=0:=by
          rw [List.countP_eq_zero]
          intro b hb
          obtain ⟨i,hi,e⟩:=List.mem_iff_getElem.1 hb
          have:=h i (by simpa using hi)
          simp at hi
          simp [hi] at this
          subst e
          simp [this]
        omega
      · have hlt:i<ops.size:=by rw [hlen,←I.size];exact h1
        have:i∈Region.ready .any ops listed:=by
          refine mem_ready.2 ⟨?_,ops[i],Array.getElem?_eq_getElem hlt,fun e he hb=>h3 _ (K.back i ops[i] (Array.getElem?_eq_getElem hlt) e he hb)⟩
          simp [h1] at h2 ⊢;exact h2
        rw [hr] at this
        cases this
    · obtain ⟨hun,o,ho,hafter⟩:=mem_ready.1 hi
      have hlt:i<es.length:=by rw [←hlen];exact (Array.getElem?_eq_some_iff.1 ho).1
      have he:es[i]?=some es[i]:=List.getElem?_eq_getElem hlt
      generalize hee:es[i]=e at he
      have hoo:=hop i e he
      have hcond:=K.cond i e he
      have hls:i<listed.size:=by rw [I.size];exact hlt
      have hunf:¬listed.getD i false=true:=by simp [hls] at hun ⊢;exact hun
      have hbef:=I.before K hi
      have readE:∀t∈mB ops e.o,env t=(goAll st (es.take i)).env t:=fun t ht=>K.canonE.reads I.seenE hlt hunf hbef ⟨e,he,ht⟩
      have readH:∀l∈e.t.looks,hp l=(goAll st (es.take i)).hp l:=fun l hl=>K.canonH.reads I.seenH hlt hunf hbef ⟨e,he,hl⟩
      have hcount:(listed.setIfInBounds i true).toList.countP (! ·)=fuel:=by
        have h:=ql listed.toList i (by simp [hls] at hun ⊢;exact hun)
        rw [hc] at h
        rw [Array.toList_setIfInBounds]
        omega
      have hdb:∀t∈gX e.o,t<a.tmps.size:=fun t ht=>by rw [I.T.size];exact (hW e (List.mem_of_getElem? he) t ht).2
      -- the operation is wanted or not,as it was
      have hwant:Region.wanted e.o (yielded ops a.tmps)=e.yes:=by
        have hg:=hcond.guard
        cases hgd:e.o.guard with
        |none=>rw [hgd] at hg;simp only at hg;rw [hg];simp [Region.wanted,hgd]
        |some p=>
          obtain ⟨g,want⟩:=p
          rw [hgd] at hg
          obtain ⟨t,h1,hg⟩:=hg
          have ht:t∈mB ops e.o:=by
            simp only [mB,hgd,h1]
            exact List.mem_append_right _ List.mem_cons_self
          rcases hg with ⟨b,h2,h3⟩|⟨h2,h3⟩
          case inr=>
            obtain ⟨v,hv1,vs,hv2,hv3⟩:=I.envR t _ ((readE t ht).trans h2)
            cases hv3
            subst hv2
            have hy:yielded ops a.tmps g=none:=by simp [yielded,h1,hv1]
            rw [h3]
            simp [Region.wanted,hgd,hy]
          obtain ⟨v,hv1,hv2⟩:=I.envR t _ ((readE t ht).trans h2)
          obtain ⟨c,ec,hv2⟩:=hv2
          cases ec
          have hv:v=.bool b:=hv2
          subst hv
          have hy:yielded ops a.tmps g=some b:=by simp [yielded,h1,hv1]
          rw [h3]
          cases b<;>cases want<;>simp [Region.wanted,hgd,hy]
      unfold wpOp
      rw [hoo]
      simp only
      cases hyes:e.yes with
      |false=>
        rw [hwant,hyes,if_neg (by simp)]
        obtain ⟨n1,n2,n3⟩:=hcond.no hyes
        have hL:ew ρ ok w (fun _=>none) (nmAt es st i):=⟨fun l o h=>(by cases h),I.H.okl,fun l o b h=>(by cases h),fun l m o p b h=>(by cases h),I.H.gl⟩
        obtain ⟨ρ2,I2⟩:=I.next K hD hW he hi (hpL:=fun _=>none) (fun l o h=>by cases h) hL (ρ':=ρ) (ok':=ok) (w':=w) (by rw [n2,n3];exact Eff.refl hL) (v:=undef) (fun x hx=>by rw [n1] at hx;cases hx;exact ⟨[],rfl,.nil⟩)
        exact ih _ _ _ hcount ⟨_,_,_,_,I2⟩
      |true=>
        rw [hwant,hyes,if_pos rfl]
        obtain ⟨lk1,lk2,lk3⟩:=hcond.looks hyes
        have hs:∀l o,jN e.t.looks (goAll st (es.take i)).hp l=some o→hp l=some o:=fun l o h=>by
          rw [readH l (nM h)];exact qk _ _ _ _ h
        have hL:ew ρ ok w (jN e.t.looks (goAll st (es.take i)).hp) (nmAt es st i):=by
          refine ⟨fun l o h=>?_,I.H.okl,fun l o b h=>I.H.sep l o b (hs l o h),fun l m o p b h h'=>I.H.dis l m o p b (hs l o h) (hs m p h'),I.H.gl⟩
          refine ⟨lk2 l (nM h),(I.H.ob l o (hs l o h)).2.moveM (gU.refl _ _) rfl (fun m hm=>⟨rfl,lk3 l (nM h) m ?_⟩) fun _ _ _=>rfl⟩
          rw [qk _ _ _ _ h];exact hm
        have hE:eH ρ ok w (nmAt es st i) (ko (je e.o) (goAll st (es.take i)).env) a.tmps:=by
          intro t s hts
          unfold ko at hts
          split at hts<;>try (cases hts;done)
          rename_i hm
          have hm:=iK.1 hm
          have htt:t∈mB ops e.o:=List.mem_append_left _ hm
          obtain ⟨v,h1,h2⟩:=I.envR t s ((readE t htt).trans hts)
          exact ⟨v,h1,h2.moveM (gU.refl _ _) fun m hm'=>⟨rfl,lk2 m (lk1 t hm m (by rw [hts];exact hm'))⟩⟩
        refine .inl (Oper.wp_mono ?_ (hcond.loc hyes ρ ok w a hL hE hdb Q))
        rintro a' w' ⟨v,ρ',ok',rfl,F,hv⟩
        obtain ⟨ρ2,I2⟩:=I.next K hD hW he hi hs hL F hv
        exact ih _ _ _ hcount ⟨_,_,_,_,I2⟩
theorem lh {cx : Cx} (hcx : gT P cx) (hm : P.follows .mixedOrders = true) : jz P cx := by
  refine ⟨hm,?_⟩
  intro R rid ops st κ r h ρ ok w a hH hE hW Q hQ
  obtain ⟨es,h1,h2,h3⟩:=po hcx ops ops.toList st [] _ r h
  split at h2<;>try (cases h2;done)
  rename_i hfree
  obtain ⟨f1,f2⟩:=Bool.and_eq_true_iff.1 hfree
  have hz:ops.toList.zip ([]++es.map (·.t))=es.map fun e=>(e.o,e.t):=by
    rw [List.nil_append,←h1,List.zip_map']
  rw [hz] at f2
  have K:Ok P ops es st:=by
    refine ⟨h1,h3,fun k o ho e he hb=>?_,fun i j x y hij hx hy hn=>?_⟩
    · have:=lS f1 k o (by simpa using ho) e he hb
      omega
    · rcases nc f2 i j x.o y.o x.t y.t hij (by rw [List.getElem?_map,hx];rfl) (by rw [List.getElem?_map,hy];rfl) with g|g
      · rw [Nat.zero_add,Nat.zero_add] at g
        exact absurd g hn
      · exact g
  obtain ⟨D,hD1,hD2⟩:=sD st es
  have hlen:ops.size=es.length:=by rw [←Array.length_toList,←h1,List.length_map]
  have hme:∀e∈es,e.o∈ops.toList:=fun e he=>by rw [←h1];exact List.mem_map.2 ⟨e,he,rfl⟩
  have hle:st.nx≤nmAt es st es.length:=ml (es:=es) (st:=st) (i:=0) (Nat.zero_le _)
  refine wp_region_any hm (yo K (D:=D) (W:=ops.toList.flatMap gX) (ρ0:=ρ) (ok0:=ok) (w0:=w) (a0:=a) hD2
    (fun e he t ht=>⟨List.mem_flatMap.2 ⟨e.o,hme e he,ht⟩,hW e.o (hme e he) t ht⟩) ?_ ops.size _ a _ (by simp [List.countP_replicate]) ?_)
  · rintro a' w' ⟨ρ',ok',k1,k2,k3,k4⟩
    exact hQ _ a' w' h2 ⟨ρ',ok',D,hD1,k1,k2,k3,k4⟩
  · have emp:∀j,(Array.replicate ops.size false).getD j false=true→False:=fun j h=>by
      rw [Array.getD_eq_getD_getElem?,Array.getElem?_replicate] at h
      split at h<;>simp at h
    refine ⟨st.env,st.hp,ρ,ok,by simp [hlen],fun j o h=>(emp j h).elim,?_,?_,?_,?_,?_,?_,?_,Tm.refl _ _⟩
    · intro k hk key hkr hn
      exact K.canonE.start k (hk.imp id fun ⟨a,b⟩=>⟨a,id⟩) key hkr fun j hj _=>hn j hj fun h=>emp j h
    · intro k hk key hkr hn
      exact K.canonH.start k (hk.imp id fun ⟨a,b⟩=>⟨a,id⟩) key hkr fun j hj _=>hn j hj fun h=>emp j h
    · exact (hH.heap (w':={w with drawn:=w.drawn+1}) rfl).more hle
    · exact (hE.heap (w':={w with drawn:=w.drawn+1}) rfl).more hle
    · intro l o ho
      obtain ⟨g1,g2⟩:=hH.ob l o ho
      exact ⟨.inl g1,fun m hm=> .inl (g2.names m hm)⟩
    · intro t m hm'
      cases hs:st.env t with
      |none=>rw [hs] at hm';cases hm'
      |some s=>
        rw [hs] at hm'
        obtain ⟨v,_,hv⟩:=hE t s hs
        exact .inl (hv.names m hm')
    · have G:=gV.refl (ρ:=ρ) (ok:=ok) (w:=w) (hp:=st.hp) (nx:=st.nx) fun l o ho=>(hH.ob l o ho).1
      exact ⟨rfl,rfl,⟨rfl,fun _=>Nat.le_succ _⟩,Nat.le_refl _,hle,fun _ _ _=>rfl,fun _ _=>rfl,fun _ h=>h,fun _ h=> .inl h,fun _ _ _=>rfl,fun _ _ o h=>⟨o,h,id⟩,fun l o b hl ho _ _=>absurd (hH.ob l o ho).1 (by omega)⟩
end
end Lv
end
section
namespace Lv
variable [gG]
open Go Go.RowKit
section
variable {P:Program} {cx:Cx}
theorem oh (hT : gC P cx.tab) {ρ : Nat → Value} {ok : Nat → Prop} {w : World} {hp : cT} {nx : Nat} {env : Env} {tmps : Array Value} (hH : ew ρ ok w hp nx) (hE : eH ρ ok w nx env tmps) (f : ResultVar → Sem Value) (hf : ∀ t,f (.tmp t) = pure (tmps.getD t undef))
    (hc:∀a t,f (.cell a t)=(do loadVar t (←asAddr (tmps.getD a undef)))) {v:ResultVar} {p:Bool×List Cell} (h:mX cx env hp v=some p):∃u,(f v).run P w=.ok u w∧VR ρ ok w nx p.1 p.2 u:=by
  cases v with
  |tmp t=>
    simp only [mX] at h
    split at h<;>try (cases h;done)
    rename_i a cs ht
    cases h
    obtain ⟨v,hv1,hv2⟩:=hE t _ ht
    have:tmps.getD t undef=v:=by simp [Array.getD_eq_getD_getElem?,hv1]
    exact ⟨v,by rw [hf,this];simp,hv2⟩
  |cell a t=>
    simp only [mX] at h
    split at h<;>try (cases h;done)
    rename_i i l off hi ha
    split at h<;>try (cases h;done)
    rename_i e cs hl
    split at h<;>try (cases h;done)
    rename_i hb
    cases h
    obtain ⟨v,hv1,hv2⟩:=hE a _ (kq ha)
    obtain ⟨c,ec,hv2⟩:=hv2
    cases ec
    obtain ⟨_,b,k1,k2⟩:=hv2
    obtain ⟨_,b',vs,g1,g2,g3⟩:=hH.ob l _ hl
    rw [k1] at g1
    cases g1
    have hle:=Nat.le_of_ble_eq_true hb
    have hlen0:=g3.len
    have hc':=(g3.drop off).take i.size
    have hlen:((vs.drop off).take i.size).length=i.size:=by simp;omega
    have hTI:=hT t i hi
    have hrun:=p7 (w:=w) hTI (b:=b) (off:=off) hlen (fun j v hj=>by
      rw [List.getElem?_take] at hj
      split at hj
      · rw [List.getElem?_drop] at hj
        simpa [World.cell?,g2] using hj
      · cases hj)
    have:tmps.getD a undef=v:=by simp [Array.getD_eq_getD_getElem?,hv1]
    refine ⟨_,by rw [hc,this,k2];simp only [asAddr,Sem.run_bind,Sem.run_pure,Result.andThen_ok,hrun];rfl,?_⟩
    by_cases hag:i.agg=true
    · simp only [hag,if_true]
      exact ⟨_,rfl,hc'⟩
    · have hag:i.agg=false:=by simpa using hag
      simp only [hag,Bool.false_eq_true,if_false]
      have h1:i.size=1:=hTI.one.resolve_left (by simp [hag])
      rw [h1] at hc' hlen ⊢
      have hl2:=hc'.len
      match hcs:(cs.drop off).take 1,hvs:(vs.drop off).take 1,hlen with
      | [],[v],_=>rw [hcs,hvs] at hl2;simp at hl2
      | [c],[v],_=>
        rw [hcs,hvs] at hc'
        obtain ⟨u,e,hu⟩:=hc'.one
        cases e
        exact ⟨c,rfl,hu⟩
      |_::_::_,[v],_=>rw [hcs,hvs] at hl2;simp at hl2
theorem qm (hT:gC P cx.tab) {ρ:Nat→Value} {ok:Nat→Prop} {w:World} {hp:cT} {nx:Nat} {env:Env} {tmps:Array Value} (hH:ew ρ ok w hp nx) (hE:eH ρ ok w nx env tmps) (f:ResultVar→Sem Value) (hf:∀t,f (.tmp t)=pure (tmps.getD t undef))
 (hc:∀a t,f (.cell a t)=(do loadVar t (←asAddr (tmps.getD a undef)))):∀(rs:List ResultVar) (l:List (Bool×List Cell)),p5 cx env hp rs=some l→
 ∃us,(rs.mapM f).run P w=.ok us w∧All2 (fun (p:Bool×List Cell) u=>VR ρ ok w nx p.1 p.2 u) l us
 | [],l,h=>by cases h;exact ⟨[],by simp,.nil⟩
 |v::r,l,h=>by
  simp only [p5] at h
  split at h<;>try (cases h;done)
  rename_i p l' h1 h2
  cases h
  obtain ⟨u,k1,k2⟩:=oh hT hH hE f hf hc h1
  obtain ⟨us,g1,g2⟩:=qm hT hH hE f hf hc r l' h2
  exact ⟨u::us,by simp only [List.mapM_cons,Sem.run_bind,k1,Result.andThen_ok,g1,Sem.run_pure],.cons k2 g2⟩
theorem ul (hT : gC P cx.tab) {fn : Func} {ρ : Nat → Value} {ok : Nat → Prop} {w : World} {hp : cT} {nx : Nat} {env : Env} {tmps : Array Value} (hH : ew ρ ok w hp nx) (hE : eH ρ ok w nx env tmps) {s : fE} (h : jb cx env hp fn.results.toList = some s) :
    ∃v,(results fn tmps).run P w=.ok v w∧ij ρ ok w nx s v:=by
  unfold results
  rw [Array.mapM_eq_mapM_toList]
  simp only [Sem.run_bind,Sem.run_map,map_eq_pure_bind]
  generalize fn.results.toList=rs at h ⊢
  generalize hF:(fun x=>match x with
    |ResultVar.tmp t=>pure (tmps.getD t undef)
    |ResultVar.cell a t=>do loadVar t (←asAddr (tmps.getD a undef)):ResultVar→Sem Value)=F
  have f1:∀t,F (.tmp t)=pure (tmps.getD t undef):=fun t=>by rw [←hF]
  have f2:∀a t,F (.cell a t)=(do loadVar t (←asAddr (tmps.getD a undef))):=fun a t=>by rw [←hF]
  unfold jb at h
  split at h
  · rename_i v
    split at h<;>try (cases h;done)
    rename_i a cs hv
    cases h
    obtain ⟨u,k1,k2⟩:=oh hT hH hE F f1 f2 hv
    refine ⟨u,?_,k2⟩
    simp only [List.mapM_cons,List.mapM_nil,Sem.run_bind,k1,Result.andThen_ok,Sem.run_pure]
    rfl
  · rename_i hne
    split at h<;>try (cases h;done)
    rename_i l hl
    cases h
    obtain ⟨us,k1,k2⟩:=qm hT hH hE F f1 f2 rs l hl
    have hlen:us.length≠1:=by
      rw [←k2.len]
      have:∀(rs:List ResultVar) l,p5 cx env hp rs=some l→l.length=rs.length:=by
        intro rs
        induction rs with
        |nil=>intro l h;cases h;rfl
        |cons v r ih=>
          intro l h
          simp only [p5] at h
          split at h<;>try (cases h;done)
          rename_i p l' h1 h2
          cases h
          simp [ih l' h2]
      rw [this rs l hl]
      intro e
      match rs,e with
      | [v],_=>exact hne v rfl
    refine ⟨.tuple us.toArray,?_,us,rfl,k2⟩
    rw [k1]
    simp only [Result.andThen_ok,Sem.run_pure]
    simp [hlen]
end
theorem qn {ren : Ren} : ∀ {l : List (Nat × Bool × OSh)},inOk ren l = true → ∀ p ∈ l,(∀ m,ren p.1 = some m → p.1 < 1000 → m = p.1) ∧ (ren p.1 = none → 1000 ≤ p.1)
  |(k,r)::l,h,p,hp=>by
    obtain ⟨h1,h2⟩:=Bool.and_eq_true_iff.1 h
    rcases List.mem_cons.1 hp with rfl|hp
    · refine ⟨fun m hm hk=>?_,fun hm=>?_⟩
      · simp only at hm hk
        rw [hm] at h1
        simp only at h1
        rw [if_pos (show Nat.blt k 1000=true from Nat.ble_eq_true_of_le hk)] at h1
        exact Nat.eq_of_beq_eq_true h1
      · simp only at hm ⊢
        rw [hm] at h1
        exact Nat.le_of_ble_eq_true h1
    · exact qn h2 p hp
section
variable {P:Program}
structure oo (P:Program) (g:FuncId) (code:Code) (res:List ResultVar) (nt:Nat):Prop where
 ex : ∃ fn, P.funcs[g]? = some fn ∧ fn.body = some code ∧ fn.results.toList = res ∧ fn.ntmps = nt ∧ fn.name ≠ "runtime.NumGoroutine"
 wr:jo nt (writes code)=true
theorem oo.enters {g code res nt} (h:oo P g code res nt):lf P g:=by
 obtain ⟨fn,h1,h2,_,_,h5⟩:=h.ex
 exact ⟨fn,h1,by rw [h2];rfl,h5⟩
variable {cx:Cx} {inl:Inl}
theorem qN (hcx:gT P cx) (hinl:jy P cx.pan inl) (hdr:jz P cx) {g:FuncId} {code:Code} {res:List ResultVar} {nt:Nat} (hfn:oo P g code res nt) {R:Type} {h:H} {st:St} {κ:St→Option R} {κp:Int→St→Option R} {r:R}
 (hev:evC cx inl R code h st (fun o=>match o with| .normal st=>κ st| .ret st=>κ st| .exit _ _=>none| .pan n st=>κp n st)=some r) (hres:∀st',κ st'=some r→∃s,jb cx st'.env st'.hp res=some s) {ρ ok w} {args:Array Value} (hH:ew ρ ok w st.hp st.nx) (hE:eH ρ ok w st.nx st.env args):
 Calls P g args w fun e w'=>(∃v st' ρ' ok' D,e=.returned v∧κ st'=some r∧st'.dt=D++st.dt∧ew ρ' ok' w' st'.hp st'.nx∧(∀s,jb cx st'.env st'.hp res=some s→ij ρ' ok' w' st'.nx s v)∧gV ρ ok w st.hp st.nx D ρ' ok' w' st'.hp st'.nx)∨
  (∃n st' ρ' ok' D,e=.panicked (qK cx.pan n)∧κp n st'=some r∧st'.dt=D++st.dt∧ew ρ' ok' w' st'.hp st'.nx∧gV ρ ok w st.hp st.nx D ρ' ok' w' st'.hp st'.nx):=by
 obtain ⟨fn,h1,h2,h3,h4,h5⟩:=hfn.ex
 have fin:∀(st':St) (a':Act) (w':World),κ st'=some r→jO st ρ ok w {tmps:=args++Array.replicate (fn.ntmps-args.size) undef,defers:=[]} (writes code) st' a' w'→
  a'.defers=[]∧∃v,(results fn a'.tmps).run P w'=.ok v w'∧((∃v_1 st' ρ' ok' D,Ending.returned v=.returned v_1∧κ st'=some r∧st'.dt=D++st.dt∧ew ρ' ok' w' st'.hp st'.nx∧(∀s,jb cx st'.env st'.hp res=some s→ij ρ' ok' w' st'.nx s v_1)∧gV ρ ok w st.hp st.nx D ρ' ok' w' st'.hp st'.nx)∨
  (∃n st' ρ' ok' D,Ending.returned v=.panicked (qK cx.pan n)∧κp n st'=some r∧st'.dt=D++st.dt∧ew ρ' ok' w' st'.hp st'.nx∧gV ρ ok w st.hp st.nx D ρ' ok' w' st'.hp st'.nx)):=by
  rintro st' a' w' hκ ⟨ρ',ok',D,g1,g2,g3,g4,g5⟩
  obtain ⟨s,hs⟩:=hres st' hκ
  obtain ⟨v,k1,k2⟩:=ul (P:=P) (fn:=fn) hcx.tab g2 g3 (s:=s) (by rw [h3];exact hs)
  exact ⟨g5.defers,v,k1,.inl ⟨v,st',ρ',ok',D,rfl,hκ,g1,g2,fun s' hs'=>by rw [hs] at hs';cases hs';exact k2,g4⟩⟩
 refine calls_of_wp h1 h2 (jA hcx hinl hdr code R h st _ r hev ρ ok w _ hH ?_ ?_ _ ?_ ?_)
 ·intro t s hs
  obtain ⟨v,k1,k2⟩:=hE t s hs
  refine ⟨v,?_,k2⟩
  rw [Array.getElem?_append_left (Array.getElem?_eq_some_iff.1 k1).1]
  exact k1
 ·intro t ht
  have:=jp.1 hfn.wr t ht
  simp only [Array.size_append,Array.size_replicate]
  omega
 ·intro o e a' w' k1 k2 k3
  cases o with
  |normal st'=>
   cases k2
   exact fin st' a' w' k1 k3
  |ret st'=>
   cases k2
   exact fin st' a' w' k1 k3
  |exit id st'=>cases k1
  |pan n st'=>cases k2
 ·rintro n st' a' w' k1 ⟨ρ',ok',D,g1,g2,g3,g4,g5⟩
  exact ⟨g5.defers,.inr ⟨n,st',ρ',ok',D,rfl,k1,g1,g2,g4⟩⟩
theorem qO {cx : Cx} {res : List ResultVar} {si so : Sh} (hso : iv so = true) {x : TS si} {y : TS so} {st' : St} {ρ ok w ρ1 ok1 w'} {v : Value} {D : List Nat} (hκ : evF.fin cx res so st' = some y)
    (R1:ew ρ1 ok1 w' st'.hp st'.nx) (S1:∀s,jb cx st'.env st'.hp res=some s→ij ρ1 ok1 w' st'.nx s v) (G:gV ρ ok w (eO si id x) 1000 D ρ1 ok1 w' st'.hp st'.nx):
    ∃u ρ' ok',Ending.returned v=.returned u∧ew ρ' ok' w' (eO so id y) so.nn∧eH ρ' ok' w' so.nn (ik so id y) #[u]∧lL (eO si id x) ρ ok w (eO so id y) ρ' ok' w':=by
  unfold evF.fin at hκ
  split at hκ<;>try (cases hκ;done)
  rename_i sl hsl
  split at hκ<;>try (cases hκ;done)
  rename_i hin
  rw [←hsl] at hin hκ
  have hin:=qn hin
  have hE1:eH ρ1 ok1 w' st'.nx (Lv.put (fun _=>none) 0 (jb cx st'.env st'.hp res)) #[v]:=by
    intro t s hs
    simp only [Lv.put] at hs
    split at hs
    · rename_i ht
      have:=Nat.eq_of_beq_eq_true ht
      subst this
      exact ⟨v,rfl,S1 s hs⟩
    · cases hs
  generalize hen:Lv.put (fun _=>none) 0 (jb cx st'.env st'.hp res)=env1 at hE1 hκ hin
  have hf0:j8 id 0 so.nn (cp so env1 st'.hp):=fun l _=> .inl (by simp)
  obtain ⟨t1,t2,t3⟩:=uf R1 hE1 hso hκ (f:=id) (nx0:=0) hf0 (H0:=fun _=>none) (fun q o h=>by cases h) (E0:=fun _=>none) (fun t s h=>by cases h)
  have hρ:∀q,reρ ρ1 0 (cp so env1 st'.hp) q=match cp so env1 st'.hp q with|some m=>ρ1 m|none=> .slice none 0 0:=fun q=>by unfold reρ;rw [if_neg (by omega)];rfl
  refine ⟨v,_,_,rfl,t1.more (by simp),t2.more (by simp),⟨G.os,G.tape,G.output,G.size,?_,fun b hb=> .inl (G.okm b hb),?_,?_,?_⟩⟩
  · intro b hb hne
    exact G.same b hb fun l _ _ o ho hw=>hne l o ho hw
  · rintro b (hb|⟨l,hl,hb⟩)
    · rcases G.okn b hb with k|k|⟨l,_,_,o,ho,hw,hbl⟩
      · exact .inl k
      · exact .inr (.inl k)
      · exact .inr (.inr ⟨l,o,ho,hw,hbl⟩)
    · rcases ie (iE so env1 st'.hp) l with ⟨_,e,t,xs,k1,_⟩|⟨k1,_⟩
      · by_cases hlt:l<1000
        · obtain ⟨p,g1,g2⟩:=G.stay l hlt _ k1
          rw [G.rho l hlt] at hb
          exact .inr (.inr ⟨l,p,g1,g2 rfl,hb⟩)
        · rcases G.nb l _ b (by omega) k1 rfl hb with g|⟨m,_,_,p,g1,g2,g3⟩
          · exact .inr (.inl g)
          · exact .inr (.inr ⟨m,p,g1,g2,g3⟩)
      · exact absurd hl k1
  · intro l o ho hlt
    rcases t3 l o ho with ⟨p,hp1,hp2,hp3,hp4⟩|⟨hp1,_⟩
    · have hp2:l=p.1:=hp2
      subst hp2
      obtain ⟨i1,i2⟩:=hin p hp1
      rcases hp4.src with ⟨m,q,g1,g2,g3⟩|g1
      · have:=i1 m g1 hlt
        subst this
        obtain ⟨s,k1,k2⟩:=G.stay _ hlt q g2
        refine ⟨?_,s,k1,fun _=>k2 g3⟩
        rw [hρ,g1]
        exact G.rho _ hlt
      · have:=i2 g1;omega
    · cases hp1
  · intro l o b ho hge hw hb
    rcases t3 l o ho with ⟨p,hp1,hp2,hp3,hp4⟩|⟨hp1,_⟩
    · have hp2:l=p.1:=hp2
      subst hp2
      obtain ⟨i1,i2⟩:=hin p hp1
      rcases hp4.src with ⟨m,q,g1,g2,g3⟩|g1
      · rw [hρ,g1] at hb
        by_cases hm:m<1000
        · obtain ⟨s,k1,k2⟩:=G.stay m hm q g2
          have hb:blk (ρ1 m)=some b:=hb
          rw [G.rho m hm] at hb
          exact .inr ⟨m,s,k1,k2 g3,hb⟩
        · rcases G.nb m q b (by simpa using hm) g2 g3 hb with k|⟨m',_,_,s,k1,k2,k3⟩
          · exact .inl k
          · exact .inr ⟨m',s,k1,k2,k3⟩
      · rw [hρ,g1] at hb;cases hb
    · cases hp1
theorem oB {cx:Cx} {res:List ResultVar} {so:Sh} {y:TS so} {st':St} (h:evF.fin cx res so st'=some y):∃s,jb cx st'.env st'.hp res=some s:=by
 unfold evF.fin at h
 split at h
 ·exact ⟨_,by assumption⟩
 ·cases h
theorem Cb (hcx:gT P cx) (hinl:jy P cx.pan inl) (hdr:jz P cx) {g:FuncId} {code:Code} {res:List ResultVar} {nt:Nat} (hfn:oo P g code res nt) (h:H) {n:Nat} {si so:Sh} (hso:iv so=true)
 {F:TS si→Option (TS so)} (hF:∀x y,F x=some y→evF cx inl code res h si so x=some y):fk P g ⟨n,si,so,F⟩:=by
 intro x y hxy ρ ok w args _ hH hE
 have hev:=hF x y hxy
 unfold evF at hev
 refine (qN hcx hinl hdr hfn (st:=⟨ik si id x,eO si id x,1000,[]⟩) (κ:=evF.fin cx res so) (κp:=fun _ _=>none) hev (fun st' h=>oB h) hH hE).mono ?_
 rintro e w' (⟨v,st',ρ1,ok1,D,rfl,hκ,hD,R1,S1,G⟩|⟨n,_,_,_,_,_,hn,_⟩)
 ·exact qO hso hκ R1 S1 G
 ·cases hn
theorem Ak (hcx:gT P cx) (hinl:jy P cx.pan inl) (hdr:jz P cx) {g:FuncId} {code:Code} {res:List ResultVar} {nt:Nat} (hfn:oo P g code res nt) (h:H) {n:Nat} {si so:Sh} (hso:iv so=true)
 {F:TS si→Option (TS so⊕Int)} (hF:∀x y,F x=some y→tS cx inl code res h si so x=some y):m7 P g cx.pan ⟨n,si,so,F⟩:=by
 intro x z hxz ρ ok w args _ hH hE
 have hev:=hF x z hxz
 unfold tS at hev
 refine (qN hcx hinl hdr hfn (st:=⟨ik si id x,eO si id x,1000,[]⟩) (κ:=tS.finP cx res so) (κp:=fun n _=>some (.inr n)) hev (fun st' h=>by
  unfold tS.finP at h
  split at h
  ·rename_i y hy;exact oB hy
  ·cases h) hH hE).mono ?_
 rintro e w' (⟨v,st',ρ1,ok1,D,rfl,hκ,hD,R1,S1,G⟩|⟨n,st',ρ1,ok1,D,rfl,hn,hD,R1,G⟩)
 ·unfold tS.finP at hκ
  split at hκ
  ·rename_i y hy
   cases hκ
   exact qO hso hy R1 S1 G
  ·cases hκ
 ·cases hn
  exact ⟨rfl,G.pan (ug.refl _ _ _)⟩
theorem qP (hcx:gT P cx) (hinl:jy P cx.pan inl) (hdr:jz P cx) {fn:Nat→List (Option fE)→cT→Option (Code×List ResultVar×H)} (hfn:∀g as hp code res h,fn g as hp=some (code,res,h)→∃nt,oo P g code res nt):jy P cx.pan (xL cx fn inl):=by
 intro R g args hp nx dt κ κp r h
 unfold xL at h
 split at h<;>try (cases h;done)
 rename_i code res hh hg
 obtain ⟨nt,hF⟩:=hfn g _ _ code res hh hg
 refine ⟨hF.enters,fun ρ ok w vals hH hE=>?_⟩
 refine (qN hcx hinl hdr hF (st:=⟨gY args,hp,nx,dt⟩) (κ:=fun st=>match jb cx st.env st.hp res with|some s=>κ (some s) st.hp st.nx st.dt|none=>none) (κp:=fun n st=>κp n st.hp st.nx st.dt) h (fun st' h=>by
  split at h<;>first|exact ⟨_,by assumption⟩|cases h) hH hE).mono ?_
 rintro e w' (⟨v,st',ρ1,ok1,D,rfl,hκ,hD,R1,S1,G⟩|⟨n,st',ρ1,ok1,D,rfl,hn,hD,R1,G⟩)
 ·split at hκ<;>try (cases hκ;done)
  rename_i s hs
  exact .inl ⟨v,some s,_,_,_,D,ρ1,ok1,rfl,hκ,hD,R1,fun x hx=>by cases hx;exact S1 _ hs,G⟩
 ·exact .inr ⟨n,_,_,_,D,ρ1,ok1,rfl,hn,hD,R1,G⟩
end
end Lv
end
section
namespace Lv
variable [gG]
open Go Go.RowKit
section
variable (P:Program) (tab:Nat→Option TI)
def qQ (rec:TypeId→Ty→Bool) (f:Field) (off:Nat) (ty:Ty):Bool:=
 !(f.name == "_") && (Nat.beq f.offset off && ((match tab f.type with | some i => Nat.beq i.size ty.n | none => false) && rec f.type ty))
def pt (rec:TypeId→Ty→Bool):List Field→Nat→Ty→Bool
 | [f],off,ty=>qQ tab rec f off ty
 |f::g::r,off,.pair a b=>qQ tab rec f off a&&pt rec (g::r) (off+a.n) b
 |_,_,_=>false
def elB (e:Nat) (n:Nat):Bool:=match tab e with|some i=>Nat.beq i.size n|none=>false
def sF (rec:TypeId→Ty→Bool) (e:Nat):Nat→Ty→Bool
 |1,ty=>elB tab e ty.n&&rec e ty
 |n+2,.pair a b=>(elB tab e a.n&&rec e a)&&sF rec e (n+1) b
 |_,_=>false
def eqB : Nat → TypeId → Ty → Bool
  |0,_,_=>false
  |d+1,t,ty=>match P.underlying t with
    |some .bool=>ty.b .bool
    |some (.int _)=>(match ty with| .int _=>true|_=>false)
    |some .string=>ty.b .str
    |some (.struct fs)=> !P.stoodInHeld t&&pt tab (eqB d) fs.toList 0 ty
    |some (.array n e)=>sF tab (eqB d) e n ty
    |_=>false
end
section
variable {P:Program} {tab:Nat→Option TI}
def iy (P:Program) (t:TypeId) (vs:List Value):Value:=match P.underlying t with
 |some (.struct _)=> .agg vs.toArray
 |some (.array _ _)=> .agg vs.toArray
 |_=>vs.getD 0 undef
theorem nd (hT : gC P tab) {w : World} {t : TypeId} {i : TI} (hi : tab t = some i) {pre vs rest : List Value} (hl : vs.length = i.size) (hu : (∃ fs,P.underlying t = some (.struct fs)) ∨ (∃ n e,P.underlying t = some (.array n e)) ∨ P.underlying t = some .bool ∨ (∃ k,P.underlying t = some (.int k)) ∨ P.underlying t = some .string) :
    (part t (pre++vs++rest).toArray pre.length).run P w=.ok (iy P t vs) w:=by
  have hTI:=hT t i hi
  have hagg:=ox w hTI
  have hsz:=kC w hTI
  have scalar:i.agg=false→(∀fs,P.underlying t≠some (.struct fs))→(∀n e,P.underlying t≠some (.array n e))→(part t (pre++vs++rest).toArray pre.length).run P w=.ok (iy P t vs) w:=by
    intro ha hn hn'
    have h1:i.size=1:=hTI.one.resolve_left (by simp [ha])
    rw [h1] at hl
    match vs,hl with
    | [v],_=>
      have hg:((pre++ [v]++rest).toArray)[pre.length]?=some v:=by simp
      have hv:iy P t [v]=v:=by
        unfold iy
        split
        · rename_i fs h;exact absurd h (hn fs)
        · rename_i n e h;exact absurd h (hn' n e)
        · rfl
      unfold part
      simp only [Sem.run_bind,hagg,ha,Result.andThen_ok,Bool.false_eq_true,if_false,hg,hv,Sem.run_pure]
  obtain ⟨info,d,z,_,h2,h3,_⟩:=hTI.ex
  have hd:i.agg=aggD d:=p6 h3
  have aggr:i.agg=true→iy P t vs=.agg vs.toArray→(part t (pre++vs++rest).toArray pre.length).run P w=.ok (iy P t vs) w:=by
    intro ha hv
    unfold part
    simp only [Sem.run_bind,hagg,ha,Result.andThen_ok,if_true,hsz,Sem.run_pure,hv]
    congr 2
    rw [←hl]
    apply Array.toList_inj.1
    simp [List.extract_eq_take_drop,List.drop_append_of_le_length,List.append_assoc]
  rcases hu with ⟨fs,h⟩|⟨n,e,h⟩|h|⟨k,h⟩|h
  · rw [h] at h2;cases h2
    exact aggr hd (by unfold iy;rw [h])
  · rw [h] at h2;cases h2
    exact aggr hd (by unfold iy;rw [h])
  · rw [h] at h2;cases h2
    exact scalar hd (fun fs e=>by rw [h] at e;cases e) fun n f e=>by rw [h] at e;cases e
  · rw [h] at h2;cases h2
    exact scalar hd (fun fs e=>by rw [h] at e;cases e) fun n f e=>by rw [h] at e;cases e
  · rw [h] at h2;cases h2
    exact scalar hd (fun fs e=>by rw [h] at e;cases e) fun n f e=>by rw [h] at e;cases e
theorem qo {d:Nat} {t:TypeId} {ty:Ty} (h:eqB P tab d t ty=true):(∃fs,P.underlying t=some (.struct fs))∨(∃n e,P.underlying t=some (.array n e))∨P.underlying t=some .bool∨(∃k,P.underlying t=some (.int k))∨P.underlying t=some .string:=by
 cases d with
 |zero=>cases h
 |succ d=>
  simp only [eqB] at h
  split at h
  ·rename_i h';exact .inr (.inr (.inl h'))
  ·rename_i k h';exact .inr (.inr (.inr (.inl ⟨k,h'⟩)))
  ·rename_i h';exact .inr (.inr (.inr (.inr h')))
  ·rename_i fs h';exact .inl ⟨fs,h'⟩
  ·rename_i n e h';exact .inr (.inl ⟨n,e,h'⟩)
  ·cases h
theorem Cc (hT : gC P tab) {ok : Nat → Prop} {w : World} : ∀ (d : Nat) (t : TypeId) (ty : Ty),eqB P tab d t ty = true → ∀ (x y : ty.T) (vs us : List Value),K ok w ty x vs → K ok w ty y us → ∀ k,
    (Op.equalIn (d+k) t (iy P t vs) (iy P t us)).run P w=.ok (ty.eq x y) w:=by
  intro d
  induction d with
  |zero=>intro t ty h;cases h
  |succ d ih=>
    intro t ty h x y vs us hx hy k
    rw [show d+1+k=(d+k)+1 by omega]
    have field:∀(f:Field) (off:Nat) (a:Ty),qQ tab (eqB P tab d) f off a=true→∀(x y:a.T) (pre pre' vs us rest rest':List Value),pre.length=off→pre'.length=off→K ok w a x vs→K ok w a y us→
        (f.name == "_") = false ∧ (part f.type (pre ++ vs ++ rest).toArray f.offset).run P w = .ok (iy P f.type vs) w ∧ (part f.type (pre' ++ us ++ rest').toArray f.offset).run P w = .ok (iy P f.type us) w ∧
          (Op.equalIn (d+k) f.type (iy P f.type vs) (iy P f.type us)).run P w=.ok (a.eq x y) w:=by
      intro f off a hf x y pre pre' vs us rest rest' h1 h2 hx hy
      simp only [qQ,Bool.and_eq_true] at hf
      obtain ⟨g1,g2,g3,g4⟩:=hf
      have g2:=Nat.eq_of_beq_eq_true g2
      split at g3
      · rename_i i hi
        have g3:=Nat.eq_of_beq_eq_true g3
        have hu:=qo g4
        refine ⟨by simpa using g1,?_,?_,ih f.type a g4 x y vs us hx hy k⟩
        · rw [g2,←h1];exact nd hT hi (by rw [jh hx,g3]) hu
        · rw [g2,←h2];exact nd hT hi (by rw [jh hy,g3]) hu
      · cases g3
    have fields:∀(fs:List Field) (off:Nat) (a:Ty),pt tab (eqB P tab d) fs off a=true→∀(x y:a.T) (pre pre' vs us:List Value),pre.length=off→pre'.length=off→K ok w a x vs→K ok w a y us→
        (Op.eqFields (d+k) (pre++vs).toArray (pre'++us).toArray fs).run P w=.ok (a.eq x y) w:=by
      intro fs
      induction fs with
      |nil=>intro off a hf;simp [pt] at hf
      |cons f r ihr=>
        intro off a hf x y pre pre' vs us h1 h2 hx hy
        cases r with
        |nil=>
          simp only [pt] at hf
          obtain ⟨g1,g2,g3,g4⟩:=field f off a hf x y pre pre' vs us [] [] h1 h2 hx hy
          rw [List.append_nil] at g2 g3
          have hn' : f.name ≠ "_" := by simpa using g1
          simp only [Op.eqFields,if_pos hn',Sem.run_bind,g2,g3,g4,Result.andThen_ok]
          cases a.eq x y<;>simp
        |cons g r=>
          cases a with
          |pair a b=>
            simp only [pt,Bool.and_eq_true] at hf
            obtain ⟨c,e,rfl,hc,he⟩:=hx
            obtain ⟨c',e',rfl,hc',he'⟩:=hy
            obtain ⟨g1,g2,g3,g4⟩:=field f off a hf.1 x.1 y.1 pre pre' c c' e e' h1 h2 hc hc'
            have hr:=ihr (off+a.n) b hf.2 x.2 y.2 (pre++c) (pre'++c') e e' (by rw [List.length_append,h1,jh hc]) (by rw [List.length_append,h2,jh hc']) he he'
            have hn' : f.name ≠ "_" := by simpa using g1
            rw [←List.append_assoc,←List.append_assoc,Op.eqFields]
            simp only [if_pos hn',Sem.run_bind,g2,g3,g4,Result.andThen_ok]
            show _=Result.ok (a.eq x.1 y.1&&b.eq x.2 y.2) w
            cases a.eq x.1 y.1
            · simp
            · simpa using hr
          |_=>simp [pt] at hf
    have items:∀(e:Nat) (n:Nat) (a:Ty),sF tab (eqB P tab d) e n a=true→∀(x y:a.T) (c:Nat) (pre pre' vs us:List Value),pre.length=c*P.cellsOf e→pre'.length=c*P.cellsOf e→K ok w a x vs→K ok w a y us→
        (Op.eqItems (d+k) e (P.cellsOf e) (pre++vs).toArray (pre'++us).toArray (List.range' c n)).run P w=.ok (a.eq x y) w:=by
      intro e n
      have one:∀{a:Ty},(elB tab e a.n&&eqB P tab d e a)=true→∀(x y:a.T) (c:Nat) (pre pre' vs us rest rest':List Value),pre.length=c*P.cellsOf e→pre'.length=c*P.cellsOf e→K ok w a x vs→K ok w a y us→
          (part e (pre++vs++rest).toArray (c*P.cellsOf e)).run P w=.ok (iy P e vs) w∧(part e (pre'++us++rest').toArray (c*P.cellsOf e)).run P w=.ok (iy P e us) w∧a.n=P.cellsOf e∧
            (Op.equalIn (d+k) e (iy P e vs) (iy P e us)).run P w=.ok (a.eq x y) w:=by
        intro a h x y c pre pre' vs us rest rest' h1 h2 hx hy
        obtain ⟨g1,g2⟩:=Bool.and_eq_true_iff.1 h
        unfold elB at g1
        split at g1
        · rename_i i hi
          have g1:=Nat.eq_of_beq_eq_true g1
          have hu:=qo g2
          refine ⟨?_,?_,by rw [mD (hT e i hi),g1],ih e a g2 x y vs us hx hy k⟩
          · rw [←h1];exact nd hT hi (by rw [jh hx,g1]) hu
          · rw [←h2];exact nd hT hi (by rw [jh hy,g1]) hu
        · cases g1
      induction n with
      |zero=>intro a h;simp [sF] at h
      |succ n ihn=>
        intro a h x y c pre pre' vs us h1 h2 hx hy
        cases n with
        |zero=>
          obtain ⟨g2,g3,_,g4⟩:=one (a:=a) h x y c pre pre' vs us [] [] h1 h2 hx hy
          rw [List.append_nil] at g2 g3
          show (Op.eqItems (d+k) e (P.cellsOf e) (pre++vs).toArray (pre'++us).toArray [c]).run P w=_
          rw [Op.eqItems]
          simp only [Sem.run_bind,g2,g3,g4,Result.andThen_ok]
          cases a.eq x y<;>rfl
        |succ n=>
          cases a with
          |pair a b=>
            obtain ⟨q1,q2⟩:=Bool.and_eq_true_iff.1 h
            obtain ⟨c',e',rfl,hc,he⟩:=hx
            obtain ⟨c'',e'',rfl,hc',he'⟩:=hy
            obtain ⟨g2,g3,g5,g4⟩:=one q1 x.1 y.1 c pre pre' c' c'' e' e'' h1 h2 hc hc'
            have hr:=ihn b q2 x.2 y.2 (c+1) (pre++c') (pre'++c'') e' e'' (by rw [List.length_append,h1,jh hc,g5,Nat.add_mul,Nat.one_mul]) (by rw [List.length_append,h2,jh hc',g5,Nat.add_mul,Nat.one_mul]) he he'
            rw [←List.append_assoc,←List.append_assoc,List.range'_succ,Op.eqItems]
            simp only [Sem.run_bind,g2,g3,g4,Result.andThen_ok]
            show _=Result.ok (a.eq x.1 y.1&&b.eq x.2 y.2) w
            cases a.eq x.1 y.1
            · simp
            · simpa using hr
          |_=>simp [sF] at h
    simp only [eqB] at h
    split at h
    · rename_i hu
      obtain rfl:=Ty.b_eq h
      cases hx;cases hy
      simp only [iy,hu,List.getD_cons_zero]
      exact m5 (d+k) hu x y
    · rename_i kk hu
      split at h
      · rename_i k2
        cases hx;cases hy
        simp only [iy,hu,List.getD_cons_zero]
        simp only [Op.equalIn,Sem.run_bind,run_underlying hu,Result.andThen_ok,Sem.run_pure,if_true]
        rfl
      · cases h
    · rename_i hu
      obtain rfl:=Ty.b_eq h
      cases hx;cases hy
      simp only [iy,hu,List.getD_cons_zero]
      simp only [Op.equalIn,Sem.run_bind,run_underlying hu,Result.andThen_ok,Sem.run_pure]
      rfl
    · rename_i fs hu
      simp only [Bool.and_eq_true,Bool.not_eq_true'] at h
      have hv:∀l,iy P t l=.agg l.toArray:=fun l=>by unfold iy;rw [hu]
      have hf:P.fieldsOf t=fs:=by simp [Program.fieldsOf,hu]
      rw [hv,hv,run_equalIn_struct (P:=P) w (d+k) t _ _ (by rw [hf];exact hu) h.1,hf]
      have:=fields fs.toList 0 ty h.2 x y [] [] vs us rfl rfl hx hy
      simpa using this
    · rename_i n e hu
      have hv:∀l,iy P t l=.agg l.toArray:=fun l=>by unfold iy;rw [hu]
      have hi:∃i,P.info? e=some i:=by
        have:∃i,tab e=some i:=by
          have el:∀m,elB tab e m=true→∃i,tab e=some i:=fun m hm=>by
            unfold elB at hm
            split at hm
            · exact ⟨_,by assumption⟩
            · cases hm
          match n,ty,h with
          |1,ty,h=>exact el _ (Bool.and_eq_true_iff.1 h).1
          |n+2,.pair a b,h=>exact el _ (Bool.and_eq_true_iff.1 (Bool.and_eq_true_iff.1 h).1).1
        obtain ⟨i,hi⟩:=this
        obtain ⟨info,_,h1,_⟩:=(hT e i hi).info
        exact ⟨info,h1⟩
      obtain ⟨i,hi⟩:=hi
      rw [hv,hv,run_equalIn_array (P:=P) w (d+k) _ _ hu hi,List.range_eq_range']
      have:=items e n ty h x y 0 [] [] vs us (by simp) (by simp) hx hy
      simpa using this
    · cases h
def wT:List (Nat×Ty)→Nat→Option Ty
 | [],_=>none
 |(u,ty)::r,t=>if Nat.beq u t=true then some ty else wT r t
def eqsB (P:Program) (tab:Nat→Option TI):List (Nat×Ty)→Bool
 | []=>true
 |(t,ty)::r=>(eqB P tab 50 t ty&&((match P.underlying t with|some (.struct _)=>true|some (.array _ _)=>true|_=>false)&& !P.eqGuardType P.depth t))&&eqsB P tab r
theorem sG:∀{l:List (Nat×Ty)} {t:Nat} {ty:Ty},wT l t=some ty→(t,ty)∈l
  |(u,v)::r,t,ty,h=>by
    unfold wT at h
    split at h
    · rename_i e;cases h;rw [Nat.eq_of_beq_eq_true e];exact List.mem_cons_self
    · exact List.mem_cons_of_mem _ (sG h)
theorem sH:∀{l:List (Nat×Ty)},eqsB P tab l=true→∀p∈l,eqB P tab 50 p.1 p.2=true∧(∀l,iy P p.1 l=.agg l.toArray)∧P.eqGuardType P.depth p.1=false
  |(t,ty)::r,h,p,hp=>by
    obtain ⟨h1,h2⟩:=Bool.and_eq_true_iff.1 h
    rcases List.mem_cons.1 hp with rfl|hp
    · simp only [Bool.and_eq_true,Bool.not_eq_true'] at h1
      obtain ⟨a,b,c⟩:=h1
      refine ⟨a,fun l=>?_,c⟩
      unfold iy
      split at b
      · rename_i fs e;rw [e]
      · rename_i fs f e;rw [e]
      · cases b
    · exact sH h2 p hp
theorem Al (hT:gC P tab) {l:List (Nat×Ty)} (h:eqsB P tab l=true):qF P (wT l):=by
 intro t ty ht op X Y ok w x y vs us hx hy hop
 obtain ⟨h1,hv,h3⟩:=sH h _ (sG ht)
 have he:=Cc hT 50 t ty h1 x y vs us hx hy 9950
 rw [hv,hv] at he
 have he:(Op.equal t (.agg vs.toArray) (.agg us.toArray)).run P w=.ok (ty.eq x y) w:=he
 have hg:(eqGuard op t X Y (.agg vs.toArray) (.agg us.toArray)).run P w=.ok () w:=by
  cases op<;>simp [eqGuard,run_program,h3]
 refine ⟨?_,he⟩
 simp only [Sem.run_bind,hg,Result.andThen_ok]
 rcases hop with rfl|rfl
 ·simp only [Go.binOp,Sem.run_bind,he,Result.andThen_ok,Sem.run_pure]
 ·simp only [Go.binOp,Sem.run_bind,he,Result.andThen_ok,Sem.run_pure]
end
inductive AK where
 |fn (f:Nat)|own
def akOk (hp:cT) (s:Option fE):AK→Bool
 | .fn f=>match s with|some (.v false [.val (.func (.func g) ⟨[]⟩ ⟨[]⟩)])=>Nat.beq f g|_=>false
 | .own=>match s with|some (.v false [.ref l])=>(match hp l with|some (.arr _ _ _)=>true|_=>false)|_=>false
def yp (hp:cT) (as:List (Option fE)):List (Nat×AK)→Bool
 | []=>true
 |(i,k)::r=>akOk hp (as.getD i none) k&&yp hp as r
def cloK (as:List (Option fE)) (hp:cT) (i f:Nat):Bool:=match as.getD i none with
 |some (.v false [.ref l])=>(match hp l with|some (.clo g _ _)=>Nat.beq g f|_=>false)
 |_=>false
def ke:List (Nat×List (Nat×AK)×mT)→Nat→List (Option fE)→cT→Option mT
 | [],_,_,_=>none
 |(g,k,s)::r,n,as,hp=>if Nat.beq g n=true then (if yp hp as k=true then some s else ke r n as hp) else ke r n as hp
def jB:List (Nat×List (Nat×AK)×kF)→Nat→List (Option fE)→cT→Option kF
 | [],_,_,_=>none
 |(g,k,s)::r,n,as,hp=>if Nat.beq g n=true then (if yp hp as k=true then some s else jB r n as hp) else jB r n as hp
section
variable {P:Program} {tab:Nat→Option TI} {eqs:Nat→Option Ty} {pan:Nat}
theorem gT.nilP (hT:gC P tab) (hE:qF P eqs):gT P ⟨tab,eqs,ke [],pan,jB []⟩:=⟨hT,hE,(fun g as hp sp h=>by cases h),(fun g as hp sp h=>by cases h)⟩
theorem sI {Q:Nat→mT→Prop} {l:List (Nat×List (Nat×AK)×mT)} (h:∀n as hp s,ke l n as hp=some s→Q n s) {g:Nat} {k:List (Nat×AK)} {sp:mT} (hg:Q g sp):∀n as hp s,ke ((g,k,sp)::l) n as hp=some s→Q n s:=by
 intro n as hp s hh
 unfold ke at hh
 split at hh
 ·rename_i e
  split at hh
  ·cases hh
   rw [←Nat.eq_of_beq_eq_true e]
   exact hg
  ·exact h n as hp s hh
 ·exact h n as hp s hh
theorem qR {Q:Nat→kF→Prop} {l:List (Nat×List (Nat×AK)×kF)} (h:∀n as hp s,jB l n as hp=some s→Q n s) {g:Nat} {k:List (Nat×AK)} {sp:kF} (hg:Q g sp):∀n as hp s,jB ((g,k,sp)::l) n as hp=some s→Q n s:=by
 intro n as hp s hh
 unfold jB at hh
 split at hh
 ·rename_i e
  split at hh
  ·cases hh
   rw [←Nat.eq_of_beq_eq_true e]
   exact hg
  ·exact h n as hp s hh
 ·exact h n as hp s hh
theorem gT.consS {l:List (Nat×List (Nat×AK)×mT)} {lp:List (Nat×List (Nat×AK)×kF)} (h:gT P ⟨tab,eqs,ke l,pan,jB lp⟩) {g:Nat} (k:List (Nat×AK)) {sp:mT} (hg:lf P g) (hs:fk P g sp):gT P ⟨tab,eqs,ke ((g,k,sp)::l),pan,jB lp⟩:=
 ⟨h.tab,h.eqs,sI h.spec ⟨hg,hs⟩,h.specP⟩
theorem gT.consP {l:List (Nat×List (Nat×AK)×mT)} {lp:List (Nat×List (Nat×AK)×kF)} (h:gT P ⟨tab,eqs,ke l,pan,jB lp⟩) {g:Nat} (k:List (Nat×AK)) {sp:kF} (hg:lf P g) (hs:m7 P g pan sp):gT P ⟨tab,eqs,ke l,pan,jB ((g,k,sp)::lp)⟩:=
 ⟨h.tab,h.eqs,h.spec,qR h.specP ⟨hg,hs⟩⟩
theorem Am {g : FuncId} {fn : Func} (h1 : P.funcs[g]? = some fn) (h2 : fn.body.isSome = true) (h3 : (fn.name == "runtime.NumGoroutine") = false) (h4 : jo fn.ntmps (writes (fn.body.getD .skip)) = true) :
 oo P g (fn.body.getD .skip) fn.results.toList fn.ntmps:=by
 refine ⟨⟨fn,h1,?_,rfl,rfl,by simpa using h3⟩,h4⟩
 cases hb:fn.body with
 |none=>rw [hb] at h2;cases h2
 |some c=>rfl
inductive Key:Bool→Type where
 |mk:Key true
class Lk where
 k:Key true
def stkK {α:Type} (x:α):{b:Bool}→Key b→α
 |_,.mk=>x
def stk [Lk] {α:Type} (x:α):α:=stkK x Lk.k
theorem aq [Lk] {α:Type} (x:α):stk x=x:=by
 unfold stk
 generalize Lk.k=k
 cases k
 rfl
theorem BH {cx:Cx} (hcx:gT P cx) {inl:Inl} (hinl:jy P cx.pan inl) (hm:P.follows .mixedOrders=true) {g:FuncId} {code:Code} {res:List ResultVar} {nt:Nat} (hfn:oo P g code res nt) (h:H) {n:Nat} {si so:Sh} (hso:iv so=true)
 {F:TS si→Option (TS so)} (hev:∀x,evF cx inl code res h si so x=F x):fk P g ⟨n,si,so,F⟩:=
 Cb hcx hinl (lh hcx hm) hfn h hso fun x y hx=>by rw [hev];exact hx
theorem Cd [Lk] {cx:Cx} (hcx:gT P cx) {inl:Inl} (hinl:jy P cx.pan inl) (hm:P.follows .mixedOrders=true) {g:FuncId} {code:Code} {res:List ResultVar} {nt:Nat} (hfn:oo P g code res nt) (h:H) {n:Nat} {si so:Sh} (hso:iv so=true)
 {F:TS si→Option (TS so)} (hev:∀x,evF cx inl code res h si so x=F x):fk P g ⟨n,si,so,stk F⟩:=by
 rw [aq]
 exact BH hcx hinl hm hfn h hso hev
theorem An [Lk] {cx:Cx} (hcx:gT P cx) {inl:Inl} (hinl:jy P cx.pan inl) (hm:P.follows .mixedOrders=true) {g:FuncId} {code:Code} {res:List ResultVar} {nt:Nat} (hfn:oo P g code res nt) (h:H) {n:Nat} {si so:Sh} (hso:iv so=true)
 {F:TS si→Option (TS so⊕Int)} (hev:∀x,tS cx inl code res h si so x=F x):m7 P g cx.pan ⟨n,si,so,stk F⟩:=by
 rw [aq]
 exact Ak hcx hinl (lh hcx hm) hfn h hso fun x y hx=>by rw [hev];exact hx
end
end Lv
end
section
namespace Lv
variable [gG]
open Go Go.RowKit Go.ChangeShapes Go.WideShapes Go.Deep
section
variable (P:Program)
def rdF (rec:TypeId→Ty→Bool) (f:Field) (off:Nat) (ty:Ty):Bool:=Nat.beq f.offset off&&(Nat.beq (P.cellsOf f.type) ty.n&&rec f.type ty)
def sJ (rec:TypeId→Ty→Bool):List Field→Nat→Ty→Bool
 | [f],off,ty=>rdF P rec f off ty
 |f::g::r,off,.pair a b=>rdF P rec f off a&&sJ rec (g::r) (off+a.n) b
 | [],_,.unit=>true
 |_,_,_=>false
def vfs (n:Nat) (e:TypeId):List Field:=(List.range n).map fun i=>{(default:Field) with type:=e,offset:=i*P.cellsOf e}
def rdB : Nat → TypeId → Ty → Bool
  |0,_,_=>false
  |d+1,t,ty=>match P.underlying t with
    |some .bool=>ty.b .bool
    |some (.int k)=>ty.b (.int k)
    |some .string=>ty.b .str
    |some (.slice e)=>(match ty with| .sl f u=>Nat.beq e f&&(Nat.beq (P.cellsOf e) u.n&&(Nat.ble 1 u.n&&rdB d e u))|_=>false)
    |some (.struct fs)=>Nat.beq (P.cellsOf t) ty.n&&sJ (P:=P) (rdB d) fs.toList 0 ty
    |some (.array n e)=>Nat.beq (P.cellsOf t) ty.n&&sJ (P:=P) (rdB d) (vfs (P:=P) n e) 0 ty
    |_=>false
def In:(t:Ty)→t.T→Prop
 | .int k,x=>(Lit.int k x).wf=true
 | .bool,_=>True
 | .str,x=>x.size≤reachBytes
 | .val,_=>True
 | .unit,_=>True
 | .pair a b,x=>In a x.1∧In b x.2
 | .sl e t,xs=>xs.length*P.bytesOf e≤reachBytes∧∀x∈xs,In t x
end
section
variable {P:Program} {H:Type} {enc:TypeId×Value→H} {w:World}
instance Ce {t:Ty}:Inhabited t.T:=⟨t.z⟩
theorem lT {e:TypeId}:∀{l:List (DataW H)},(DataW.weightsAll P e l).all (· ≤reachBytes)=true→∀d∈l,(d.weights P e).all (· ≤reachBytes)=true
 |a::r,h,d,hd=>by
  rw [DataW.weightsAll,List.all_append,Bool.and_eq_true] at h
  rcases List.mem_cons.1 hd with rfl|hd
  ·exact h.1
  ·exact lT h.2 d hd
theorem vy {rec : TypeId → Ty → Bool} (hrec : ∀ t ty,rec t ty = true → ∀ fuel cs x,DataW.trod enc P w 0 (fun _ => true) true fuel t cs = some x → (x.1.weights P t).all (· ≤ reachBytes) = true → ∃ a : ty.T,K (· < w.heap.size) w ty a cs ∧ In P ty a) :
    ∀ (fs : List Field) (off : Nat) (ty : Ty),sJ P rec fs off ty = true → ∀ (n : Nat) (cs : List Value) (xs : List (DataW H × List MemPlace)),cs.length = off + ty.n → xs.length = fs.length →
      (∀(i:Nat) (f:Field),fs[i]?=some f→DataW.trod enc P w 0 (fun _=>true) true n f.type ((cs.drop f.offset).take (P.cellsOf f.type))=xs[i]?)→(DataW.weightsEach P (fs.map (·.type)) (xs.map (·.1))).all (· ≤reachBytes)=true→
      ∃a:ty.T,K (· <w.heap.size) w ty a (cs.drop off)∧In P ty a:=by
  have one:∀(f:Field) (off:Nat) (ty:Ty),rdF P rec f off ty=true→∀(n:Nat) (cs:List Value) (x:DataW H×List MemPlace),
      DataW.trod enc P w 0 (fun _=>true) true n f.type ((cs.drop f.offset).take (P.cellsOf f.type))=some x→(x.1.weights P f.type).all (· ≤reachBytes)=true→∃a:ty.T,K (· <w.heap.size) w ty a ((cs.drop off).take ty.n)∧In P ty a:=by
    intro f off ty h n cs x hx hw
    simp only [rdF,Bool.and_eq_true] at h
    have h1:=Nat.eq_of_beq_eq_true h.1
    have h2:=Nat.eq_of_beq_eq_true h.2.1
    rw [h1,h2] at hx
    exact hrec _ _ h.2.2 _ _ _ hx hw
  intro fs
  induction fs with
  |nil=>
    intro off ty h n cs xs hl hxl hx hw
    cases ty<;>simp only [sJ] at h<;>try (cases h;done)
    refine ⟨(),?_,trivial⟩
    show cs.drop off=[]
    exact List.drop_of_length_le (by rw [hl];exact Nat.le_refl _)
  |cons f r ih=>
    intro off ty h n cs xs hl hxl hx hw
    match xs,hxl with
    | x :: xr,hxl =>
      have hx0:=hx 0 f rfl
      simp only [List.map_cons,DataW.weightsEach,List.all_append,Bool.and_eq_true] at hw
      cases r with
      |nil=>
        simp only [sJ] at h
        obtain ⟨a,k1,k2⟩:=one f off ty h n cs x hx0 hw.1
        refine ⟨a,?_,k2⟩
        rw [List.take_of_length_le (by rw [List.length_drop];omega)] at k1
        exact k1
      |cons g r=>
        cases ty with
        |pair a b=>
          simp only [sJ,Bool.and_eq_true] at h
          obtain ⟨u,k1,k2⟩:=one f off a h.1 n cs x hx0 hw.1
          obtain ⟨v,g1,g2⟩:=ih (off+a.n) b h.2 n cs xr (by rw [hl];simp only [Ty.n];omega) (by simpa using hxl) (fun i f' hf=>by simpa using hx (i+1) f' (by simpa using hf)) hw.2
          refine ⟨(u,v),⟨_,_,?_,k1,g1⟩,k2,g2⟩
          rw [←List.drop_drop,List.take_append_drop]
        |_=>simp [sJ] at h
theorem yq {a:Addr} (h:a.spot=none) (n:Nat):a.add n=⟨a.block,a.off+n,none⟩:=by
 unfold Addr.add
 split
 ·subst n;obtain ⟨b,o,s⟩:=a;simp at h;subst h;rfl
 ·rfl
theorem kM (e:TypeId):∀l:List (DataW H),DataW.weightsAll P e l=DataW.weightsEach P (List.replicate l.length e) l
 | []=>rfl
 |a::r=>by
  rw [List.length_cons,List.replicate_succ,DataW.weightsAll,DataW.weightsEach,kM e r]
theorem rd_ok : ∀ (d : Nat) (t : TypeId) (ty : Ty),rdB P d t ty = true → ∀ fuel cs (x : DataW H × List MemPlace),DataW.trod enc P w 0 (fun _ => true) true fuel t cs = some x → (x.1.weights P t).all (· ≤ reachBytes) = true → ∃ a : ty.T,K (· < w.heap.size) w ty a cs ∧ In P ty a := by
  intro d
  induction d with
  |zero=>intro t ty h;cases h
  | succ d ih =>
    intro t ty h fuel cs x hx hw
    simp only [rdB] at h
    split at h
    · rename_i hu
      obtain rfl:=Ty.b_eq h
      obtain ⟨b,rfl,rfl⟩:=DataW.trod_bool hu hx
      exact ⟨b,rfl,trivial⟩
    · rename_i k hu
      obtain rfl:=Ty.b_eq h
      obtain ⟨n,rfl,rfl,hn⟩:=DataW.trod_int hu hx
      exact ⟨n,rfl,hn⟩
    · rename_i hu
      obtain rfl:=Ty.b_eq h
      obtain ⟨s,rfl,rfl,hs⟩:=DataW.trod_string hu hx
      refine ⟨s,rfl,?_⟩
      have:s.data.size≤reachBytes:=by simpa [DataW.weights] using hw
      exact this
    · rename_i e hu
      cases ty<;>simp only at h<;>try (cases h;done)
      rename_i f u
      simp only [Bool.and_eq_true] at h
      obtain rfl:=Nat.eq_of_beq_eq_true h.1
      have hn:=Nat.eq_of_beq_eq_true h.2.1
      have h1:=Nat.le_of_ble_eq_true h.2.2.1
      have hr:=h.2.2.2
      rcases open_slice hu hx with ⟨rfl,rfl⟩|⟨a,len,cap,m,n,D,Pl,rfl,_,hl,hc,hm,rfl,hel⟩
      · exact ⟨([]:List u.T),⟨none,0,rfl,Nat.le_refl _,.inl rfl⟩,by simp,fun x hx=>by cases hx⟩
      · simp only [if_true] at hm
        subst hm
        simp only [DataW.weights,hu] at hw
        rw [List.all_cons,List.all_append,Bool.and_eq_true,Bool.and_eq_true] at hw
        obtain ⟨hw1,hw2,_⟩:=hw
        have hw1:=of_decide_eq_true hw1
        simp only [List.length_map,List.length_range] at hw1
        have hA:∀i,i<len→∃y:u.T,(∃cs',w.cells? 0 (a.add (i*P.cellsOf e)) (P.cellsOf e)=some cs'∧K (· <w.heap.size) w u y cs')∧In P u y:=by
          intro i hi
          obtain ⟨cs',k1,k2⟩:=hel i (by omega)
          obtain ⟨y,g1,g2⟩:=ih e u hr n cs' _ k2 (lT hw2 (D i) (List.mem_map.2 ⟨i,List.mem_range.2 hi,rfl⟩))
          exact ⟨y,⟨cs',k1,g1⟩,g2⟩
        obtain ⟨A,hA⟩:=choose_lt hA
        refine ⟨(List.range len).map A,⟨some a,m,by simp,by simpa using hl,?_⟩,?_,?_⟩
        · by_cases h0:len=0
          · left;subst h0;rfl
          · right
            have hcell:∀i,i<len→∀cs',w.cells? 0 (a.add (i*P.cellsOf e)) (P.cellsOf e)=some cs'→∀j v,cs'[j]?=some v→w.cell? ((a.add (i*P.cellsOf e)).add j)=some v:=by
              intro i hi cs' hcs j v hj
              obtain ⟨_,hlen,hget⟩:=World.cells?_some hcs
              rw [hget j (by rw [←hlen];exact (List.getElem?_eq_some_iff.1 hj).1)]
              exact hj
            have hsp:a.spot=none∧a.block<w.heap.size:=by
              obtain ⟨cs',k1,k2⟩:=(hA 0 (by omega)).1
              obtain ⟨_,hlen,_⟩:=World.cells?_some k1
              rw [hn] at hlen
              have hj:cs'[0]?=some (cs'[0]'(by omega)):=List.getElem?_eq_getElem _
              have hc:=hcell 0 (by omega) cs' k1 0 _ hj
              simp only [Nat.zero_mul,Addr.add,if_true,World.cell?] at hc
              split at hc
              · rename_i c _ _ hb
                split at hc
                · cases hc
                · rename_i hs
                  exact ⟨by simpa using hs,(Array.getElem?_eq_some_iff.1 hb).1⟩
              · cases hc
            refine ⟨a.block,a.off,by rw [←hsp.1],hsp.2,fun i y hi=>?_⟩
            have hlt:i<len:=by
              have:=(List.getElem?_eq_some_iff.1 hi).1
              simpa using this
            obtain ⟨cs',k1,k2⟩:=(hA i hlt).1
            have:y=A i:=by
              rw [List.getElem?_map,List.getElem?_range hlt] at hi
              exact (Option.some.inj hi).symm
            subst this
            refine ⟨cs',k2,fun j v hj=>?_⟩
            have:=hcell i hlt cs' k1 j v hj
            rw [Deep.add_add,hn] at this
            rw [←this]
            rw [yq hsp.1,Nat.add_assoc]
        · simp only [List.length_map,List.length_range]
          exact Nat.le_trans (Nat.mul_le_mul_right _ (Nat.le_add_right _ _)) hw1
        · intro y hy
          obtain ⟨i,hi,rfl⟩:=List.mem_map.1 hy
          exact (hA i (List.mem_range.1 hi)).2
    · rename_i fs hu
      simp only [Bool.and_eq_true] at h
      have hn:=Nat.eq_of_beq_eq_true h.1
      obtain ⟨xs,n,_,rfl,hl,hxl,hf⟩:=DataW.trod_struct hu hx
      simp only [DataW.weights,hu] at hw
      have:=vy (enc:=enc) (w:=w) (rec:=rdB P d) ih fs.toList 0 ty h.2 n cs xs (by rw [hl,hn];omega) (by simpa using hxl) (fun i f hi=>hf i f (by simpa using hi)) hw
      simpa using this
    · rename_i n e hu
      simp only [Bool.and_eq_true] at h
      have hn:=Nat.eq_of_beq_eq_true h.1
      obtain ⟨xs,m,_,rfl,hl,hxl,hf⟩:=DataW.trod_array hu hx
      simp only [DataW.weights,hu,kM,List.length_map,hxl] at hw
      have hty:(vfs P n e).map (·.type)=List.replicate n e:=by
        apply List.ext_getElem<;>simp [vfs]
      have:=vy (enc:=enc) (w:=w) (rec:=rdB P d) ih (vfs P n e) 0 ty h.2 m cs xs (by rw [hl,hn];omega) (by simp [vfs,hxl]) (fun i f hi=>by
        simp only [vfs,List.getElem?_map] at hi
        rcases Nat.lt_or_ge i n with hlt|hge
        · rw [List.getElem?_range hlt] at hi
          cases hi
          exact hf i hlt
        · rw [List.getElem?_eq_none (by simpa using hge)] at hi
          cases hi) (by rw [hty];exact hw)
      simpa using this
    · cases h
def oq:Ty→List CSh→List CSh
 | .int k,r=> .int k::r
 | .bool,r=> .bool::r
 | .str,r=> .str::r
 | .val,r=> .val::r
 | .unit,r=>r
 | .pair a b,r=>oq a (oq b r)
 | .sl e t,r=> .sl e t::r
def exT {τ:Type}:(t:Ty)→t.T→(r:List CSh)→TL r τ→TL (oq t r) τ
 | .int _,x,_,y=>(x,y)
 | .bool,x,_,y=>(x,y)
 | .str,x,_,y=>(x,y)
 | .val,x,_,y=>(x,y)
 | .unit,_,_,y=>y
 | .pair a b,x,r,y=>exT a x.1 (oq b r) (exT b x.2 r y)
 | .sl _ _,x,_,y=>(x,y)
theorem qS {τ:Type} (f:Nat→Nat):∀(t:Ty) (x:t.T) (r:List CSh) (y:TL r τ),ofC f (oq t r) (exT t x r y)=(t.ex x++(ofC f r y).1,(ofC f r y).2)
 | .int _,_,_,_=>rfl
 | .bool,_,_,_=>rfl
 | .str,_,_,_=>rfl
 | .val,_,_,_=>rfl
 | .unit,_,_,_=>rfl
 | .pair a b,x,r,y=>by
  show ofC f (oq a (oq b r)) (exT a x.1 (oq b r) (exT b x.2 r y))=_
  rw [qS f a,qS f b]
  simp [Ty.ex]
 | .sl _ _,_,_,_=>rfl
@[reducible] def my : Nat → List (Ty × Bool) → List (Nat × SSh)
 |_,[]=> []
 |i,(t,a)::r=>(i,.v a (oq t []))::my (i+1) r
@[reducible] def pL : List (Ty × Bool) → Type
 | []=>Unit
 |(t,_)::r=>t.T×pL r
def pu:(i:Nat)→(l:List (Ty×Bool))→pL l→TSl (my i l) Unit
 |_,[],_=>()
 |i,(t,_)::r,x=>exT t x.1 [] (pu (i+1) r x.2)
def vA (P:Program):(l:List (Ty×Bool))→pL l→Prop
 | [],_=>True
 |(t,_)::r,x=>In P t x.1∧vA P r x.2
def argV:Bool→Nat→Value→Prop
 |true,_,v=>∃cs,v=.agg cs
 |false,n,v=>n=1∧v.cells.toList=[v]
def yr (ok:Nat→Prop) (w:World):(l:List (Ty×Bool))→pL l→List Value→Prop
 | [],_,vs=>vs=[]
 |(t,a)::r,x,vs=>∃v us,vs=v::us∧K ok w t x.1 v.cells.toList∧argV a t.n v∧yr ok w r x.2 us
theorem sK {ok : Nat → Prop} (f : Nat → Nat) (env : Env) : ∀ (l : List (Ty × Bool)) (i : Nat) (x : pL l) (t : Nat) (s : fE),(jt f env (my i l) (pu i l x)).1 t = some s →
    env t=some s∨(i≤t∧∃(ty:Ty) (a:Bool) (y:ty.T),s=.v a (ty.ex y)∧∀w vs,yr ok w l x vs→∃v,vs[t-i]?=some v∧K ok w ty y v.cells.toList∧argV a ty.n v)
  | [],_,_,_,_,h=> .inl h
  |(ty,a)::r,i,x,t,s,h=>by
    have e:ofC f (oq ty []) (exT ty x.1 [] (pu (i+1) r x.2))=(ty.ex x.1++ [],pu (i+1) r x.2):=qS f ty x.1 [] _
    have h:put (jt f env (my (i+1) r) (ofC f (oq ty []) (exT ty x.1 [] (pu (i+1) r x.2))).2).1 i (some (.v a (ofC f (oq ty []) (exT ty x.1 [] (pu (i+1) r x.2))).1)) t=some s:=h
    rw [e,List.append_nil] at h
    unfold Lv.put at h
    split at h
    · rename_i ht
      have:=Nat.eq_of_beq_eq_true ht
      subst this
      cases h
      refine .inr ⟨Nat.le_refl _,ty,a,x.1,rfl,fun w vs hk=>?_⟩
      obtain ⟨v,us,rfl,k1,k2,_⟩:=hk
      exact ⟨v,by simp,k1,k2⟩
    · rename_i ht
      rcases sK f env r (i+1) x.2 t s h with k|⟨k1,ty',a',y,k2,k3⟩
      · exact .inl k
      · refine .inr ⟨by omega,ty',a',y,k2,fun w vs hk=>?_⟩
        obtain ⟨v,us,rfl,_,_,g⟩:=hk
        obtain ⟨v',g1,g2⟩:=k3 w us g
        refine ⟨v',?_,g2⟩
        rw [show t-i=(t-(i+1))+1 by omega]
        simpa using g1
theorem yt {ok : Nat → Prop} {w : World} {l : List (Ty × Bool)} {x : pL l} {args : Array Value} (h : yr ok w l x args.toList) (ρ : Nat → Value) (nx : Nat) : eH ρ ok w nx (ik ⟨my 0 l,[],[],0,[]⟩ id (pu 0 l x)) args := by
  intro t s hs
  rcases sK id (fun _=>none) l 0 x t s hs with k|⟨_,ty,a,y,rfl,k⟩
  · cases k
  · obtain ⟨v,h1,h2,h3⟩:=k w _ h
    refine ⟨v,by simpa using h1,?_⟩
    have hex:=lF (ρ:=ρ) (nx:=nx) h2
    cases a with
    |true=>
      obtain ⟨cs,rfl⟩:=h3
      exact ⟨cs.toList,by simp,hex⟩
    |false=>
      obtain ⟨h3,h4⟩:=h3
      rw [h4] at hex
      have hl:=tT ty y
      rw [h3] at hl
      match hc:ty.ex y,hl with
      | [c],_=>
        rw [hc] at hex
        obtain ⟨u,e,hu⟩:=hex.one
        cases e
        exact ⟨c,rfl,hu⟩
def sL (P:Program):List TypeId→List (Ty×Bool)→Bool
  | [],[]=>true
  | t :: ts,(ty,a) :: l => (rdB P 50 t ty && ((match P.underlying t with | some (.struct _) => a | some .bool | some (.int _) | some .string | some (.slice _) => !a && Nat.beq ty.n 1 | _ => false) &&
      (P.readableRec t&&Nat.blt t P.types.size)))&&sL P ts l
  |_,_=>false
theorem Ao {t:TypeId} {v:Value} {n base:Nat} {a:Bool} (hv:Value.okWide P w .any base t v) (h:(match P.underlying t with|some (.struct _)=>a|some .bool|some (.int _)|some .string|some (.slice _)=> !a&&Nat.beq n 1|_=>false)=true):argV a n v:=by
 unfold Value.okWide at hv
 split at h
 ·rename_i fs hu
  subst h
  rw [hu] at hv
  obtain ⟨cs,e,_⟩:=hv
  exact ⟨cs,e⟩
 all_goals (try (cases h;done))
 all_goals
  rename_i hu
  rw [hu] at hv
  simp only [Bool.and_eq_true,Bool.not_eq_true'] at h
  obtain ⟨rfl,hn⟩:=h
  refine ⟨Nat.eq_of_beq_eq_true hn,?_⟩
  simp only [Cell.okWide,hu,Cell.ok] at hv
  cases v<;>simp_all [Value.cells]
theorem ng {base:Nat}:∀{ts:List TypeId} {l:List (Ty×Bool)} {vs:List Value} {ds:List (DataW H)} {ps:List MemPlace},sL P ts l=true→DataW.TrodAll enc P w 0 (fun _=>true) true ts vs ds ps→
    (∀(j:Nat) (t:TypeId) (v:Value),ts[j]?=some t→vs[j]?=some v→Value.okWide P w .any base t v)→(DataW.weightsEach P ts ds).all (· ≤reachBytes)=true→∃x:pL l,yr (· <w.heap.size) w l x vs∧vA P l x
  | [],l,vs,ds,ps,hb,h,hv,hw=>by
    obtain ⟨rfl,rfl,rfl⟩:=trodAll_nil h
    match l,hb with
    | [],_=>exact ⟨(),rfl,trivial⟩
  | t :: ts,l,vs,ds,ps,hb,h,hv,hw => by
    obtain ⟨v,vs,d,ds,p,q,rfl,rfl,rfl,⟨fuel,h1⟩,h2⟩:=trodAll_cons h
    match l,hb with
    |(ty,a)::l,hb=>
      simp only [sL,Bool.and_eq_true] at hb
      rw [DataW.weightsEach,List.all_append,Bool.and_eq_true] at hw
      obtain ⟨x,k1,k2⟩:=rd_ok 50 t ty hb.1.1 fuel _ _ h1 hw.1
      obtain ⟨y,g1,g2⟩:=ng hb.2 h2 (fun j t' v' e1 e2=>hv (j+1) t' v' (by simpa using e1) (by simpa using e2)) hw.2
      exact ⟨(x,y),⟨v,vs,rfl,k1,Ao (hv 0 t v rfl rfl) hb.1.2.1,g1⟩,k2,g2⟩
theorem mz (hl:laidOutB P=true) {w':World} (hb:Below w.heap.size w w'):∀{ts:List TypeId} {l:List (Ty×Bool)} {vs:List Value} {ds:List (DataW H)} {ps:List MemPlace},sL P ts l=true→DataW.TrodAll enc P w 0 (fun _=>true) true ts vs ds ps→
    DataW.TrodAll enc P w' 0 (fun b=>decide (b<w.heap.size)) true ts vs ds ps
  | [],l,vs,ds,ps,hp,h=>by
    obtain ⟨rfl,rfl,rfl⟩:=trodAll_nil h
    rfl
  | t :: ts,l,vs,ds,ps,hp,h => by
    obtain ⟨v,vs,d,ds,p,q,rfl,rfl,rfl,h1,h2⟩:=trodAll_cons h
    match l,hp with
    |(ty,a)::l,hp=>
      simp only [sL,Bool.and_eq_true] at hp
      refine ⟨p,q,Below.trod hl hp.1.2.2.1 (Nat.le_of_ble_eq_true hp.1.2.2.2) h1 hb ?_,mz hl hb hp.2 h2,rfl⟩
      obtain ⟨m,hm⟩:=h1
      exact DataW.trod_lt m _ _ _ hm
def qT:Sh:=⟨[(0,.v false [.bool])],[],[],1000,[]⟩
theorem wU {g:FuncId} {l:List (Ty×Bool)} {F:TS ⟨my 0 l,[],[],0,[]⟩→Option (TS qT)} (hs:fk P g ⟨l.length,⟨my 0 l,[],[],0,[]⟩,qT,F⟩) {x:pL l} (hF:F (pu 0 l x)=some (true,())) {args:Array Value} (hn:args.size=l.length)
 (h:yr (· <w.heap.size) w l x args.toList) (hg:Glb (· <w.heap.size) w):Calls P g args w fun e w'=>e=.returned (.bool true)∧Below w.heap.size w w':=by
 have hp:eO ⟨my 0 l,[],[],0,[]⟩ id (pu 0 l x)=fun _=>none:=rfl
 refine (hs _ _ hF (fun _=> .bool true) (· <w.heap.size) w args hn ?_ ?_).mono ?_
 ·rw [hp]
  exact ⟨fun l o h=>(by cases h),fun b h=>h,fun l o b h=>(by cases h),fun l m o p b h=>(by cases h),hg⟩
 ·exact yt h _ _
 ·rintro e w' ⟨v,ρ',ok',rfl,_,hE,hX⟩
  obtain ⟨v',e1,c,e2,e3⟩:=hE 0 (.v false [.bool true]) rfl
  cases e2
  have e3:v'=.bool true:=e3
  subst e3
  have:v=.bool true:=by simpa using e1
  subst this
  refine ⟨rfl,hX.os,hX.tape,hX.output.1,hX.size,fun k hk=>hX.same k hk fun l o ho=>?_⟩
  rw [hp] at ho
  cases ho
end
end Lv
end
section
namespace Lv
variable [gG]
open Go Go.RowKit
section
variable {P:Program}
end
end Lv
namespace Lv
variable [gG]
open Go Go.RowKit
section
variable {w:World} {e size:Nat} {v:Value} {n:Nat} {xs:List Value}
end
end Lv
namespace Lv
variable [gG]
open Go Go.RowKit
end Lv
end
section
namespace Lv
variable [gG]
open Go Go.RowKit
def seqs:List (Code×H)→Code→Code
 | [],k=>k
 |(c,_)::r,k=> .seq c (seqs r k)
noncomputable def yu (cx:Cx) (inl:Inl) (R:Type):List (Code×H)→St→(Out→Option R)→Option R
  | [],st,κ=>κ (.normal st)
  |(c,h)::r,st,κ=>evC cx inl R c h st fun o=>match o with
    | .normal st'=>yu cx inl R r st' κ
    | .exit id st'=>κ (.exit id st')
    | .ret st'=>κ (.ret st')
    | .pan n st'=>κ (.pan n st')
def mm:List (Code×H)→List Nat
 | []=> []
 |(c,_)::r=>writes c++mm r
section
variable {P:Program} {cx:Cx} {inl:Inl}
theorem sM (hcx : gT P cx) (hinl : jy P cx.pan inl) (hdr : jz P cx) {R : Type} {K : Code} {κ : Out → Option R} {r : R} {Q : Exit → Act → World → Prop} {W : List Nat} : ∀ (l : List (Code × H)) (st : St),(∀ t ∈ mm l,t ∈ W) → yu cx inl R l st κ = some r → ∀ ρ ok w (a : Act),
    ew ρ ok w st.hp st.nx→eH ρ ok w st.nx st.env a.tmps→(∀t∈W,t<a.tmps.size)→
    (∀st' a' w',κ (.normal st')=some r→jO st ρ ok w a W st' a' w'→K.wp P Q a' w')→
    (∀o e a' w',(∀s,o≠.normal s)→κ o=some r→BG o e→jO st ρ ok w a W o.st a' w'→Q e a' w')→
    iR cx.pan (fun n st=>κ (.pan n st)) r st ρ ok w a W Q→(seqs l K).wp P Q a w
  | [],st,hl,h,ρ,ok,w,a,hH,hE,hW,hK,hQ,hQp=>hK st a w h ⟨ρ,ok,[],rfl,hH,hE,gV.refl fun l o ho=>(hH.ob l o ho).1,Tm.refl _ _⟩
  |(c,hh)::l,st,hl,h,ρ,ok,w,a,hH,hE,hW,hK,hQ,hQp=>by
    have hc:∀t∈writes c,t∈W:=fun t ht=>hl t (List.mem_append_left _ ht)
    refine wp_seq (jA hcx hinl hdr c R hh st _ r h ρ ok w a hH hE (fun t ht=>hW t (hc t ht)) _ ?_ (hQp.mono hc))
    intro o e a' w' h1 h2 h3
    obtain ⟨ρ',ok',D,g1,g2,g3,g4,g5⟩:=h3
    cases o with
    |pan n st'=>cases h2
    |exit id st'=>cases h2;exact hQ (.exit id st') _ _ _ (fun s e=>by cases e) h1 rfl ⟨ρ',ok',D,g1,g2,g3,g4,g5.mono hc⟩
    |ret st'=>cases h2;exact hQ (.ret st') _ _ _ (fun s e=>by cases e) h1 rfl ⟨ρ',ok',D,g1,g2,g3,g4,g5.mono hc⟩
    |normal st'=>
      cases h2
      have g1:st'.dt=D++st.dt:=g1
      refine sM hcx hinl hdr l st' (fun t ht=>hl t (List.mem_append_right _ ht)) h1 ρ' ok' w' a' g2 g3 (fun t ht=>by rw [g5.size];exact hW t ht) ?_ ?_ (hQp.next g1 g4 (g5.mono hc) (fun _ h=>h) (fun _ h=>h))
      · rintro st2 a2 w2 k1 ⟨ρ2,ok2,D2,j1,j2,j3,j4,j5⟩
        exact hK st2 a2 w2 k1 ⟨ρ2,ok2,D2++D,by rw [j1,g1,List.append_assoc],j2,j3,g4.trans j4,(g5.mono hc).trans j5 (fun _ h=>h) (fun _ h=>h)⟩
      · rintro o2 e2 a2 w2 k0 k1 k2 ⟨ρ2,ok2,D2,j1,j2,j3,j4,j5⟩
        exact hQ o2 e2 a2 w2 k0 k1 k2 ⟨ρ2,ok2,D2++D,by rw [j1,g1,List.append_assoc],j2,j3,g4.trans j4,(g5.mono hc).trans j5 (fun _ h=>h) (fun _ h=>h)⟩
structure um (om od:Oper) (f p q t:Nat):Prop where
 mkf:om.op=.makeFunc (.func f) #[] #[.tmp p,.tmp q]
 mkd:om.dst=some t
 mkg:om.guard=none
 df:od.op=.defer {callee:=.value (.tmp t),args:=#[],argTypes:=#[]}
 dfd:od.dst=none
 dfg:od.guard=none
theorem Ap {om od:Oper} {f p q t i:Nat} (h:um om od f p q t) {a:Act} {w:World} {Q:Exit→Act→World→Prop} (ht:t<a.tmps.size)
 (hQ:Q .normal {tmps:=a.tmps.setIfInBounds t (.func (.func f) #[] #[a.eval (.tmp p),a.eval (.tmp q)]),defers:=⟨.fn (.func f) #[a.eval (.tmp p),a.eval (.tmp q)],#[]⟩::a.defers} w):(Code.region i #[om,od] false).wp P Q a w:=by
 refine wp_region_list ?_
 show wpList P #[om,od] Q [om,od] a w
 unfold wpList
 rw [if_pos (by simp [Region.wanted,h.mkg])]
 refine .inl ?_
 unfold Oper.wp
 have h1:(execOp a.eval om).run P w=.ok (.value (.func (.func f) #[] #[a.eval (.tmp p),a.eval (.tmp q)])) w:=by
  simp [execOp,h.mkf,Instr.makeFunc]
 rw [h1,Oper.upon_value]
 unfold wpList
 rw [if_pos (by simp [Region.wanted,h.dfg])]
 refine .inl ?_
 unfold Oper.wp
 have hev:(a.put om.dst (.func (.func f) #[] #[a.eval (.tmp p),a.eval (.tmp q)])).eval (.tmp t)=.func (.func f) #[] #[a.eval (.tmp p),a.eval (.tmp q)]:=by
  simp [h.mkd,Act.put,Act.eval,Array.getD_eq_getD_getElem?,ht]
 have h2:(execOp (a.put om.dst (.func (.func f) #[] #[a.eval (.tmp p),a.eval (.tmp q)])).eval od).run P w=.ok (.defer ⟨.fn (.func f) #[a.eval (.tmp p),a.eval (.tmp q)],#[]⟩) w:=by
  simp only [execOp,h.df,resolve,hev,Deferred.ofValue,Sem.run_bind,Sem.run_pure,Result.andThen_ok,List.map_toArray,List.map_nil]
  simp
 rw [h2,Oper.upon_defer]
 unfold wpList
 simp only [h.mkd,h.dfd,Act.put]
 exact hQ
structure sN (or:Oper) (tr:Nat):Prop where
 op:∃ty,or.op=.call {callee:=.builtin .recover,args:=#[],argTypes:=ty}
 dst:or.dst=some tr
 g:or.guard=none
noncomputable def qp (cx:Cx) (inl:Inl) (G:Code) (hG:H) (p q tr:Nat) (res:List ResultVar) (so:Sh) (st2:St) (v:Value):Option (TS so):=
  evC cx inl (TS so) G hG ⟨Lv.put (gY [st2.env p,st2.env q]) tr (some (.v false [.val v])),st2.hp,st2.nx,st2.dt⟩ fun o => match o with
      | .normal st3=>evF.fin cx res so ⟨st2.env,st3.hp,st3.nx,st3.dt⟩
      | .ret st3=>evF.fin cx res so ⟨st2.env,st3.hp,st3.nx,st3.dt⟩
      | .exit _ _=>none
      | .pan _ _=>none
noncomputable def vB (cx:Cx) (inl:Inl) (pre:List (Code×H)) (E:Code) (hE:H) (G:Code) (hG:H) (p q t tr:Nat) (res:List ResultVar) (si so:Sh) (x:TS si):Option (TS so):=
 yu cx inl (TS so) pre ⟨ik si id x,eO si id x,1000,[]⟩ fun o=>match o with
 | .normal st=>evC cx inl (TS so) E hE ⟨Lv.put st.env t none,st.hp,st.nx,st.dt⟩ fun o=>match o with
  | .normal st2=>qp cx inl G hG p q tr res so st2 .nilIface
  | .ret st2=>qp cx inl G hG p q tr res so st2 .nilIface
  | .pan n st2=>qp cx inl G hG p q tr res so st2 (wm cx.pan n)
  | .exit _ _=>none
 | .ret st=>evF.fin cx res so st
 | .exit _ _=>none
 | .pan _ _=>none
theorem sO {or:Oper} {tr:Nat} (h:sN or tr) (a:Act) (w:World):(execOp a.eval or).run P w=.ok .recover w:=by
 obtain ⟨⟨ty,ho⟩,_,_⟩:=h
 simp only [execOp,ho,resolve,Sem.run_bind,Sem.run_pure,Result.andThen_ok,invoke]
 rfl
theorem sP {or:Oper} {tr ir:Nat} (h:sN or tr) {G:Code} {Q:Exit→Act→List Frame→World→Prop} {a:Act} {cs cs':List Frame} {w:World} {v:Value}
 (hv:recoverD cs=some (v,cs')∨(recoverD cs=none∧v=.nilIface∧cs'=cs)) (hG:G.wpS P Q (a.put (some tr) v) cs' w):(Code.seq (.region ir #[or] false) G).wpS P Q a cs w:=by
 refine wpS_seq (wpS_region ?_)
 show wpOpsS P #[or] _ [0] a cs w
 have hw:Region.wanted or (yielded #[or] a.tmps)=true:=by simp [Region.wanted,h.g]
 have h0:(#[or])[0]?=some or:=rfl
 unfold wpOpsS
 rw [h0]
 simp only [hw,if_true,sO h]
 rcases hv with hv|⟨hv,rfl,rfl⟩
 ·rw [hv]
  simp only [wpOpsS,h.dst]
  exact hG
 ·rw [hv]
  simp only [wpOpsS,h.dst]
  exact hG
theorem Cf (hcx:gT P cx) (hinl:jy P cx.pan inl) (hdr:jz P cx) {f:FuncId} {gf:Func} (hf:P.funcs[f]?=some gf) {ir tr:Nat} {or:Oper} {G:Code} (hb:gf.body=some (.seq (.region ir #[or] false) G)) (hr:sN or tr) (hres:gf.results=#[])
 (hW:jo gf.ntmps (tr::writes G)=true) {hG:H} {p q:Nat} {res:List ResultVar} {so:Sh} {st2:St} {v:Value} {y:TS so} (hev:qp cx inl G hG p q tr res so st2 v=some y)
 {u:FrameMode} (hm:(u=.returning∧v=.nilIface)∨∃n,u=.panicking (qK cx.pan n)∧v=wm cx.pan n)
 {ρ ok w} {vp vq:Value} (hH:ew ρ ok w st2.hp st2.nx) (hE:eH ρ ok w st2.nx (gY [st2.env p,st2.env q]) #[vp,vq]):
 CallsD P f #[vp,vq] u w fun e u2 w'=>∃rv,e=.returned rv∧settle u2=.returning∧∃(st3:St) (ρ':Nat→Value) (ok':Nat→Prop) (D:List Nat),st3.dt=D++st2.dt∧evF.fin cx res so ⟨st2.env,st3.hp,st3.nx,st3.dt⟩=some y∧ew ρ' ok' w' st3.hp st3.nx∧gV ρ ok w st2.hp st2.nx D ρ' ok' w' st3.hp st3.nx:=by
 refine callsD_of_wpS hf hb fun c₀ cs hu=>?_
 have hvo:v.oneCell'=true:=by rcases hm with ⟨_,rfl⟩|⟨n,_,rfl⟩<;>rfl
 obtain ⟨cs',u2,hcs,hset,hrec⟩:∃cs' u2,cs'={c₀ with mode:=u2}::cs∧settle u2=.returning∧(recoverD (c₀::cs)=some (v,cs')∨(recoverD (c₀::cs)=none∧v=.nilIface∧cs'=c₀::cs)):=by
  rcases hm with ⟨rfl,rfl⟩|⟨n,rfl,rfl⟩
  ·refine ⟨c₀::cs,.returning,by rw [←hu],rfl,.inr ⟨?_,rfl,rfl⟩⟩
   simp [recoverD,hu]
  ·refine ⟨_,.panicking [{v:=wm cx.pan n,recovered:=true}],rfl,rfl,.inl ?_⟩
   simp [recoverD,hu,qK]
 refine sP hr hrec (wpS_of_wp ?_)
 have hsz:(#[vp,vq]++Array.replicate (gf.ntmps-2) undef).size=max 2 gf.ntmps:=by simp;omega
 have hlt:∀t,t=tr∨t∈writes G→t<max 2 gf.ntmps:=fun t ht=>by
  have:=jp.1 hW t (by rcases ht with rfl|ht;exact List.mem_cons_self;exact List.mem_cons_of_mem _ ht)
  omega
 unfold qp at hev
 have hE1:eH ρ ok w st2.nx (gY [st2.env p,st2.env q]) (#[vp,vq]++Array.replicate (gf.ntmps-2) undef):=by
  intro t s hs
  obtain ⟨v',h1,h2⟩:=hE t s hs
  refine ⟨v',?_,h2⟩
  rw [Array.getElem?_append_left (Array.getElem?_eq_some_iff.1 h1).1]
  exact h1
 refine jA hcx hinl hdr G (TS so) hG _ _ y hev ρ ok w _ hH ?_ ?_ _ ?_ ?_
 ·have:=eH.put (d:=some tr) (v:=v) (s:=some (.v false [.val v])) hE1 (fun x hx=>by cases hx;exact ⟨_,rfl,rfl,hvo⟩) (fun t ht=>by cases ht;exact hsz.symm▸hlt tr (.inl rfl))
  exact this
 ·intro t ht
  show t<(Array.setIfInBounds _ _ _).size
  rw [Array.size_setIfInBounds]
  exact hsz.symm▸hlt t (.inr ht)
 ·rintro o e a' w' h1 h2 ⟨ρ',ok',D,g1,g2,g3,g4,g5⟩
  have hres':(results gf a'.tmps).run P w'=.ok (.tuple #[]) w':=by
   unfold results
   rw [hres]
   simp
  have hdef:a'.defers=[]:=g5.defers
  cases o with
  |normal st3=>cases h2;exact ⟨hdef,u2,hcs,_,hres',_,rfl,hset,st3,ρ',ok',D,g1,h1,g2,g4⟩
  |ret st3=>cases h2;exact ⟨hdef,u2,hcs,_,hres',_,rfl,hset,st3,ρ',ok',D,g1,h1,g2,g4⟩
  |exit id st3=>cases h1
  |pan n st3=>cases h1
 ·intro n st' a' w' h1
  cases h1
theorem Cg (hcx : gT P cx) (hinl : jy P cx.pan inl) (hdr : jz P cx) {g : FuncId} {fn : Func} (hg : P.funcs[g]? = some fn) {pre : List (Code × H)} {i : Nat} {om od : Oper} {E : Code} (hb : fn.body = some (seqs pre (.seq (.region i #[om,od] false) E)))
    {f p q t : Nat} (hd : um om od f p q t) {gf : Func} (hf : P.funcs[f]? = some gf) (hgn : gf.name ≠ "runtime.NumGoroutine") {ir tr : Nat} {or : Oper} {G : Code} (hgb : gf.body = some (.seq (.region ir #[or] false) G)) (hr : sN or tr) (hres : gf.results = #[])
    (hWg:jo gf.ntmps (tr::writes G)=true) (hWf:jo fn.ntmps (t::(mm pre++writes E))=true) (hpq:iM [p,q] (t::writes E)=true)
    {hE hG:H} {n:Nat} {si so:Sh} (hso:iv so=true) {F:TS si→Option (TS so)} (hF:∀x y,F x=some y→vB cx inl pre E hE G hG p q t tr fn.results.toList si so x=some y):fk P g ⟨n,si,so,F⟩:=by
  intro x y hxy ρ ok w args _ hH hE0
  have hev:=hF x y hxy
  unfold vB at hev
  have hlt:∀u,(u=t∨u∈mm pre∨u∈writes E)→u<fn.ntmps:=fun u hu=>jp.1 hWf u (by
    rcases hu with rfl|hu|hu
    · exact List.mem_cons_self
    · exact List.mem_cons_of_mem _ (List.mem_append_left _ hu)
    · exact List.mem_cons_of_mem _ (List.mem_append_right _ hu))
  have hap:=iU.1 hpq
  have hpt:p≠t:=fun e=>hap p (by simp) (by simp [e])
  have hqt:q≠t:=fun e=>hap q (by simp) (by simp [e])
  have hpE:p∉writes E:=fun h=>hap p (by simp) (List.mem_cons_of_mem _ h)
  have hqE:q∉writes E:=fun h=>hap q (by simp) (List.mem_cons_of_mem _ h)
  -- behind all: the results
  have fin:∀(tm:Array Value) (w':World) (st3:St) (ρ3:Nat→Value) (ok3:Nat→Prop) (D:List Nat),evF.fin cx fn.results.toList so st3=some y→ew ρ3 ok3 w' st3.hp st3.nx→eH ρ3 ok3 w' st3.nx st3.env tm→gV ρ ok w (eO si id x) 1000 D ρ3 ok3 w' st3.hp st3.nx→
      ∃v,(results fn tm).run P w'=.ok v w'∧∃u ρ' ok',Ending.returned v=.returned u∧ew ρ' ok' w' (eO so id y) so.nn∧eH ρ' ok' w' so.nn (ik so id y) #[u]∧lL (eO si id x) ρ ok w (eO so id y) ρ' ok' w':=by
    intro tm w' st3 ρ3 ok3 D h1 h2 h3 h4
    obtain ⟨s,hs⟩:=oB h1
    obtain ⟨v,k1,k2⟩:=ul (P:=P) (fn:=fn) hcx.tab h2 h3 hs
    exact ⟨v,k1,qO hso h1 h2 (fun s' hs'=>by rw [hs] at hs';cases hs';exact k2) h4⟩
  have hsz:∀u,u<fn.ntmps→u<(args++Array.replicate (fn.ntmps-args.size) undef).size:=fun u hu=>by
    simp only [Array.size_append,Array.size_replicate];omega
  refine calls_of_wp_defers hg hb ?_
  refine sM hcx hinl hdr (W:=mm pre) pre _ (fun _ h=>h) hev ρ ok w _ hH ?_ (fun u hu=>hsz u (hlt u (.inr (.inl hu)))) ?_ ?_ ?_
  · intro u s hs
    obtain ⟨v,k1,k2⟩:=hE0 u s hs
    refine ⟨v,?_,k2⟩
    show (args++_)[u]?=some v
    rw [Array.getElem?_append_left (Array.getElem?_eq_some_iff.1 k1).1]
    exact k1
  · rintro st a w1 hκ ⟨ρ1,ok1,D1,g1,g2,g3,g4,g5⟩
    have hta:t<a.tmps.size:=by rw [g5.size];exact hsz t (hlt t (.inl rfl))
    refine wp_seq (Ap hd hta ?_)
    show E.wp P _ _ w1
    generalize hvp:a.eval (.tmp p)=vp
    generalize hvq:a.eval (.tmp q)=vq
    have had:a.defers=[]:=g5.defers
    -- the closure,and the results behind it
    have leaves:∀(st2:St) (a2:Act) (w2:World) (v:Value) (u:FrameMode),((u=.returning∧v=.nilIface)∨∃n,u=.panicking (qK cx.pan n)∧v=wm cx.pan n)→qp cx inl G hG p q tr fn.results.toList so st2 v=some y→
        jO ⟨Lv.put st.env t none,st.hp,st.nx,st.dt⟩ ρ1 ok1 w1 {tmps:=a.tmps.setIfInBounds t (.func (.func f) #[] #[vp,vq]),defers:=⟨.fn (.func f) #[vp,vq],#[]⟩::a.defers} (writes E) st2 a2 w2→
        Leaves P fn a2.tmps (fun e w'=>∃v ρ' ok',e=.returned v∧ew ρ' ok' w' (eO so id y) so.nn∧eH ρ' ok' w' so.nn (ik so id y) #[v]∧lL (eO si id x) ρ ok w (eO so id y) ρ' ok' w') a2.defers u w2:=by
      rintro st2 a2 w2 v u hm hclo ⟨ρ2,ok2,D2,j1,j2,j3,j4,j5⟩
      have hdf:a2.defers=[⟨.fn (.func f) #[vp,vq],#[]⟩]:=by rw [j5.defers];simp [had]
      have tmp:∀z vz,z≠t→z∉writes E→a.eval (.tmp z)=vz→∀s,st2.env z=some s→∃v',(#[vz]:Array Value)[0]?=some v'∧ij ρ2 ok2 w2 st2.nx s v':=by
        intro z vz hz hzE hvz s hs
        obtain ⟨v',k1,k2⟩:=j3 z s hs
        have h1:a2.tmps[z]?=(a.tmps.setIfInBounds t (.func (.func f) #[] #[vp,vq]))[z]?:=j5.same z hzE
        rw [Array.getElem?_setIfInBounds_ne (fun e=>hz e.symm)] at h1
        rw [h1] at k1
        have:vz=v':=by rw [←hvz];simp [Act.eval,Array.getD_eq_getD_getElem?,k1]
        subst this
        exact ⟨vz,rfl,k2⟩
      have hEc:eH ρ2 ok2 w2 st2.nx (gY [st2.env p,st2.env q]) #[vp,vq]:=by
        intro z s hs
        match z,hs with
        |0,hs=>
          obtain ⟨v',k1,k2⟩:=tmp p vp hpt hpE hvp s hs
          have:vp=v':=by simpa using k1
          exact ⟨vp,rfl,this▸k2⟩
        |1,hs=>
          obtain ⟨v',k1,k2⟩:=tmp q vq hqt hqE hvq s hs
          have:vq=v':=by simpa using k1
          exact ⟨vq,rfl,this▸k2⟩
        |z+2,hs=>cases hs
      rw [hdf]
      have hent:lf P f:=⟨gf,hf,by rw [hgb];rfl,hgn⟩
      refine ⟨by rcases hm with ⟨rfl,_⟩|⟨n,rfl,_⟩<;>(intro e;cases e),.func f,#[vp,vq],f,#[vp,vq],rfl,?_,?_⟩
      · show (invoke (.fn (.func f) #[vp,vq]) #[]).run P w2=_
        simp only [invoke]
        rw [lg hent]
        simp
      · refine (Cf hcx hinl hdr hf hgb hr hres hWg hclo hm j2 hEc).mono ?_
        rintro e u2 w3 ⟨rv,rfl,hset,st3,ρ3,ok3,D3,q1,q2,q3,q4⟩
        show Leaves P fn a2.tmps _ [] (settle u2) w3
        rw [hset]
        exact fin a2.tmps w3 ⟨st2.env,st3.hp,st3.nx,st3.dt⟩ ρ3 ok3 _ q2 q3 (j3.move q4 j2) ((g4.trans j4).trans q4)
    refine jA hcx hinl hdr E (TS so) hE ⟨Lv.put st.env t none,st.hp,st.nx,st.dt⟩ _ y hκ ρ1 ok1 w1 _ g2 ?_ ?_ _ ?_ ?_
    · exact eH.put (d:=some t) (s:=none) (v:=.func (.func f) #[] #[vp,vq]) g3 (fun x hx=>by cases hx) (fun u hu=>by cases hu;exact hta)
    · intro u hu
      show u<(Array.setIfInBounds _ _ _).size
      rw [Array.size_setIfInBounds,g5.size]
      exact hsz u (hlt u (.inr (.inr hu)))
    · intro o e a2 w2 k1 k2 k3
      cases o with
      |normal st2=>cases k2;exact leaves st2 a2 w2 _ .returning (.inl ⟨rfl,rfl⟩) k1 k3
      |ret st2=>cases k2;exact leaves st2 a2 w2 _ .returning (.inl ⟨rfl,rfl⟩) k1 k3
      |exit id st2=>cases k1
      |pan n st2=>cases k2
    · intro n st2 a2 w2 k1 k3
      exact leaves st2 a2 w2 _ (.panicking (qK cx.pan n)) (.inr ⟨n,rfl,rfl⟩) k1 k3
  · intro o e a w1 hno hκ hoe hA
    cases o with
    |normal st=>exact absurd rfl (hno st)
    |exit id st=>cases hκ
    |pan n st=>cases hκ
    |ret st=>
      cases hoe
      obtain ⟨ρ1,ok1,D1,g1,g2,g3,g4,g5⟩:=hA
      show Leaves P fn a.tmps _ a.defers .returning w1
      rw [show a.defers=[] from g5.defers]
      exact fin a.tmps w1 st ρ1 ok1 _ hκ g2 g3 g4
  · intro n st a w1 hκ
    cases hκ
theorem Aq [Lk] (hcx:gT P cx) (hinl:jy P cx.pan inl) (hm:P.follows .mixedOrders=true) {g:FuncId} {fn:Func} (hg:P.funcs[g]?=some fn) {pre:List (Code×H)} {i:Nat} {om od:Oper} {E:Code} (hb:fn.body=some (seqs pre (.seq (.region i #[om,od] false) E)))
 {f p q t : Nat} (hd : um om od f p q t) {gf : Func} (hf : P.funcs[f]? = some gf) (hgn : (gf.name == "runtime.NumGoroutine") = false) {ir tr : Nat} {or : Oper} {G : Code} (hgb : gf.body = some (.seq (.region ir #[or] false) G)) (hr : sN or tr) (hres : gf.results = #[])
 (hWg:jo gf.ntmps (tr::writes G)=true) (hWf:jo fn.ntmps (t::(mm pre++writes E))=true) (hpq:iM [p,q] (t::writes E)=true)
 (hE hG:H) {n:Nat} {si so:Sh} (hso:iv so=true) {F:TS si→Option (TS so)} (hev:∀x,vB cx inl pre E hE G hG p q t tr fn.results.toList si so x=F x):fk P g ⟨n,si,so,stk F⟩:=by
 rw [aq]
 exact Cg hcx hinl (lh hcx hm) hg hb hd hf (by simpa using hgn) hgb hr hres hWg hWf hpq (hE:=hE) (hG:=hG) hso fun x y hx=>by rw [hev];exact hx
def lC:Code→Code
 | .seq a _=>a
 |c=>c
def rC':Code→Code
 | .seq _ b=>b
 |c=>c
def opC (c:Code) (i:Nat):Oper:=match c with
 | .region _ ops _=>ops.getD i default
 |_=>default
end
end Lv
end
section
namespace Lv
open Go Go.RowKit
def qq (P:Program) (w:World) (v:String×Nat×(Array Value→Prop)):Prop:=P.globalNamed v.1=some v.2.1∧∃cs,w.var? P v.1=some cs∧v.2.2 cs
theorem yw {P:Program} {w w':World} {n:String} {g:Nat} (hg:P.globalNamed n=some g) (h:w'.heap[g]?=w.heap[g]?):w'.var? P n=w.var? P n:=by
 simp only [World.var?,hg,Option.bind_some,h]
@[reducible] def varG (P : Program) (l : List (String × Nat × (Array Value → Prop))) (d : Bool) : gG where
 bs:=l.map (·.2.1)
 hold:=fun w=>∀v∈l,qq P w v
 draw:=d
 stable:=fun w w' h hs v hv=>by
  obtain ⟨h1,cs,h2,h3⟩:=h v hv
  exact ⟨h1,cs,(yw h1 (hs v.2.1 (List.mem_map.2 ⟨v,hv,rfl⟩))).trans h2,h3⟩
variable [gG]
theorem ll {so:Sh} {y:TS so} {w w':World} {ρ:Nat→Value} {ok:Nat→Prop} {hin:cT} {nx:Nat} {v:Value} (hd:gG.draw=false) (hb:Below w.heap.size w w') (hH:ew ρ ok w hin nx) (hout:∀l o,eO so id y l=some o→False)
 (hE:∀ρ ok w nx,eH ρ ok w nx (ik so id y) #[v]):∃u ρ' ok',Ending.returned v=.returned u∧ew ρ' ok' w' (eO so id y) so.nn∧eH ρ' ok' w' so.nn (ik so id y) #[u]∧lL hin ρ ok w (eO so id y) ρ' ok' w':=by
 have hS:gU ok ok w w':=fun b h=>⟨h,hb.block b (hH.okl b h)⟩
 refine ⟨v,ρ,ok,rfl,⟨fun l o h=>(hout l o h).elim,fun b h=>Nat.lt_of_lt_of_le (hH.okl b h) hb.size,fun l o b h=>(hout l o h).elim,fun l m o p b h=>(hout l o h).elim,hH.gl.move hS⟩,hE _ _ _ _,
  ⟨hb.os,hb.tape,⟨hb.output,fun e=>by rw [hd] at e;cases e⟩,hb.size,fun b h _=>hb.block b h,fun _ h=>h,fun _ h=> .inl h,fun l o h=>(hout l o h).elim,fun l o b h=>(hout l o h).elim⟩⟩
theorem jS {s:fE} {v:Value} (h:∀ρ ok w nx,ij ρ ok w nx s v):∀(ρ:Nat→Value) (ok:Nat→Prop) (w:World) (nx:Nat),eH ρ ok w nx (Lv.put (fun _=>none) 0 (some s)) #[v]:=by
 intro ρ ok w nx t u hu
 simp only [Lv.put] at hu
 split at hu
 ·rename_i ht
  cases hu
  rw [Nat.eq_of_beq_eq_true ht]
  exact ⟨v,rfl,h _ _ _ _⟩
 ·cases hu
theorem kg {ρ ok w nx} {env:Env} {args:Array Value} {c:Cell} {i:Nat} (hE:eH ρ ok w nx env args) (h:env i=some (.v false [c])):∃v,args[i]?=some v∧dP ρ ok w nx c v:=by
 obtain ⟨v,h1,d,e,h2⟩:=hE i _ h
 cases e
 exact ⟨v,h1,h2⟩
theorem vC {args:Array Value} {a:Value} (hn:args.size=1) (h0:args[0]?=some a):args=#[a]:=by
 obtain ⟨l⟩:=args
 match l,hn,h0 with
 | [x],_,h0=>simp at h0;subst h0;rfl
theorem BI {args:Array Value} {a b:Value} (hn:args.size=2) (h0:args[0]?=some a) (h1:args[1]?=some b):args=#[a,b]:=by
 obtain ⟨l⟩:=args
 match l,hn,h0,h1 with
 | [x,y],_,h0,h1=>simp at h0 h1;subst h0 h1;rfl
theorem args3 {args:Array Value} {a b c:Value} (hn:args.size=3) (h0:args[0]?=some a) (h1:args[1]?=some b) (h2:args[2]?=some c):args=#[a,b,c]:=by
 obtain ⟨l⟩:=args
 match l,hn,h0,h1,h2 with
 | [x,y,z],_,h0,h1,h2=>simp at h0 h1 h2;subst h0 h1 h2;rfl
theorem yx {P:Program} {f:Nat} (hd:gG.draw=false) {F:Int→ByteArray} {lo hi:Int} (h:∀(n:Int) (w:World),lo≤n→n≤hi→gG.hold w→Calls P f #[.int .i64 n] w fun e w'=>e=.returned (.string (F n))∧Below w.heap.size w w'):
 fk P f ⟨1,⟨[(0,.v false [.int .i64])],[],[],0,[]⟩,⟨[(0,.v false [.str])],[],[],1000,[]⟩,fun (n,_)=>if lo≤n∧n≤hi then some (F n,()) else none⟩:=by
 rintro ⟨n,⟨⟩⟩ y hxy ρ ok w args hn hH hE
 have hxy:(if lo≤n∧n≤hi then some (F n,()) else none)=some y:=hxy
 split at hxy<;>cases hxy
 rename_i hr
 obtain ⟨v,h0,hv⟩:=kg (i:=0) (c:=.int .i64 n) hE rfl
 have hv:v=.int .i64 n:=hv
 subst hv
 rw [vC hn h0]
 refine (h n w hr.1 hr.2 hH.gl.2).mono ?_
 rintro e w' ⟨rfl,hb⟩
 exact ll hd hb hH (fun l o h=>by cases h) (jS fun _ _ _ _=>⟨_,rfl,rfl⟩)
theorem wV {P:Program} {f:Nat} (hd:gG.draw=false) {F:ByteArray→ByteArray→Bool} {C:ByteArray→ByteArray→Prop} [∀a b,Decidable (C a b)] (h:∀(a b:ByteArray) (w:World),C a b→gG.hold w→Calls P f #[.string a,.string b] w fun e w'=>e=.returned (.bool (F a b))∧Below w.heap.size w w'):
 fk P f ⟨2,⟨[(0,.v false [.str]),(1,.v false [.str])],[],[],0,[]⟩,⟨[(0,.v false [.bool])],[],[],1000,[]⟩,fun (a,b,_)=>if C a b then some (F a b,()) else none⟩:=by
 rintro ⟨a,b,⟨⟩⟩ y hxy ρ ok w args hn hH hE
 have hxy:(if C a b then some (F a b,()) else none)=some y:=hxy
 split at hxy<;>cases hxy
 rename_i hr
 obtain ⟨v,h0,hv⟩:=kg (i:=0) (c:=.str a) hE rfl
 obtain ⟨u,h1,hu⟩:=kg (i:=1) (c:=.str b) hE rfl
 have hv:v=.string a:=hv
 have hu:u=.string b:=hu
 subst hv hu
 rw [BI hn h0 h1]
 refine (h a b w hr hH.gl.2).mono ?_
 rintro e w' ⟨rfl,hb⟩
 exact ll hd hb hH (fun l o h=>by cases h) (jS fun _ _ _ _=>⟨_,rfl,rfl⟩)
theorem un {P:Program} {f:Nat} (hd:gG.draw=false) {F:ByteArray→ByteArray→ByteArray→ByteArray} {C:ByteArray→ByteArray→ByteArray→Prop} [∀a b c,Decidable (C a b c)] (h:∀(a b c:ByteArray) (w:World),C a b c→gG.hold w→Calls P f #[.string a,.string b,.string c] w fun e w'=>e=.returned (.string (F a b c))∧Below w.heap.size w w'):
 fk P f ⟨3,⟨[(0,.v false [.str]),(1,.v false [.str]),(2,.v false [.str])],[],[],0,[]⟩,⟨[(0,.v false [.str])],[],[],1000,[]⟩,fun (a,b,c,_)=>if C a b c then some (F a b c,()) else none⟩:=by
 rintro ⟨a,b,c,⟨⟩⟩ y hxy ρ ok w args hn hH hE
 have hxy:(if C a b c then some (F a b c,()) else none)=some y:=hxy
 split at hxy<;>cases hxy
 rename_i hr
 obtain ⟨v,h0,hv⟩:=kg (i:=0) (c:=.str a) hE rfl
 obtain ⟨u,h1,hu⟩:=kg (i:=1) (c:=.str b) hE rfl
 obtain ⟨z,h2,hz⟩:=kg (i:=2) (c:=.str c) hE rfl
 have hv:v=.string a:=hv
 have hu:u=.string b:=hu
 have hz:z=.string c:=hz
 subst hv hu hz
 rw [args3 hn h0 h1 h2]
 refine (h a b c w hr hH.gl.2).mono ?_
 rintro e w' ⟨rfl,hb⟩
 exact ll hd hb hH (fun l o h=>by cases h) (jS fun _ _ _ _=>⟨_,rfl,rfl⟩)
theorem wW {P:Program} {f:Nat} (hd:gG.draw=false) {F:ByteArray→Int×Bool} {C:ByteArray→Prop} [∀a,Decidable (C a)] (h:∀(a:ByteArray) (w:World),C a→gG.hold w→Calls P f #[.string a] w fun e w'=>∃v,e=.returned (.tuple #[.int .i64 (F a).1,v])∧(((F a).2=true∧v=.nilIface)∨((F a).2=false∧∃t u,v=.iface t u))∧Below w.heap.size w w'):
 fk P f ⟨1,⟨[(0,.v false [.str])],[],[],0,[]⟩,⟨[(0,.tup [(false,[.int .i64]),(false,[.ifc])])],[],[],1000,[]⟩,fun (a,_)=>if C a then some ((F a).1,(F a).2,()) else none⟩:=by
 rintro ⟨a,⟨⟩⟩ y hxy ρ ok w args hn hH hE
 have hxy:(if C a then some ((F a).1,(F a).2,()) else none)=some y:=hxy
 split at hxy<;>cases hxy
 rename_i hr
 obtain ⟨v,h0,hv⟩:=kg (i:=0) (c:=.str a) hE rfl
 have hv:v=.string a:=hv
 subst hv
 rw [vC hn h0]
 refine (h a w hr hH.gl.2).mono ?_
 rintro e w' ⟨v,rfl,hv,hb⟩
 exact ll hd hb hH (fun l o h=>by cases h) (jS fun _ _ _ _=>⟨[.int .i64 (F a).1,v],rfl,.cons ⟨_,rfl,rfl⟩ (.cons ⟨_,rfl,hv⟩ .nil)⟩)
end Lv
end
section
namespace Lv
open Go Go.RowKit
variable [gG]
structure Fe where
 g:Nat
 n:Nat
 si:Sh
 so:Sh
 h:H
abbrev SpL:=List (Nat×List (Nat×AK)×mT)
abbrev SqL:=List (Nat×List (Nat×AK)×kF)
def Fe.e (d:Fe) (k:List (Nat×AK)) (F:TS d.si→Option (TS d.so)):Nat×List (Nat×AK)×mT:=(d.g,k,⟨d.n,d.si,d.so,F⟩)
def Fe.p (d:Fe) (k:List (Nat×AK)) (F:TS d.si→Option (TS d.so⊕Int)):Nat×List (Nat×AK)×kF:=(d.g,k,⟨d.n,d.si,d.so,F⟩)
abbrev InT:=List (Nat×List (Nat×Nat)×Func×H)
def inL:InT→Nat→List (Option fE)→cT→Option (Code×List ResultVar×H)
 | [],_,_,_=>none
 |(i,ks,f,h)::r,g,xs,hp=>bif Nat.beq g i&&ks.all (fun p=>cloK xs hp p.1 p.2) then some (f.body.getD .skip,f.results.toList,h) else inL r g xs hp
def fnB (f : Func) : Bool := f.body.isSome && (!(f.name == "runtime.NumGoroutine") && jo f.ntmps (writes (f.body.getD .skip)))
noncomputable def inl3 (c:Cx) (l:InT):Inl:=xL c (inL l) (xL c (inL l) (xL c (inL l) inl0))
variable {P:Program} {c:Cx} {l:InT}
theorem nR {g:Nat} {f:Func} (h:P.funcs[g]?=some f) (h2:fnB f=true):oo P g (f.body.getD .skip) f.results.toList f.ntmps:=by
 unfold fnB at h2
 simp only [Bool.and_eq_true,Bool.not_eq_true'] at h2
 exact Am h h2.1 h2.2.1 h2.2.2
def wX (P:Program):InT→Prop
 | []=>True
 |(i,_,f,_)::r=>(P.funcs[i]?=some f∧fnB f=true)∧wX P r
theorem qU:∀{l:InT},wX P l→∀n xs hp code res h,inL l n xs hp=some (code,res,h)→∃nt,oo P n code res nt
  | [],_,_,_,_,_,_,_,e=>by cases e
  |(i,ks,f,h)::r,ho,n,xs,hp,code,res,h',e=>by
    unfold inL at e
    cases hb:(Nat.beq n i&&ks.all (fun p=>cloK xs hp p.1 p.2)) with
    |true=>
      rw [hb] at e
      cases e
      rw [Nat.eq_of_beq_eq_true (Bool.and_eq_true_iff.1 hb).1]
      exact ⟨_,nR ho.1.1 ho.1.2⟩
    |false=>
      rw [hb] at e
      exact qU ho.2 n xs hp code res h' e
theorem oC (hc:gT P c) (hm:P.follows .mixedOrders=true) (hl:wX P l):jy P c.pan (inl3 c l):=
 qP hc (qP hc (qP hc (vo _ _) (lh hc hm) (qU hl)) (lh hc hm) (qU hl)) (lh hc hm) (qU hl)
noncomputable abbrev evI (c:Cx) (l:InT) (f:Func) (d:Fe) (x:TS d.si):Option (TS d.so):=evF c (inl3 c l) (f.body.getD .skip) f.results.toList d.h d.si d.so x
noncomputable abbrev evIP (c:Cx) (l:InT) (f:Func) (d:Fe) (x:TS d.si):Option (TS d.so⊕Int):=tS c (inl3 c l) (f.body.getD .skip) f.results.toList d.h d.si d.so x
structure Fk (P:Program) (c:Cx) (l:InT) (f:Func) (d:Fe) (B:TS d.si→Option (TS d.so)):Prop where
 fn:P.funcs[d.g]?=some f:=by kernel_rfl
 fb:fnB f=true:=by kernel_rfl
 so:iv d.so=true:=by kernel_rfl
 ins:wX P l:=by repeat' first|exact trivial|refine And.intro ?_ ?_|kernel_rfl
 ev:∀x,evI c l f d x=B x:=by intro x;kernel_rfl
structure FkP (P:Program) (c:Cx) (l:InT) (f:Func) (d:Fe) (B:TS d.si→Option (TS d.so⊕Int)):Prop where
 fn:P.funcs[d.g]?=some f:=by kernel_rfl
 fb:fnB f=true:=by kernel_rfl
 so:iv d.so=true:=by kernel_rfl
 ins:wX P l:=by repeat' first|exact trivial|refine And.intro ?_ ?_|kernel_rfl
 ev:∀x,evIP c l f d x=B x:=by intro x;kernel_rfl
variable [Lk] {f:Func} {d:Fe}
theorem Fk.ok {B:TS d.si→Option (TS d.so)} (k:Fk P c l f d B) (hc:gT P c) (hm:P.follows .mixedOrders=true):fk P d.g ⟨d.n,d.si,d.so,stk B⟩:=
 Cd hc (oC hc hm k.ins) hm (nR k.fn k.fb) d.h k.so k.ev
theorem FkP.ok {B:TS d.si→Option (TS d.so⊕Int)} (k:FkP P c l f d B) (hc:gT P c) (hm:P.follows .mixedOrders=true):m7 P d.g c.pan ⟨d.n,d.si,d.so,stk B⟩:=
 An hc (oC hc hm k.ins) hm (nR k.fn k.fb) d.h k.so k.ev
def Fe.ok (d:Fe) (P:Program) (F:TS d.si→Option (TS d.so)):Prop:=fk P d.g ⟨d.n,d.si,d.so,F⟩
omit [Lk] in
theorem Fk.okF {B:TS d.si→Option (TS d.so)} (k:Fk P c l f d B) (hc:gT P c) (hm:P.follows .mixedOrders=true):d.ok P B:=
 BH hc (oC hc hm k.ins) hm (nR k.fn k.fb) d.h k.so k.ev
def gt {α:Type} (xs:List α) (i:Int) (z:α):α:=List.getD xs (Int.toNat i) z
def ck {α:Type} (c:Bool) (x:Option α):Option α:=bif c then x else none
def ib (i n:Int):Bool:=decide (0≤i)&&decide (i<n)
def jn {S R:Type} (x:Option (S⊕R)) (k:S→Option R):Option R:=Option.bind x fun r=>match r with
 | .inl s=>k s
 | .inr r=>some r
def il {S R:Type} (s:S):Option (S⊕R):=some (.inl s)
def ir {S R:Type} (r:R):Option (S⊕R):=some (.inr r)
def sb (a b n:Int):Bool:=decide (0≤a)&&(decide (a≤b)&&decide (b≤n))
def ca (a b:ByteArray):Bool:= !decide (((a.size+b.size:Nat):Int)>IntKind.i64.max)
def sq (a b:ByteArray):Bool:=a.toList==b.toList
def wr (n:Int):Int:=IntKind.i64.wrap n
inductive AT where
 |u
 |l (ts:List AT)
 |n (a:AT) (r:List AT)
abbrev AgF:=(R:Type)→AT→(List AT→Option R)→Option R
mutual
noncomputable def agT (R:Type):AT→(List AT→Option R)→Option R
 | .u,f=>f []
 | .l ts,f=>f ts
 | .n a r,f=>nC (agT R a f::yy R r f)
noncomputable def yy (R:Type):List AT→(List AT→Option R)→List (Option R)
 | [],_=> []
 |a::r,f=>agT R a f::yy R r f
end
def agI:AgF:=fun _ _ f=>f []
theorem uo {R:Type} {y:Option R} {r:List (Option R)} (h:∀z∈r,z=y):nC (y::r)=y:=if_pos h
mutual
theorem qr {R:Type} (x:Option R):∀t:AT,agT R t (fun _=>x)=x
 | .u=>by rw [agT]
 | .l _=>by rw [agT]
 | .n a r=>by
  rw [agT,uo fun y hy=>(yz x r y hy).trans (qr x a).symm]
  exact qr x a
theorem yz {R:Type} (x:Option R):∀(l:List AT),∀y∈yy R l (fun _=>x),y=x
 | [],y,h=>by rw [yy] at h;cases h
 |a::r,y,h=>by
  rw [yy] at h
  rcases List.mem_cons.1 h with rfl|h
  ·exact qr x a
  ·exact yz x r y h
end
theorem oi {R:Type} (t:AT) (f:List AT→Option R):agI R t f=f []:=rfl
end Lv
end
section
namespace Lv
open Go Go.RowKit
theorem Qa {α β:Type} (a:α) (f:α→Option β):Option.bind (some a) f=f a:=rfl
theorem Qb {α:Type} (a b:α):cond false a b=b:=rfl
theorem Qc {α:Type} (a b:α):cond true a b=a:=rfl
def Tot {α:Type} (x:Option α) (P:α→Prop):Prop:=∃y,x=some y∧P y
variable {α β S R:Type}
@[simp] theorem ai {y : α} {P : α → Prop} : Tot (some y) P ↔ P y := ⟨fun ⟨_,h,hp⟩ => (by cases h; exact hp),fun h => ⟨y,rfl,h⟩⟩
@[simp] theorem tot_none {P : α → Prop} : Tot none P ↔ False := ⟨fun ⟨_,h,_⟩ => (by cases h),False.elim⟩
@[simp] theorem ah {c : Bool} {x : Option α} {P : α → Prop} : Tot (ck c x) P ↔ c = true ∧ Tot x P := by
 cases c<;>simp [ck]
@[simp] theorem ac {c : Bool} {a b : Option α} {P : α → Prop} : Tot (bif c then a else b) P ↔ (c = true → Tot a P) ∧ (c = false → Tot b P) := by
 cases c<;>simp
@[simp] theorem af {x : Option α} {f : α → Option β} {P : β → Prop} : Tot (Option.bind x f) P ↔ Tot x fun y => Tot (f y) P := by
 cases x<;>simp
@[simp] theorem av {s : S} {P : S ⊕ R → Prop} : Tot (il s) P ↔ P (.inl s) := ai
@[simp] theorem aH {r : R} {P : S ⊕ R → Prop} : Tot (ir r) P ↔ P (.inr r) := ai
theorem jC {x:Option (S⊕R)} {k:S→Option R} {P:R→Prop}:Tot (jn x k) P↔Tot x (fun z=>match z with| .inl s=>Tot (k s) P| .inr r=>P r):=by
 cases x with
 |none=>simp [jn]
 |some z=>cases z<;>simp [jn]
theorem Tot.mono {x:Option α} {P Q:α→Prop} (h:Tot x P) (hq:∀y,P y→Q y):Tot x Q:=by
 obtain ⟨y,h,hp⟩:=h
 exact ⟨y,h,hq y hp⟩
theorem aY {x:Option (S⊕R)} {k:S→Option R} {P:R→Prop} (Q:S→Prop) (h:Tot x (fun z=>match z with| .inl s=>Q s| .inr r=>P r)) (hk:∀s,Q s→Tot (k s) P):Tot (jn x k) P:=by
 rw [jC]
 refine h.mono fun z hz=>?_
 cases z with
 |inl s=>exact hk s hz
 |inr r=>exact hz
theorem dk {body:S→Option (S⊕R)} {P:R→Prop} (m:S→Nat) (I:S→Prop) {s:S} (h0:I s)
 (h:∀s,I s→Tot (body s) fun z=>match z with| .inl s'=>I s'∧m s'<m s| .inr r=>P r):Tot (aN body s) P:=by
 suffices H:∀n s,m s=n→I s→∃k r,ix body k s=some r∧P r by
  obtain ⟨k,r,h1,h2⟩:=H _ s rfl h0
  exact ⟨r,@kL ⟨[],fun _=>True,false,fun _ _ _ _=>trivial⟩ _ _ _ _ _ _ h1,h2⟩
 intro n
 induction n using Nat.strongRecOn with
 |ind n ih=>
  intro s hm hI
  obtain ⟨z,hz,hp⟩:=h s hI
  cases z with
  |inr r=>exact ⟨1,r,by simp [ix,hz],hp⟩
  |inl s'=>
   obtain ⟨k,r,h1,h2⟩:=ih (m s') (by have:=hp.2;omega) s' rfl hp.1
   exact ⟨k+1,r,by simp only [ix,hz];exact h1,h2⟩
theorem ic {body:Int×Unit→Option ((Int×Unit)⊕R)} {P:R→Prop} (n:Nat)
 (h:∀i:Int,0≤i→i≤n→Tot (body (i,())) fun z=>match z with| .inl s'=>s'.1=i+1∧i<n| .inr r=>P r):Tot (aN body ((0:Int),())) P:=by
 refine dk (fun s=>n-s.1.toNat) (fun s=>0≤s.1∧s.1≤(n:Int)) (by simp) ?_
 rintro ⟨i,u⟩ ⟨h1,h2⟩
 refine (h i h1 h2).mono fun z hz=>?_
 cases z with
 |inl s=>simp at hz h1 h2 ⊢;omega
 |inr r=>exact hz
@[simp] theorem iq {i n : Int} : ib i n = true ↔ 0 ≤ i ∧ i < n := by simp [ib]
@[simp] theorem sb_iff {a b n : Int} : sb a b n = true ↔ 0 ≤ a ∧ a ≤ b ∧ b ≤ n := by simp [sb]
@[simp] theorem yA {a b : ByteArray} : ca a b = true ↔ a.size + b.size ≤ 9223372036854775807 := by
 unfold ca
 simp only [Bool.not_eq_true',decide_eq_false_iff_not,show IntKind.i64.max=9223372036854775807 from by decide]
 omega
theorem eo (n:Int):wr n=(n+9223372036854775808)%18446744073709551616-9223372036854775808:=by
 unfold wr IntKind.wrap
 simp [IntKind.signed,IntKind.bits,Int.bmod]
 omega
theorem bB {n:Int} (h:-9223372036854775808≤n) (h2:n≤9223372036854775807):wr n=n:=by
 rw [eo];omega
@[simp] theorem bsz (a : Array UInt8) : (ByteArray.mk a).size = a.size := rfl
theorem ou (n:Int):IntKind.u64.wrap n=n%18446744073709551616:=by
 unfold IntKind.wrap
 simp [IntKind.signed,IntKind.bits]
theorem ky (s:ByteArray) (a b:Nat):(s.extract a b).size=min b s.size-a:=by simp
theorem d9 {xs:List α} {i:Int} {z:α} (h:0≤i) (h2:i<(xs.length:Int)):gt xs i z∈xs:=by
 unfold gt
 have:i.toNat<xs.length:=by omega
 rw [List.getD_eq_getElem?_getD,List.getElem?_eq_getElem this]
 exact List.getElem_mem this
theorem cD {l:List α} {i:Nat} (h:i<l.length) (z:α):gt l (i:Int) z=l[i]:=by
 unfold gt
 rw [Int.toNat_natCast,List.getD_eq_getElem?_getD,List.getElem?_eq_getElem h]
 rfl
theorem kh {body:Int×Unit→Option ((Int×Unit)⊕R)} {P:R→Prop} (n:Nat) (Q:Nat→Prop)
 (h:∀i:Nat,i<n→Tot (body ((i:Int),())) fun z=>match z with| .inl s'=>s'.1=i+1∧Q i| .inr r=>P r)
 (he:(∀i,i<n→Q i)→Tot (body ((n:Int),())) fun z=>match z with| .inl s'=>False| .inr r=>P r):Tot (aN body ((0:Int),())) P:=by
 refine dk (fun s=>n-s.1.toNat) (fun s=>∃i:Nat,s.1=(i:Int)∧i≤n∧∀j,j<i→Q j) ⟨0,rfl,by omega,fun j h=>by omega⟩ ?_
 rintro ⟨_,u⟩ ⟨i,rfl,h1,h2⟩
 by_cases hi:i<n
 ·refine (h i hi).mono fun z hz=>?_
  cases z with
  |inr r=>exact hz
  |inl s=>
   refine ⟨⟨i+1,by simpa using hz.1,by omega,fun j hji=>?_⟩,by have:=hz.1;simp at this ⊢;omega⟩
   by_cases e:j=i
   ·subst e;exact hz.2
   ·exact h2 j (by omega)
 ·have:i=n:=by omega
  subst this
  refine (he h2).mono fun z hz=>?_
  cases z with
  |inr r=>exact hz
  |inl s=>exact hz.elim
theorem jd {l:List α} {body:Int×Unit→Option ((Int×Unit)⊕R)} {P:R→Prop} (Q:α→Prop)
 (h:∀(i:Nat) (hi:i<l.length),Tot (body ((i:Int),())) fun z=>match z with| .inl s'=>s'.1=i+1∧Q l[i]| .inr r=>P r)
 (he:(∀x∈l,Q x)→Tot (body ((l.length:Int),())) fun z=>match z with| .inl s'=>False| .inr r=>P r):Tot (aN body ((0:Int),())) P:=
 kh l.length (fun i=>∀h:i<l.length,Q l[i]) (fun i hi=>(h i hi).mono fun z hz=>by
  cases z with
  |inr r=>exact hz
  |inl s=>exact ⟨hz.1,fun _=>hz.2⟩) fun hq=>he fun x hx=>by
  obtain ⟨j,hj,rfl⟩:=List.getElem_of_mem hx
  exact hq j hj hj
end Lv
end
section
namespace Lv
open Go Go.RowKit
def Par {α:Type} (x:Option α) (P:α→Prop):Prop:=∀y,x=some y→P y
variable {α β S R:Type}
theorem aF {y:α} {P:α→Prop} (h:P y):Par (some y) P:=fun _ e=>by cases e;exact h
theorem iL {P:α→Prop}:Par none P:=fun _ e=>by cases e
theorem ay {c:Bool} {x:Option α} {P:α→Prop} (h:c=true→Par x P):Par (ck c x) P:=by
 cases c
 ·exact iL
 ·exact h rfl
theorem aj {c:Bool} {a b:Option α} {P:α→Prop} (h1:c=true→Par a P) (h2:c=false→Par b P):Par (bif c then a else b) P:=by
 cases c
 ·exact h2 rfl
 ·exact h1 rfl
theorem bo {x:Option α} {f:α→Option β} {P:β→Prop} (h:Par x fun y=>Par (f y) P):Par (Option.bind x f) P:=by
 cases x with
 |none=>exact iL
 |some y=>exact h y rfl
theorem aC {s:S} {P:S⊕R→Prop} (h:P (.inl s)):Par (il s) P:=aF h
theorem aL {r:R} {P:S⊕R→Prop} (h:P (.inr r)):Par (ir r) P:=aF h
theorem Par.mono {x:Option α} {P Q:α→Prop} (h:Par x P) (hq:∀y,P y→Q y):Par x Q:=fun y e=>hq y (h y e)
theorem gB {x:Option (S⊕R)} {k:S→Option R} {P:R→Prop} (Q:S→Prop) (h:Par x (fun z=>match z with| .inl s=>Q s| .inr r=>P r)) (hk:∀s,Q s→Par (k s) P):Par (jn x k) P:=by
 refine bo (h.mono fun z hz=>?_)
 cases z with
 |inl s=>exact hk s hz
 |inr r=>exact aF hz
theorem iz {body:S→Option (S⊕R)} {P:R→Prop} (I:S→Prop) {s:S} (h0:I s)
 (h:∀s,I s→Par (body s) fun z=>match z with| .inl s'=>I s'| .inr r=>P r):Par (aN body s) P:=by
 intro r hr
 obtain ⟨n,hn⟩:=@iV ⟨[],fun _=>True,false,fun _ _ _ _=>trivial⟩ _ _ _ _ _ hr
 clear hr
 induction n generalizing s with
 |zero=>cases hn
 |succ n ih=>
  unfold ix at hn
  cases hb:body s with
  |none=>rw [hb] at hn;cases hn
  |some z=>
   have hz:=h s h0 z hb
   rw [hb] at hn
   cases z with
   |inl s'=>exact ih hz hn
   |inr r'=>cases hn;exact hz
theorem jg {x:Option α} {y:α} {P:α→Prop} (h:x=some y) (hp:P y):Par x P:=by rw [h];exact aF hp
end Lv
end
