import Derived.Test.YtnhiifengimfgaaGreatDoorM2
import Derived.Laws.StructEq
import Derived.ChangeKeysEq
import Derived.ProofKit
import Derived.SizedLaws
import Derived.Below
import Derived.ChangeOld
import Derived.Deep.Slices
import Derived.OpenShut
import Derived.Lib.AppendZerosOnto
import Derived.Lib.Overlaps
import Derived.Laws.Externs
import Derived.Laws.CopyRow
import Derived.Lib.JoinLaws
import Derived.Recover
import Derived.FnData
import Derived.Lib.LaidTab
import Derived.KernelRfl
set_option linter.all false
set_option linter.unusedVariables false
set_option linter.unusedSimpArgs false
set_option linter.unusedSectionVars false
section
namespace Lv
variable [HasG]
open Go Go.RowKit
section
variable {P:Program} {ops:Array Oper} {es:List E} {st:St}
theorem wpAny_ok (K : Ok P ops es st) {Q : Exit → Act → World → Prop} {D W : List Nat} {ρ0 : Nat → Value} {ok0 : Nat → Prop} {w0 : World} {a0 : Act} (hD : ∀ e ∈ es,∀ l ∈ names e.t.up,l ∈ D) (hW : ∀ e ∈ es,∀ t ∈ dstOf e.o,t ∈ W ∧ t < a0.tmps.size)
    (hQ:∀a w,(∃ρ ok,RepH ρ ok w (goAll st es).hp (goAll st es).nx∧RepE ρ ok w (goAll st es).nx (goAll st es).env a.tmps∧Goes ρ0 ok0 w0 st.hp st.nx D ρ ok w (goAll st es).hp (goAll st es).nx∧Tm W a0 a)→Q .normal a w):
    ∀(fuel:Nat) (listed:Array Bool) (a:Act) (w:World),listed.toList.countP (! ·)=fuel→(∃env hp ρ ok,Inv ops es st D W ρ0 ok0 w0 a0 listed env hp ρ ok w a)→wpAny P .any ops Q fuel listed a w:=by
  have hlen:ops.size=es.length:=by rw [←Array.length_toList,←K.all,List.length_map]
  have hop:∀(i:Nat) (e:E),es[i]?=some e→ops[i]?=some e.o:=fun i e h=>by
    have:ops.toList[i]?=some e.o:=by rw [←K.all,List.getElem?_map,h];rfl
    simpa using this
  have hall:nmAt es st es.length=(goAll st es).nx:=by simp [nmAt]
  intro fuel
  induction fuel with
  |zero=>
    rintro listed a w hc ⟨env,hp,ρ,ok,I⟩
    have full:∀i,i<es.length→listed.getD i false=true:=fun i hi=>by
      have:=count_none listed.toList hc i (by simpa [I.size] using hi)
      simp at this
      simp [this]
    refine ⟨?_,?_⟩
    · cases hr:Region.ready .any ops listed with
      |nil=>rfl
      |cons i r=>
        have hi:i∈Region.ready .any ops listed:=by rw [hr];exact List.mem_cons_self
        obtain ⟨h1,o,h2,_⟩:=mem_ready.1 hi
        have hlt:i<es.length:=by rw [←hlen];exact (Array.getElem?_eq_some_iff.1 h2).1
        have:=full i hlt
        have hs:i<listed.size:=by rw [I.size];exact hlt
        simp [hs] at h1 this
        rw [h1] at this;cases this
    · have e1:env=(goAll st es).env:=funext fun t=>by
        have:=K.canonE.last I.seenE full t
        simpa [vE] using this
      have e2:hp=(goAll st es).hp:=funext fun t=>by
        have:=K.canonH.last I.seenH full t
        simpa [vH] using this
      have H:=I.H
      have HE:=I.envR
      have G:=I.G
      rw [hall,e2] at H G
      rw [hall,e1] at HE
      exact hQ a w ⟨ρ,ok,H,HE,G,I.T⟩
  |succ fuel ih=>
    rintro listed a w hc ⟨env,hp,ρ,ok,I⟩
    refine ⟨fun hr=>?_,fun i hi=>?_⟩
    · exfalso
      rcases least_false listed with h|⟨i,h1,h2,h3⟩
      · have:listed.toList.countP (! ·)=0:=by
          rw [List.countP_eq_zero]
          intro b hb
          obtain ⟨i,hi,e⟩:=List.mem_iff_getElem.1 hb
          have:=h i (by simpa using hi)
          simp at hi
          simp [hi] at this
          subst e
          simp [this]
        omega
      · have hlt:i<ops.size:=by rw [hlen,←I.size];exact h1
        have:i∈Region.ready .any ops listed:=by
          refine mem_ready.2 ⟨?_,ops[i],Array.getElem?_eq_getElem hlt,fun e he hb=>h3 _ (K.back i ops[i] (Array.getElem?_eq_getElem hlt) e he hb)⟩
          simp [h1] at h2 ⊢;exact h2
        rw [hr] at this
        cases this
    · obtain ⟨hun,o,ho,hafter⟩:=mem_ready.1 hi
      have hlt:i<es.length:=by rw [←hlen];exact (Array.getElem?_eq_some_iff.1 ho).1
      have he:es[i]?=some es[i]:=List.getElem?_eq_getElem hlt
      generalize hee:es[i]=e at he
      have hoo:=hop i e he
      have hcond:=K.cond i e he
      have hls:i<listed.size:=by rw [I.size];exact hlt
      have hunf:¬listed.getD i false=true:=by simp [hls] at hun ⊢;exact hun
      have hbef:=I.before K hi
      have readE:∀t∈tmpsOf ops e.o,env t=(goAll st (es.take i)).env t:=fun t ht=>K.canonE.reads I.seenE hlt hunf hbef ⟨e,he,ht⟩
      have readH:∀l∈e.t.looks,hp l=(goAll st (es.take i)).hp l:=fun l hl=>K.canonH.reads I.seenH hlt hunf hbef ⟨e,he,hl⟩
      have hcount:(listed.setIfInBounds i true).toList.countP (! ·)=fuel:=by
        have h:=count_set listed.toList i (by simp [hls] at hun ⊢;exact hun)
        rw [hc] at h
        rw [Array.toList_setIfInBounds]
        omega
      have hdb:∀t∈dstOf e.o,t<a.tmps.size:=fun t ht=>by rw [I.T.size];exact (hW e (List.mem_of_getElem? he) t ht).2
      -- the operation is wanted or not,as it was
      have hwant:Region.wanted e.o (yielded ops a.tmps)=e.yes:=by
        have hg:=hcond.guard
        cases hgd:e.o.guard with
        |none=>rw [hgd] at hg;simp only at hg;rw [hg];simp [Region.wanted,hgd]
        |some p=>
          obtain ⟨g,want⟩:=p
          rw [hgd] at hg
          obtain ⟨t,h1,hg⟩:=hg
          have ht:t∈tmpsOf ops e.o:=by
            simp only [tmpsOf,hgd,h1]
            exact List.mem_append_right _ List.mem_cons_self
          rcases hg with ⟨b,h2,h3⟩|⟨h2,h3⟩
          case inr=>
            obtain ⟨v,hv1,vs,hv2,hv3⟩:=I.envR t _ ((readE t ht).trans h2)
            cases hv3
            subst hv2
            have hy:yielded ops a.tmps g=none:=by simp [yielded,h1,hv1]
            rw [h3]
            simp [Region.wanted,hgd,hy]
          obtain ⟨v,hv1,hv2⟩:=I.envR t _ ((readE t ht).trans h2)
          obtain ⟨c,ec,hv2⟩:=hv2
          cases ec
          have hv:v=.bool b:=hv2
          subst hv
          have hy:yielded ops a.tmps g=some b:=by simp [yielded,h1,hv1]
          rw [h3]
          cases b<;>cases want<;>simp [Region.wanted,hgd,hy]
      unfold wpOp
      rw [hoo]
      simp only
      cases hyes:e.yes with
      |false=>
        rw [hwant,hyes,if_neg (by simp)]
        obtain ⟨n1,n2,n3⟩:=hcond.no hyes
        have hL:RepH ρ ok w (fun _=>none) (nmAt es st i):=⟨fun l o h=>(by cases h),I.H.okl,fun l o b h=>(by cases h),fun l m o p b h=>(by cases h),I.H.gl⟩
        obtain ⟨ρ2,I2⟩:=I.next K hD hW he hi (hpL:=fun _=>none) (fun l o h=>by cases h) hL (ρ':=ρ) (ok':=ok) (w':=w) (by rw [n2,n3];exact Eff.refl hL) (v:=undef) (fun x hx=>by rw [n1] at hx;cases hx;exact ⟨[],rfl,.nil⟩)
        exact ih _ _ _ hcount ⟨_,_,_,_,I2⟩
      |true=>
        rw [hwant,hyes,if_pos rfl]
        obtain ⟨lk1,lk2,lk3⟩:=hcond.looks hyes
        have hs:∀l o,onlyN e.t.looks (goAll st (es.take i)).hp l=some o→hp l=some o:=fun l o h=>by
          rw [readH l (onlyN_mem h)];exact onlyN_sub _ _ _ _ h
        have hL:RepH ρ ok w (onlyN e.t.looks (goAll st (es.take i)).hp) (nmAt es st i):=by
          refine ⟨fun l o h=>?_,I.H.okl,fun l o b h=>I.H.sep l o b (hs l o h),fun l m o p b h h'=>I.H.dis l m o p b (hs l o h) (hs m p h'),I.H.gl⟩
          refine ⟨lk2 l (onlyN_mem h),(I.H.ob l o (hs l o h)).2.moveM (Same.refl _ _) rfl (fun m hm=>⟨rfl,lk3 l (onlyN_mem h) m ?_⟩) fun _ _ _=>rfl⟩
          rw [onlyN_sub _ _ _ _ h];exact hm
        have hE:RepE ρ ok w (nmAt es st i) (onlyE (opTmps e.o) (goAll st (es.take i)).env) a.tmps:=by
          intro t s hts
          unfold onlyE at hts
          split at hts<;>try (cases hts;done)
          rename_i hm
          have hm:=memN_iff.1 hm
          have htt:t∈tmpsOf ops e.o:=List.mem_append_left _ hm
          obtain ⟨v,h1,h2⟩:=I.envR t s ((readE t htt).trans hts)
          exact ⟨v,h1,h2.moveM (Same.refl _ _) fun m hm'=>⟨rfl,lk2 m (lk1 t hm m (by rw [hts];exact hm'))⟩⟩
        refine .inl (Oper.wp_mono ?_ (hcond.loc hyes ρ ok w a hL hE hdb Q))
        rintro a' w' ⟨v,ρ',ok',rfl,F,hv⟩
        obtain ⟨ρ2,I2⟩:=I.next K hD hW he hi hs hL F hv
        exact ih _ _ _ hcount ⟨_,_,_,_,I2⟩
theorem drawnOk {cx : Cx} (hcx : CxOk P cx) (hm : P.follows .mixedOrders = true) : DrawnOk P cx := by
  refine ⟨hm,?_⟩
  intro R rid ops st κ r h ρ ok w a hH hE hW Q hQ
  obtain ⟨es,h1,h2,h3⟩:=drawn_runs hcx ops ops.toList st [] _ r h
  split at h2<;>try (cases h2;done)
  rename_i hfree
  obtain ⟨f1,f2⟩:=Bool.and_eq_true_iff.1 hfree
  have hz:ops.toList.zip ([]++es.map (·.t))=es.map fun e=>(e.o,e.t):=by
    rw [List.nil_append,←h1,List.zip_map']
  rw [hz] at f2
  have K:Ok P ops es st:=by
    refine ⟨h1,h3,fun k o ho e he hb=>?_,fun i j x y hij hx hy hn=>?_⟩
    · have:=backEdges_spec f1 k o (by simpa using ho) e he hb
      omega
    · rcases freeAll_spec f2 i j x.o y.o x.t y.t hij (by rw [List.getElem?_map,hx];rfl) (by rw [List.getElem?_map,hy];rfl) with g|g
      · rw [Nat.zero_add,Nat.zero_add] at g
        exact absurd g hn
      · exact g
  obtain ⟨D,hD1,hD2⟩:=goAll_dt st es
  have hlen:ops.size=es.length:=by rw [←Array.length_toList,←h1,List.length_map]
  have hme:∀e∈es,e.o∈ops.toList:=fun e he=>by rw [←h1];exact List.mem_map.2 ⟨e,he,rfl⟩
  have hle:st.nx≤nmAt es st es.length:=nm_mono (es:=es) (st:=st) (i:=0) (Nat.zero_le _)
  refine wp_region_any hm (wpAny_ok K (D:=D) (W:=ops.toList.flatMap dstOf) (ρ0:=ρ) (ok0:=ok) (w0:=w) (a0:=a) hD2
    (fun e he t ht=>⟨List.mem_flatMap.2 ⟨e.o,hme e he,ht⟩,hW e.o (hme e he) t ht⟩) ?_ ops.size _ a _ (by simp [List.countP_replicate]) ?_)
  · rintro a' w' ⟨ρ',ok',k1,k2,k3,k4⟩
    exact hQ _ a' w' h2 ⟨ρ',ok',D,hD1,k1,k2,k3,k4⟩
  · have emp:∀j,(Array.replicate ops.size false).getD j false=true→False:=fun j h=>by
      rw [Array.getD_eq_getD_getElem?,Array.getElem?_replicate] at h
      split at h<;>simp at h
    refine ⟨st.env,st.hp,ρ,ok,by simp [hlen],fun j o h=>(emp j h).elim,?_,?_,?_,?_,?_,?_,?_,Tm.refl _ _⟩
    · intro k hk key hkr hn
      exact K.canonE.start k (hk.imp id fun ⟨a,b⟩=>⟨a,id⟩) key hkr fun j hj _=>hn j hj fun h=>emp j h
    · intro k hk key hkr hn
      exact K.canonH.start k (hk.imp id fun ⟨a,b⟩=>⟨a,id⟩) key hkr fun j hj _=>hn j hj fun h=>emp j h
    · exact (hH.heap (w':={w with drawn:=w.drawn+1}) rfl).more hle
    · exact (hE.heap (w':={w with drawn:=w.drawn+1}) rfl).more hle
    · intro l o ho
      obtain ⟨g1,g2⟩:=hH.ob l o ho
      exact ⟨.inl g1,fun m hm=> .inl (g2.names m hm)⟩
    · intro t m hm'
      cases hs:st.env t with
      |none=>rw [hs] at hm';cases hm'
      |some s=>
        rw [hs] at hm'
        obtain ⟨v,_,hv⟩:=hE t s hs
        exact .inl (hv.names m hm')
    · have G:=Goes.refl (ρ:=ρ) (ok:=ok) (w:=w) (hp:=st.hp) (nx:=st.nx) fun l o ho=>(hH.ob l o ho).1
      exact ⟨rfl,rfl,⟨rfl,fun _=>Nat.le_succ _⟩,Nat.le_refl _,hle,fun _ _ _=>rfl,fun _ _=>rfl,fun _ h=>h,fun _ h=> .inl h,fun _ _ _=>rfl,fun _ _ o h=>⟨o,h,id⟩,fun l o b hl ho _ _=>absurd (hH.ob l o ho).1 (by omega)⟩
end
end Lv
end
section
namespace Lv
variable [HasG]
open Go Go.RowKit
section
variable {P:Program} {cx:Cx}
theorem resCell_run (hT : TabOk P cx.tab) {ρ : Nat → Value} {ok : Nat → Prop} {w : World} {hp : Heap} {nx : Nat} {env : Env} {tmps : Array Value} (hH : RepH ρ ok w hp nx) (hE : RepE ρ ok w nx env tmps) (f : ResultVar → Sem Value) (hf : ∀ t,f (.tmp t) = pure (tmps.getD t undef))
    (hc:∀a t,f (.cell a t)=(do loadVar t (←asAddr (tmps.getD a undef)))) {v:ResultVar} {p:Bool×List Cell} (h:resCell cx env hp v=some p):∃u,(f v).run P w=.ok u w∧VR ρ ok w nx p.1 p.2 u:=by
  cases v with
  |tmp t=>
    simp only [resCell] at h
    split at h<;>try (cases h;done)
    rename_i a cs ht
    cases h
    obtain ⟨v,hv1,hv2⟩:=hE t _ ht
    have:tmps.getD t undef=v:=by simp [Array.getD_eq_getD_getElem?,hv1]
    exact ⟨v,by rw [hf,this];simp,hv2⟩
  |cell a t=>
    simp only [resCell] at h
    split at h<;>try (cases h;done)
    rename_i i l off hi ha
    split at h<;>try (cases h;done)
    rename_i e cs hl
    split at h<;>try (cases h;done)
    rename_i hb
    cases h
    obtain ⟨v,hv1,hv2⟩:=hE a _ (cells1_some ha)
    obtain ⟨c,ec,hv2⟩:=hv2
    cases ec
    obtain ⟨_,b,k1,k2⟩:=hv2
    obtain ⟨_,b',vs,g1,g2,g3⟩:=hH.ob l _ hl
    rw [k1] at g1
    cases g1
    have hle:=Nat.le_of_ble_eq_true hb
    have hlen0:=g3.len
    have hc':=(g3.drop off).take i.size
    have hlen:((vs.drop off).take i.size).length=i.size:=by simp;omega
    have hTI:=hT t i hi
    have hrun:=run_loadV (w:=w) hTI (b:=b) (off:=off) hlen (fun j v hj=>by
      rw [List.getElem?_take] at hj
      split at hj
      · rw [List.getElem?_drop] at hj
        simpa [World.cell?,g2] using hj
      · cases hj)
    have:tmps.getD a undef=v:=by simp [Array.getD_eq_getD_getElem?,hv1]
    refine ⟨_,by rw [hc,this,k2];simp only [asAddr,Sem.run_bind,Sem.run_pure,Result.andThen_ok,hrun];rfl,?_⟩
    by_cases hag:i.agg=true
    · simp only [hag,if_true]
      exact ⟨_,rfl,hc'⟩
    · have hag:i.agg=false:=by simpa using hag
      simp only [hag,Bool.false_eq_true,if_false]
      have h1:i.size=1:=hTI.one.resolve_left (by simp [hag])
      rw [h1] at hc' hlen ⊢
      have hl2:=hc'.len
      match hcs:(cs.drop off).take 1,hvs:(vs.drop off).take 1,hlen with
      | [],[v],_=>rw [hcs,hvs] at hl2;simp at hl2
      | [c],[v],_=>
        rw [hcs,hvs] at hc'
        obtain ⟨u,e,hu⟩:=hc'.one
        cases e
        exact ⟨c,rfl,hu⟩
      |_::_::_,[v],_=>rw [hcs,hvs] at hl2;simp at hl2
theorem resGo_run (hT:TabOk P cx.tab) {ρ:Nat→Value} {ok:Nat→Prop} {w:World} {hp:Heap} {nx:Nat} {env:Env} {tmps:Array Value} (hH:RepH ρ ok w hp nx) (hE:RepE ρ ok w nx env tmps) (f:ResultVar→Sem Value) (hf:∀t,f (.tmp t)=pure (tmps.getD t undef))
    (hc:∀a t,f (.cell a t)=(do loadVar t (←asAddr (tmps.getD a undef)))):∀(rs:List ResultVar) (l:List (Bool×List Cell)),resGo cx env hp rs=some l→
    ∃us,(rs.mapM f).run P w=.ok us w∧All2 (fun (p:Bool×List Cell) u=>VR ρ ok w nx p.1 p.2 u) l us
  | [],l,h=>by cases h;exact ⟨[],by simp,.nil⟩
  |v::r,l,h=>by
    simp only [resGo] at h
    split at h<;>try (cases h;done)
    rename_i p l' h1 h2
    cases h
    obtain ⟨u,k1,k2⟩:=resCell_run hT hH hE f hf hc h1
    obtain ⟨us,g1,g2⟩:=resGo_run hT hH hE f hf hc r l' h2
    exact ⟨u::us,by simp only [List.mapM_cons,Sem.run_bind,k1,Result.andThen_ok,g1,Sem.run_pure],.cons k2 g2⟩
/--a result,and its slot -/
theorem res_ok (hT : TabOk P cx.tab) {fn : Func} {ρ : Nat → Value} {ok : Nat → Prop} {w : World} {hp : Heap} {nx : Nat} {env : Env} {tmps : Array Value} (hH : RepH ρ ok w hp nx) (hE : RepE ρ ok w nx env tmps) {s : Slot} (h : resSlot cx env hp fn.results.toList = some s) :
    ∃v,(results fn tmps).run P w=.ok v w∧SlotR ρ ok w nx s v:=by
  unfold results
  rw [Array.mapM_eq_mapM_toList]
  simp only [Sem.run_bind,Sem.run_map,map_eq_pure_bind]
  generalize fn.results.toList=rs at h ⊢
  generalize hF:(fun x=>match x with
    |ResultVar.tmp t=>pure (tmps.getD t undef)
    |ResultVar.cell a t=>do loadVar t (←asAddr (tmps.getD a undef)):ResultVar→Sem Value)=F
  have f1:∀t,F (.tmp t)=pure (tmps.getD t undef):=fun t=>by rw [←hF]
  have f2:∀a t,F (.cell a t)=(do loadVar t (←asAddr (tmps.getD a undef))):=fun a t=>by rw [←hF]
  unfold resSlot at h
  split at h
  · rename_i v
    split at h<;>try (cases h;done)
    rename_i a cs hv
    cases h
    obtain ⟨u,k1,k2⟩:=resCell_run hT hH hE F f1 f2 hv
    refine ⟨u,?_,k2⟩
    simp only [List.mapM_cons,List.mapM_nil,Sem.run_bind,k1,Result.andThen_ok,Sem.run_pure]
    rfl
  · rename_i hne
    split at h<;>try (cases h;done)
    rename_i l hl
    cases h
    obtain ⟨us,k1,k2⟩:=resGo_run hT hH hE F f1 f2 rs l hl
    have hlen:us.length≠1:=by
      rw [←k2.len]
      have:∀(rs:List ResultVar) l,resGo cx env hp rs=some l→l.length=rs.length:=by
        intro rs
        induction rs with
        |nil=>intro l h;cases h;rfl
        |cons v r ih=>
          intro l h
          simp only [resGo] at h
          split at h<;>try (cases h;done)
          rename_i p l' h1 h2
          cases h
          simp [ih l' h2]
      rw [this rs l hl]
      intro e
      match rs,e with
      | [v],_=>exact hne v rfl
    refine ⟨.tuple us.toArray,?_,us,rfl,k2⟩
    rw [k1]
    simp only [Result.andThen_ok,Sem.run_pure]
    simp [hlen]
end
theorem inOk_spec {ren : Ren} : ∀ {l : List (Nat × Bool × OSh)},inOk ren l = true → ∀ p ∈ l,(∀ m,ren p.1 = some m → p.1 < 1000 → m = p.1) ∧ (ren p.1 = none → 1000 ≤ p.1)
  |(k,r)::l,h,p,hp=>by
    obtain ⟨h1,h2⟩:=Bool.and_eq_true_iff.1 h
    rcases List.mem_cons.1 hp with rfl|hp
    · refine ⟨fun m hm hk=>?_,fun hm=>?_⟩
      · simp only at hm hk
        rw [hm] at h1
        simp only at h1
        rw [if_pos (show Nat.blt k 1000=true from Nat.ble_eq_true_of_le hk)] at h1
        exact Nat.eq_of_beq_eq_true h1
      · simp only at hm ⊢
        rw [hm] at h1
        exact Nat.le_of_ble_eq_true h1
    · exact inOk_spec h2 p hp
section
variable {P:Program}
/--a function's form,as its contract asks it -/
structure FnOk (P:Program) (g:FuncId) (code:Code) (res:List ResultVar) (nt:Nat):Prop where
  ex : ∃ fn, P.funcs[g]? = some fn ∧ fn.body = some code ∧ fn.results.toList = res ∧ fn.ntmps = nt ∧ fn.name ≠ "runtime.NumGoroutine"
  wr:allBlt nt (writes code)=true
theorem FnOk.enters {g code res nt} (h:FnOk P g code res nt):Enters P g:=by
  obtain ⟨fn,h1,h2,_,_,h5⟩:=h.ex
  exact ⟨fn,h1,by rw [h2];rfl,h5⟩
variable {cx:Cx} {inl:Inl}
theorem body_ok (hcx:CxOk P cx) (hinl:InlOk P cx.pan inl) (hdr:DrawnOk P cx) {g:FuncId} {code:Code} {res:List ResultVar} {nt:Nat} (hfn:FnOk P g code res nt) {R:Type} {h:H} {st:St} {κ:St→Option R} {κp:Int→St→Option R} {r:R}
    (hev:evC cx inl R code h st (fun o=>match o with| .normal st=>κ st| .ret st=>κ st| .exit _ _=>none| .pan n st=>κp n st)=some r) (hres:∀st',κ st'=some r→∃s,resSlot cx st'.env st'.hp res=some s) {ρ ok w} {args:Array Value} (hH:RepH ρ ok w st.hp st.nx) (hE:RepE ρ ok w st.nx st.env args):
    Calls P g args w fun e w'=>(∃v st' ρ' ok' D,e=.returned v∧κ st'=some r∧st'.dt=D++st.dt∧RepH ρ' ok' w' st'.hp st'.nx∧(∀s,resSlot cx st'.env st'.hp res=some s→SlotR ρ' ok' w' st'.nx s v)∧Goes ρ ok w st.hp st.nx D ρ' ok' w' st'.hp st'.nx)∨
      (∃n st' ρ' ok' D,e=.panicked (panE cx.pan n)∧κp n st'=some r∧st'.dt=D++st.dt∧RepH ρ' ok' w' st'.hp st'.nx∧Goes ρ ok w st.hp st.nx D ρ' ok' w' st'.hp st'.nx):=by
  obtain ⟨fn,h1,h2,h3,h4,h5⟩:=hfn.ex
  have fin:∀(st':St) (a':Act) (w':World),κ st'=some r→After st ρ ok w {tmps:=args++Array.replicate (fn.ntmps-args.size) undef,defers:=[]} (writes code) st' a' w'→
      a'.defers=[]∧∃v,(results fn a'.tmps).run P w'=.ok v w'∧((∃v_1 st' ρ' ok' D,Ending.returned v=.returned v_1∧κ st'=some r∧st'.dt=D++st.dt∧RepH ρ' ok' w' st'.hp st'.nx∧(∀s,resSlot cx st'.env st'.hp res=some s→SlotR ρ' ok' w' st'.nx s v_1)∧Goes ρ ok w st.hp st.nx D ρ' ok' w' st'.hp st'.nx)∨
      (∃n st' ρ' ok' D,Ending.returned v=.panicked (panE cx.pan n)∧κp n st'=some r∧st'.dt=D++st.dt∧RepH ρ' ok' w' st'.hp st'.nx∧Goes ρ ok w st.hp st.nx D ρ' ok' w' st'.hp st'.nx)):=by
    rintro st' a' w' hκ ⟨ρ',ok',D,g1,g2,g3,g4,g5⟩
    obtain ⟨s,hs⟩:=hres st' hκ
    obtain ⟨v,k1,k2⟩:=res_ok (P:=P) (fn:=fn) hcx.tab g2 g3 (s:=s) (by rw [h3];exact hs)
    exact ⟨g5.defers,v,k1,.inl ⟨v,st',ρ',ok',D,rfl,hκ,g1,g2,fun s' hs'=>by rw [hs] at hs';cases hs';exact k2,g4⟩⟩
  refine calls_of_wp h1 h2 (evC_ok hcx hinl hdr code R h st _ r hev ρ ok w _ hH ?_ ?_ _ ?_ ?_)
  · intro t s hs
    obtain ⟨v,k1,k2⟩:=hE t s hs
    refine ⟨v,?_,k2⟩
    rw [Array.getElem?_append_left (Array.getElem?_eq_some_iff.1 k1).1]
    exact k1
  · intro t ht
    have:=allBlt_iff.1 hfn.wr t ht
    simp only [Array.size_append,Array.size_replicate]
    omega
  · intro o e a' w' k1 k2 k3
    cases o with
    |normal st'=>
      cases k2
      exact fin st' a' w' k1 k3
    |ret st'=>
      cases k2
      exact fin st' a' w' k1 k3
    |exit id st'=>cases k1
    |pan n st'=>cases k2
  · rintro n st' a' w' k1 ⟨ρ',ok',D,g1,g2,g3,g4,g5⟩
    exact ⟨g5.defers,.inr ⟨n,st',ρ',ok',D,rfl,k1,g1,g2,g4⟩⟩
theorem fin_ok {cx : Cx} {res : List ResultVar} {si so : Sh} (hso : shBelow so = true) {x : TS si} {y : TS so} {st' : St} {ρ ok w ρ1 ok1 w'} {v : Value} {D : List Nat} (hκ : evF.fin cx res so st' = some y)
    (R1:RepH ρ1 ok1 w' st'.hp st'.nx) (S1:∀s,resSlot cx st'.env st'.hp res=some s→SlotR ρ1 ok1 w' st'.nx s v) (G:Goes ρ ok w (hpOut si id x) 1000 D ρ1 ok1 w' st'.hp st'.nx):
    ∃u ρ' ok',Ending.returned v=.returned u∧RepH ρ' ok' w' (hpOut so id y) so.nn∧RepE ρ' ok' w' so.nn (envOut so id y) #[u]∧Exits (hpOut si id x) ρ ok w (hpOut so id y) ρ' ok' w':=by
  unfold evF.fin at hκ
  split at hκ<;>try (cases hκ;done)
  rename_i sl hsl
  split at hκ<;>try (cases hκ;done)
  rename_i hin
  rw [←hsl] at hin hκ
  have hin:=inOk_spec hin
  have hE1:RepE ρ1 ok1 w' st'.nx (Lv.put (fun _=>none) 0 (resSlot cx st'.env st'.hp res)) #[v]:=by
    intro t s hs
    simp only [Lv.put] at hs
    split at hs
    · rename_i ht
      have:=Nat.eq_of_beq_eq_true ht
      subst this
      exact ⟨v,rfl,S1 s hs⟩
    · cases hs
  generalize hen:Lv.put (fun _=>none) 0 (resSlot cx st'.env st'.hp res)=env1 at hE1 hκ hin
  have hf0:NameF id 0 so.nn (renOf so env1 st'.hp):=fun l _=> .inl (by simp)
  obtain ⟨t1,t2,t3⟩:=retake R1 hE1 hso hκ (f:=id) (nx0:=0) hf0 (H0:=fun _=>none) (fun q o h=>by cases h) (E0:=fun _=>none) (fun t s h=>by cases h)
  have hρ:∀q,reρ ρ1 0 (renOf so env1 st'.hp) q=match renOf so env1 st'.hp q with|some m=>ρ1 m|none=> .slice none 0 0:=fun q=>by unfold reρ;rw [if_neg (by omega)];rfl
  refine ⟨v,_,_,rfl,t1.more (by simp),t2.more (by simp),⟨G.os,G.tape,G.output,G.size,?_,fun b hb=> .inl (G.okm b hb),?_,?_,?_⟩⟩
  · intro b hb hne
    exact G.same b hb fun l _ _ o ho hw=>hne l o ho hw
  · rintro b (hb|⟨l,hl,hb⟩)
    · rcases G.okn b hb with k|k|⟨l,_,_,o,ho,hw,hbl⟩
      · exact .inl k
      · exact .inr (.inl k)
      · exact .inr (.inr ⟨l,o,ho,hw,hbl⟩)
    · rcases frz_at (frzSh_list so env1 st'.hp) l with ⟨_,e,t,xs,k1,_⟩|⟨k1,_⟩
      · by_cases hlt:l<1000
        · obtain ⟨p,g1,g2⟩:=G.stay l hlt _ k1
          rw [G.rho l hlt] at hb
          exact .inr (.inr ⟨l,p,g1,g2 rfl,hb⟩)
        · rcases G.nb l _ b (by omega) k1 rfl hb with g|⟨m,_,_,p,g1,g2,g3⟩
          · exact .inr (.inl g)
          · exact .inr (.inr ⟨m,p,g1,g2,g3⟩)
      · exact absurd hl k1
  · intro l o ho hlt
    rcases t3 l o ho with ⟨p,hp1,hp2,hp3,hp4⟩|⟨hp1,_⟩
    · have hp2:l=p.1:=hp2
      subst hp2
      obtain ⟨i1,i2⟩:=hin p hp1
      rcases hp4.src with ⟨m,q,g1,g2,g3⟩|g1
      · have:=i1 m g1 hlt
        subst this
        obtain ⟨s,k1,k2⟩:=G.stay _ hlt q g2
        refine ⟨?_,s,k1,fun _=>k2 g3⟩
        rw [hρ,g1]
        exact G.rho _ hlt
      · have:=i2 g1;omega
    · cases hp1
  · intro l o b ho hge hw hb
    rcases t3 l o ho with ⟨p,hp1,hp2,hp3,hp4⟩|⟨hp1,_⟩
    · have hp2:l=p.1:=hp2
      subst hp2
      obtain ⟨i1,i2⟩:=hin p hp1
      rcases hp4.src with ⟨m,q,g1,g2,g3⟩|g1
      · rw [hρ,g1] at hb
        by_cases hm:m<1000
        · obtain ⟨s,k1,k2⟩:=G.stay m hm q g2
          have hb:blk (ρ1 m)=some b:=hb
          rw [G.rho m hm] at hb
          exact .inr ⟨m,s,k1,k2 g3,hb⟩
        · rcases G.nb m q b (by simpa using hm) g2 g3 hb with k|⟨m',_,_,s,k1,k2,k3⟩
          · exact .inl k
          · exact .inr ⟨m',s,k1,k2,k3⟩
      · rw [hρ,g1] at hb;cases hb
    · cases hp1
theorem fin_res {cx:Cx} {res:List ResultVar} {so:Sh} {y:TS so} {st':St} (h:evF.fin cx res so st'=some y):∃s,resSlot cx st'.env st'.hp res=some s:=by
  unfold evF.fin at h
  split at h
  · exact ⟨_,by assumption⟩
  · cases h
theorem evF_ok (hcx:CxOk P cx) (hinl:InlOk P cx.pan inl) (hdr:DrawnOk P cx) {g:FuncId} {code:Code} {res:List ResultVar} {nt:Nat} (hfn:FnOk P g code res nt) (h:H) {n:Nat} {si so:Sh} (hso:shBelow so=true)
    {F:TS si→Option (TS so)} (hF:∀x y,F x=some y→evF cx inl code res h si so x=some y):SpecOk P g ⟨n,si,so,F⟩:=by
  intro x y hxy ρ ok w args _ hH hE
  have hev:=hF x y hxy
  unfold evF at hev
  refine (body_ok hcx hinl hdr hfn (st:=⟨envOut si id x,hpOut si id x,1000,[]⟩) (κ:=evF.fin cx res so) (κp:=fun _ _=>none) hev (fun st' h=>fin_res h) hH hE).mono ?_
  rintro e w' (⟨v,st',ρ1,ok1,D,rfl,hκ,hD,R1,S1,G⟩|⟨n,_,_,_,_,_,hn,_⟩)
  · exact fin_ok hso hκ R1 S1 G
  · cases hn
theorem evFP_ok (hcx:CxOk P cx) (hinl:InlOk P cx.pan inl) (hdr:DrawnOk P cx) {g:FuncId} {code:Code} {res:List ResultVar} {nt:Nat} (hfn:FnOk P g code res nt) (h:H) {n:Nat} {si so:Sh} (hso:shBelow so=true)
    {F:TS si→Option (TS so⊕Int)} (hF:∀x y,F x=some y→evFP cx inl code res h si so x=some y):SpecPOk P g cx.pan ⟨n,si,so,F⟩:=by
  intro x z hxz ρ ok w args _ hH hE
  have hev:=hF x z hxz
  unfold evFP at hev
  refine (body_ok hcx hinl hdr hfn (st:=⟨envOut si id x,hpOut si id x,1000,[]⟩) (κ:=evFP.finP cx res so) (κp:=fun n _=>some (.inr n)) hev (fun st' h=>by
    unfold evFP.finP at h
    split at h
    · rename_i y hy;exact fin_res hy
    · cases h) hH hE).mono ?_
  rintro e w' (⟨v,st',ρ1,ok1,D,rfl,hκ,hD,R1,S1,G⟩|⟨n,st',ρ1,ok1,D,rfl,hn,hD,R1,G⟩)
  · unfold evFP.finP at hκ
    split at hκ
    · rename_i y hy
      cases hκ
      exact fin_ok hso hy R1 S1 G
    · cases hκ
  · cases hn
    exact ⟨rfl,G.pan (PanW.refl _ _ _)⟩
theorem inlS_ok (hcx:CxOk P cx) (hinl:InlOk P cx.pan inl) (hdr:DrawnOk P cx) {fn:Nat→List (Option Slot)→Heap→Option (Code×List ResultVar×H)} (hfn:∀g as hp code res h,fn g as hp=some (code,res,h)→∃nt,FnOk P g code res nt):InlOk P cx.pan (inlS cx fn inl):=by
  intro R g args hp nx dt κ κp r h
  unfold inlS at h
  split at h<;>try (cases h;done)
  rename_i code res hh hg
  obtain ⟨nt,hF⟩:=hfn g _ _ code res hh hg
  refine ⟨hF.enters,fun ρ ok w vals hH hE=>?_⟩
  refine (body_ok hcx hinl hdr hF (st:=⟨argEnv args,hp,nx,dt⟩) (κ:=fun st=>match resSlot cx st.env st.hp res with|some s=>κ (some s) st.hp st.nx st.dt|none=>none) (κp:=fun n st=>κp n st.hp st.nx st.dt) h (fun st' h=>by
    split at h<;>first|exact ⟨_,by assumption⟩|cases h) hH hE).mono ?_
  rintro e w' (⟨v,st',ρ1,ok1,D,rfl,hκ,hD,R1,S1,G⟩|⟨n,st',ρ1,ok1,D,rfl,hn,hD,R1,G⟩)
  · split at hκ<;>try (cases hκ;done)
    rename_i s hs
    exact .inl ⟨v,some s,_,_,_,D,ρ1,ok1,rfl,hκ,hD,R1,fun x hx=>by cases hx;exact S1 _ hs,G⟩
  · exact .inr ⟨n,_,_,_,D,ρ1,ok1,rfl,hn,hD,R1,G⟩
end
end Lv
end
section
namespace Lv
variable [HasG]
open Go Go.RowKit
/-! ## '==' of structs -/
section
variable (P:Program) (tab:Nat→Option TI)
def fieldB (rec:TypeId→Ty→Bool) (f:Field) (off:Nat) (ty:Ty):Bool:=
  !(f.name == "_") && (Nat.beq f.offset off && ((match tab f.type with | some i => Nat.beq i.size ty.n | none => false) && rec f.type ty))
def eqFsB (rec:TypeId→Ty→Bool):List Field→Nat→Ty→Bool
  | [f],off,ty=>fieldB tab rec f off ty
  |f::g::r,off,.pair a b=>fieldB tab rec f off a&&eqFsB rec (g::r) (off+a.n) b
  |_,_,_=>false
def elB (e:Nat) (n:Nat):Bool:=match tab e with|some i=>Nat.beq i.size n|none=>false
def eqArB (rec:TypeId→Ty→Bool) (e:Nat):Nat→Ty→Bool
  |1,ty=>elB tab e ty.n&&rec e ty
  |n+2,.pair a b=>(elB tab e a.n&&rec e a)&&eqArB rec e (n+1) b
  |_,_=>false
def eqB : Nat → TypeId → Ty → Bool
  |0,_,_=>false
  |d+1,t,ty=>match P.underlying t with
    |some .bool=>ty.b .bool
    |some (.int _)=>(match ty with| .int _=>true|_=>false)
    |some .string=>ty.b .str
    |some (.struct fs)=> !P.stoodInHeld t&&eqFsB tab (eqB d) fs.toList 0 ty
    |some (.array n e)=>eqArB tab (eqB d) e n ty
    |_=>false
end
section
variable {P:Program} {tab:Nat→Option TI}
def valAt (P:Program) (t:TypeId) (vs:List Value):Value:=match P.underlying t with
  |some (.struct _)=> .agg vs.toArray
  |some (.array _ _)=> .agg vs.toArray
  |_=>vs.getD 0 undef
theorem part_run (hT : TabOk P tab) {w : World} {t : TypeId} {i : TI} (hi : tab t = some i) {pre vs rest : List Value} (hl : vs.length = i.size) (hu : (∃ fs,P.underlying t = some (.struct fs)) ∨ (∃ n e,P.underlying t = some (.array n e)) ∨ P.underlying t = some .bool ∨ (∃ k,P.underlying t = some (.int k)) ∨ P.underlying t = some .string) :
    (part t (pre++vs++rest).toArray pre.length).run P w=.ok (valAt P t vs) w:=by
  have hTI:=hT t i hi
  have hagg:=run_agg w hTI
  have hsz:=run_sz w hTI
  have scalar:i.agg=false→(∀fs,P.underlying t≠some (.struct fs))→(∀n e,P.underlying t≠some (.array n e))→(part t (pre++vs++rest).toArray pre.length).run P w=.ok (valAt P t vs) w:=by
    intro ha hn hn'
    have h1:i.size=1:=hTI.one.resolve_left (by simp [ha])
    rw [h1] at hl
    match vs,hl with
    | [v],_=>
      have hg:((pre++ [v]++rest).toArray)[pre.length]?=some v:=by simp
      have hv:valAt P t [v]=v:=by
        unfold valAt
        split
        · rename_i fs h;exact absurd h (hn fs)
        · rename_i n e h;exact absurd h (hn' n e)
        · rfl
      unfold part
      simp only [Sem.run_bind,hagg,ha,Result.andThen_ok,Bool.false_eq_true,if_false,hg,hv,Sem.run_pure]
  obtain ⟨info,d,z,_,h2,h3,_⟩:=hTI.ex
  have hd:i.agg=aggD d:=kindB_agg h3
  have aggr:i.agg=true→valAt P t vs=.agg vs.toArray→(part t (pre++vs++rest).toArray pre.length).run P w=.ok (valAt P t vs) w:=by
    intro ha hv
    unfold part
    simp only [Sem.run_bind,hagg,ha,Result.andThen_ok,if_true,hsz,Sem.run_pure,hv]
    congr 2
    rw [←hl]
    apply Array.toList_inj.1
    simp [List.extract_eq_take_drop,List.drop_append_of_le_length,List.append_assoc]
  rcases hu with ⟨fs,h⟩|⟨n,e,h⟩|h|⟨k,h⟩|h
  · rw [h] at h2;cases h2
    exact aggr hd (by unfold valAt;rw [h])
  · rw [h] at h2;cases h2
    exact aggr hd (by unfold valAt;rw [h])
  · rw [h] at h2;cases h2
    exact scalar hd (fun fs e=>by rw [h] at e;cases e) fun n f e=>by rw [h] at e;cases e
  · rw [h] at h2;cases h2
    exact scalar hd (fun fs e=>by rw [h] at e;cases e) fun n f e=>by rw [h] at e;cases e
  · rw [h] at h2;cases h2
    exact scalar hd (fun fs e=>by rw [h] at e;cases e) fun n f e=>by rw [h] at e;cases e
theorem eqB_under {d:Nat} {t:TypeId} {ty:Ty} (h:eqB P tab d t ty=true):(∃fs,P.underlying t=some (.struct fs))∨(∃n e,P.underlying t=some (.array n e))∨P.underlying t=some .bool∨(∃k,P.underlying t=some (.int k))∨P.underlying t=some .string:=by
  cases d with
  |zero=>cases h
  |succ d=>
    simp only [eqB] at h
    split at h
    · rename_i h';exact .inr (.inr (.inl h'))
    · rename_i k h';exact .inr (.inr (.inr (.inl ⟨k,h'⟩)))
    · rename_i h';exact .inr (.inr (.inr (.inr h')))
    · rename_i fs h';exact .inl ⟨fs,h'⟩
    · rename_i n e h';exact .inr (.inl ⟨n,e,h'⟩)
    · cases h
theorem eqB_ok (hT : TabOk P tab) {ok : Nat → Prop} {w : World} : ∀ (d : Nat) (t : TypeId) (ty : Ty),eqB P tab d t ty = true → ∀ (x y : ty.T) (vs us : List Value),K ok w ty x vs → K ok w ty y us → ∀ k,
    (Op.equalIn (d+k) t (valAt P t vs) (valAt P t us)).run P w=.ok (ty.eq x y) w:=by
  intro d
  induction d with
  |zero=>intro t ty h;cases h
  |succ d ih=>
    intro t ty h x y vs us hx hy k
    rw [show d+1+k=(d+k)+1 by omega]
    have field:∀(f:Field) (off:Nat) (a:Ty),fieldB tab (eqB P tab d) f off a=true→∀(x y:a.T) (pre pre' vs us rest rest':List Value),pre.length=off→pre'.length=off→K ok w a x vs→K ok w a y us→
        (f.name == "_") = false ∧ (part f.type (pre ++ vs ++ rest).toArray f.offset).run P w = .ok (valAt P f.type vs) w ∧ (part f.type (pre' ++ us ++ rest').toArray f.offset).run P w = .ok (valAt P f.type us) w ∧
          (Op.equalIn (d+k) f.type (valAt P f.type vs) (valAt P f.type us)).run P w=.ok (a.eq x y) w:=by
      intro f off a hf x y pre pre' vs us rest rest' h1 h2 hx hy
      simp only [fieldB,Bool.and_eq_true] at hf
      obtain ⟨g1,g2,g3,g4⟩:=hf
      have g2:=Nat.eq_of_beq_eq_true g2
      split at g3
      · rename_i i hi
        have g3:=Nat.eq_of_beq_eq_true g3
        have hu:=eqB_under g4
        refine ⟨by simpa using g1,?_,?_,ih f.type a g4 x y vs us hx hy k⟩
        · rw [g2,←h1];exact part_run hT hi (by rw [K_len hx,g3]) hu
        · rw [g2,←h2];exact part_run hT hi (by rw [K_len hy,g3]) hu
      · cases g3
    have fields:∀(fs:List Field) (off:Nat) (a:Ty),eqFsB tab (eqB P tab d) fs off a=true→∀(x y:a.T) (pre pre' vs us:List Value),pre.length=off→pre'.length=off→K ok w a x vs→K ok w a y us→
        (Op.eqFields (d+k) (pre++vs).toArray (pre'++us).toArray fs).run P w=.ok (a.eq x y) w:=by
      intro fs
      induction fs with
      |nil=>intro off a hf;simp [eqFsB] at hf
      |cons f r ihr=>
        intro off a hf x y pre pre' vs us h1 h2 hx hy
        cases r with
        |nil=>
          simp only [eqFsB] at hf
          obtain ⟨g1,g2,g3,g4⟩:=field f off a hf x y pre pre' vs us [] [] h1 h2 hx hy
          rw [List.append_nil] at g2 g3
          have hn' : f.name ≠ "_" := by simpa using g1
          simp only [Op.eqFields,if_pos hn',Sem.run_bind,g2,g3,g4,Result.andThen_ok]
          cases a.eq x y<;>simp
        |cons g r=>
          cases a with
          |pair a b=>
            simp only [eqFsB,Bool.and_eq_true] at hf
            obtain ⟨c,e,rfl,hc,he⟩:=hx
            obtain ⟨c',e',rfl,hc',he'⟩:=hy
            obtain ⟨g1,g2,g3,g4⟩:=field f off a hf.1 x.1 y.1 pre pre' c c' e e' h1 h2 hc hc'
            have hr:=ihr (off+a.n) b hf.2 x.2 y.2 (pre++c) (pre'++c') e e' (by rw [List.length_append,h1,K_len hc]) (by rw [List.length_append,h2,K_len hc']) he he'
            have hn' : f.name ≠ "_" := by simpa using g1
            rw [←List.append_assoc,←List.append_assoc,Op.eqFields]
            simp only [if_pos hn',Sem.run_bind,g2,g3,g4,Result.andThen_ok]
            show _=Result.ok (a.eq x.1 y.1&&b.eq x.2 y.2) w
            cases a.eq x.1 y.1
            · simp
            · simpa using hr
          |_=>simp [eqFsB] at hf
    have items:∀(e:Nat) (n:Nat) (a:Ty),eqArB tab (eqB P tab d) e n a=true→∀(x y:a.T) (c:Nat) (pre pre' vs us:List Value),pre.length=c*P.cellsOf e→pre'.length=c*P.cellsOf e→K ok w a x vs→K ok w a y us→
        (Op.eqItems (d+k) e (P.cellsOf e) (pre++vs).toArray (pre'++us).toArray (List.range' c n)).run P w=.ok (a.eq x y) w:=by
      intro e n
      have one:∀{a:Ty},(elB tab e a.n&&eqB P tab d e a)=true→∀(x y:a.T) (c:Nat) (pre pre' vs us rest rest':List Value),pre.length=c*P.cellsOf e→pre'.length=c*P.cellsOf e→K ok w a x vs→K ok w a y us→
          (part e (pre++vs++rest).toArray (c*P.cellsOf e)).run P w=.ok (valAt P e vs) w∧(part e (pre'++us++rest').toArray (c*P.cellsOf e)).run P w=.ok (valAt P e us) w∧a.n=P.cellsOf e∧
            (Op.equalIn (d+k) e (valAt P e vs) (valAt P e us)).run P w=.ok (a.eq x y) w:=by
        intro a h x y c pre pre' vs us rest rest' h1 h2 hx hy
        obtain ⟨g1,g2⟩:=Bool.and_eq_true_iff.1 h
        unfold elB at g1
        split at g1
        · rename_i i hi
          have g1:=Nat.eq_of_beq_eq_true g1
          have hu:=eqB_under g2
          refine ⟨?_,?_,by rw [cellsOf_sz (hT e i hi),g1],ih e a g2 x y vs us hx hy k⟩
          · rw [←h1];exact part_run hT hi (by rw [K_len hx,g1]) hu
          · rw [←h2];exact part_run hT hi (by rw [K_len hy,g1]) hu
        · cases g1
      induction n with
      |zero=>intro a h;simp [eqArB] at h
      |succ n ihn=>
        intro a h x y c pre pre' vs us h1 h2 hx hy
        cases n with
        |zero=>
          obtain ⟨g2,g3,_,g4⟩:=one (a:=a) h x y c pre pre' vs us [] [] h1 h2 hx hy
          rw [List.append_nil] at g2 g3
          show (Op.eqItems (d+k) e (P.cellsOf e) (pre++vs).toArray (pre'++us).toArray [c]).run P w=_
          rw [Op.eqItems]
          simp only [Sem.run_bind,g2,g3,g4,Result.andThen_ok]
          cases a.eq x y<;>rfl
        |succ n=>
          cases a with
          |pair a b=>
            obtain ⟨q1,q2⟩:=Bool.and_eq_true_iff.1 h
            obtain ⟨c',e',rfl,hc,he⟩:=hx
            obtain ⟨c'',e'',rfl,hc',he'⟩:=hy
            obtain ⟨g2,g3,g5,g4⟩:=one q1 x.1 y.1 c pre pre' c' c'' e' e'' h1 h2 hc hc'
            have hr:=ihn b q2 x.2 y.2 (c+1) (pre++c') (pre'++c'') e' e'' (by rw [List.length_append,h1,K_len hc,g5,Nat.add_mul,Nat.one_mul]) (by rw [List.length_append,h2,K_len hc',g5,Nat.add_mul,Nat.one_mul]) he he'
            rw [←List.append_assoc,←List.append_assoc,List.range'_succ,Op.eqItems]
            simp only [Sem.run_bind,g2,g3,g4,Result.andThen_ok]
            show _=Result.ok (a.eq x.1 y.1&&b.eq x.2 y.2) w
            cases a.eq x.1 y.1
            · simp
            · simpa using hr
          |_=>simp [eqArB] at h
    simp only [eqB] at h
    split at h
    · rename_i hu
      obtain rfl:=Ty.b_eq h
      cases hx;cases hy
      simp only [valAt,hu,List.getD_cons_zero]
      exact equalIn_bool (d+k) hu x y
    · rename_i kk hu
      split at h
      · rename_i k2
        cases hx;cases hy
        simp only [valAt,hu,List.getD_cons_zero]
        simp only [Op.equalIn,Sem.run_bind,run_underlying hu,Result.andThen_ok,Sem.run_pure,if_true]
        rfl
      · cases h
    · rename_i hu
      obtain rfl:=Ty.b_eq h
      cases hx;cases hy
      simp only [valAt,hu,List.getD_cons_zero]
      simp only [Op.equalIn,Sem.run_bind,run_underlying hu,Result.andThen_ok,Sem.run_pure]
      rfl
    · rename_i fs hu
      simp only [Bool.and_eq_true,Bool.not_eq_true'] at h
      have hv:∀l,valAt P t l=.agg l.toArray:=fun l=>by unfold valAt;rw [hu]
      have hf:P.fieldsOf t=fs:=by simp [Program.fieldsOf,hu]
      rw [hv,hv,run_equalIn_struct (P:=P) w (d+k) t _ _ (by rw [hf];exact hu) h.1,hf]
      have:=fields fs.toList 0 ty h.2 x y [] [] vs us rfl rfl hx hy
      simpa using this
    · rename_i n e hu
      have hv:∀l,valAt P t l=.agg l.toArray:=fun l=>by unfold valAt;rw [hu]
      have hi:∃i,P.info? e=some i:=by
        have:∃i,tab e=some i:=by
          have el:∀m,elB tab e m=true→∃i,tab e=some i:=fun m hm=>by
            unfold elB at hm
            split at hm
            · exact ⟨_,by assumption⟩
            · cases hm
          match n,ty,h with
          |1,ty,h=>exact el _ (Bool.and_eq_true_iff.1 h).1
          |n+2,.pair a b,h=>exact el _ (Bool.and_eq_true_iff.1 (Bool.and_eq_true_iff.1 h).1).1
        obtain ⟨i,hi⟩:=this
        obtain ⟨info,_,h1,_⟩:=(hT e i hi).info
        exact ⟨info,h1⟩
      obtain ⟨i,hi⟩:=hi
      rw [hv,hv,run_equalIn_array (P:=P) w (d+k) _ _ hu hi,List.range_eq_range']
      have:=items e n ty h x y 0 [] [] vs us (by simp) (by simp) hx hy
      simpa using this
    · cases h
def eqAt:List (Nat×Ty)→Nat→Option Ty
  | [],_=>none
  |(u,ty)::r,t=>if Nat.beq u t=true then some ty else eqAt r t
def eqsB (P:Program) (tab:Nat→Option TI):List (Nat×Ty)→Bool
  | []=>true
  |(t,ty)::r=>(eqB P tab 50 t ty&&((match P.underlying t with|some (.struct _)=>true|some (.array _ _)=>true|_=>false)&& !P.eqGuardType P.depth t))&&eqsB P tab r
theorem eqAt_mem:∀{l:List (Nat×Ty)} {t:Nat} {ty:Ty},eqAt l t=some ty→(t,ty)∈l
  |(u,v)::r,t,ty,h=>by
    unfold eqAt at h
    split at h
    · rename_i e;cases h;rw [Nat.eq_of_beq_eq_true e];exact List.mem_cons_self
    · exact List.mem_cons_of_mem _ (eqAt_mem h)
theorem eqsB_mem:∀{l:List (Nat×Ty)},eqsB P tab l=true→∀p∈l,eqB P tab 50 p.1 p.2=true∧(∀l,valAt P p.1 l=.agg l.toArray)∧P.eqGuardType P.depth p.1=false
  |(t,ty)::r,h,p,hp=>by
    obtain ⟨h1,h2⟩:=Bool.and_eq_true_iff.1 h
    rcases List.mem_cons.1 hp with rfl|hp
    · simp only [Bool.and_eq_true,Bool.not_eq_true'] at h1
      obtain ⟨a,b,c⟩:=h1
      refine ⟨a,fun l=>?_,c⟩
      unfold valAt
      split at b
      · rename_i fs e;rw [e]
      · rename_i fs f e;rw [e]
      · cases b
    · exact eqsB_mem h2 p hp
theorem eqOk_of (hT:TabOk P tab) {l:List (Nat×Ty)} (h:eqsB P tab l=true):EqOk P (eqAt l):=by
  intro t ty ht op X Y ok w x y vs us hx hy hop
  obtain ⟨h1,hv,h3⟩:=eqsB_mem h _ (eqAt_mem ht)
  have he:=eqB_ok hT 50 t ty h1 x y vs us hx hy 9950
  rw [hv,hv] at he
  have he:(Op.equal t (.agg vs.toArray) (.agg us.toArray)).run P w=.ok (ty.eq x y) w:=he
  have hg:(eqGuard op t X Y (.agg vs.toArray) (.agg us.toArray)).run P w=.ok () w:=by
    cases op<;>simp [eqGuard,run_program,h3]
  refine ⟨?_,he⟩
  simp only [Sem.run_bind,hg,Result.andThen_ok]
  rcases hop with rfl|rfl
  · simp only [Go.binOp,Sem.run_bind,he,Result.andThen_ok,Sem.run_pure]
  · simp only [Go.binOp,Sem.run_bind,he,Result.andThen_ok,Sem.run_pure]
end
/-! ## Contracts in a table -/
/--what an argument must be:that function;an own array -/
inductive AK where
  |fn (f:Nat)|own
def akOk (hp:Heap) (s:Option Slot):AK→Bool
  | .fn f=>match s with|some (.v false [.val (.func (.func g) ⟨[]⟩ ⟨[]⟩)])=>Nat.beq f g|_=>false
  | .own=>match s with|some (.v false [.ref l])=>(match hp l with|some (.arr _ _ _)=>true|_=>false)|_=>false
def akAll (hp:Heap) (as:List (Option Slot)):List (Nat×AK)→Bool
  | []=>true
  |(i,k)::r=>akOk hp (as.getD i none) k&&akAll hp as r
/--is an argument that closure? -/
def cloK (as:List (Option Slot)) (hp:Heap) (i f:Nat):Bool:=match as.getD i none with
  |some (.v false [.ref l])=>(match hp l with|some (.clo g _ _)=>Nat.beq g f|_=>false)
  |_=>false
def specAt:List (Nat×List (Nat×AK)×Spec)→Nat→List (Option Slot)→Heap→Option Spec
  | [],_,_,_=>none
  |(g,k,s)::r,n,as,hp=>if Nat.beq g n=true then (if akAll hp as k=true then some s else specAt r n as hp) else specAt r n as hp
def specPAt:List (Nat×List (Nat×AK)×SpecP)→Nat→List (Option Slot)→Heap→Option SpecP
  | [],_,_,_=>none
  |(g,k,s)::r,n,as,hp=>if Nat.beq g n=true then (if akAll hp as k=true then some s else specPAt r n as hp) else specPAt r n as hp
section
variable {P:Program} {tab:Nat→Option TI} {eqs:Nat→Option Ty} {pan:Nat}
theorem CxOk.nilP (hT:TabOk P tab) (hE:EqOk P eqs):CxOk P ⟨tab,eqs,specAt [],pan,specPAt []⟩:=⟨hT,hE,(fun g as hp sp h=>by cases h),(fun g as hp sp h=>by cases h)⟩
theorem specAt_cons {Q:Nat→Spec→Prop} {l:List (Nat×List (Nat×AK)×Spec)} (h:∀n as hp s,specAt l n as hp=some s→Q n s) {g:Nat} {k:List (Nat×AK)} {sp:Spec} (hg:Q g sp):∀n as hp s,specAt ((g,k,sp)::l) n as hp=some s→Q n s:=by
  intro n as hp s hh
  unfold specAt at hh
  split at hh
  · rename_i e
    split at hh
    · cases hh
      rw [←Nat.eq_of_beq_eq_true e]
      exact hg
    · exact h n as hp s hh
  · exact h n as hp s hh
theorem specPAt_cons {Q:Nat→SpecP→Prop} {l:List (Nat×List (Nat×AK)×SpecP)} (h:∀n as hp s,specPAt l n as hp=some s→Q n s) {g:Nat} {k:List (Nat×AK)} {sp:SpecP} (hg:Q g sp):∀n as hp s,specPAt ((g,k,sp)::l) n as hp=some s→Q n s:=by
  intro n as hp s hh
  unfold specPAt at hh
  split at hh
  · rename_i e
    split at hh
    · cases hh
      rw [←Nat.eq_of_beq_eq_true e]
      exact hg
    · exact h n as hp s hh
  · exact h n as hp s hh
theorem CxOk.consS {l:List (Nat×List (Nat×AK)×Spec)} {lp:List (Nat×List (Nat×AK)×SpecP)} (h:CxOk P ⟨tab,eqs,specAt l,pan,specPAt lp⟩) {g:Nat} (k:List (Nat×AK)) {sp:Spec} (hg:Enters P g) (hs:SpecOk P g sp):CxOk P ⟨tab,eqs,specAt ((g,k,sp)::l),pan,specPAt lp⟩:=
  ⟨h.tab,h.eqs,specAt_cons h.spec ⟨hg,hs⟩,h.specP⟩
theorem CxOk.consP {l:List (Nat×List (Nat×AK)×Spec)} {lp:List (Nat×List (Nat×AK)×SpecP)} (h:CxOk P ⟨tab,eqs,specAt l,pan,specPAt lp⟩) {g:Nat} (k:List (Nat×AK)) {sp:SpecP} (hg:Enters P g) (hs:SpecPOk P g pan sp):CxOk P ⟨tab,eqs,specAt l,pan,specPAt ((g,k,sp)::lp)⟩:=
  ⟨h.tab,h.eqs,h.spec,specPAt_cons h.specP ⟨hg,hs⟩⟩
theorem CxOk.nil (hT:TabOk P tab) (hE:EqOk P eqs):CxOk P (cx3 tab eqs (specAt [])):=⟨hT,hE,(fun g as hp sp h=>by cases h),(fun g as hp sp h=>by cases h)⟩
theorem CxOk.cons {l:List (Nat×List (Nat×AK)×Spec)} (h:CxOk P (cx3 tab eqs (specAt l))) {g:Nat} (k:List (Nat×AK)) {sp:Spec} (hg:Enters P g) (hs:SpecOk P g sp):CxOk P (cx3 tab eqs (specAt ((g,k,sp)::l))):=
  ⟨h.tab,h.eqs,specAt_cons h.spec ⟨hg,hs⟩,h.specP⟩
theorem fnOk_mk {g : FuncId} {fn : Func} (h1 : P.funcs[g]? = some fn) (h2 : fn.body.isSome = true) (h3 : (fn.name == "runtime.NumGoroutine") = false) (h4 : allBlt fn.ntmps (writes (fn.body.getD .skip)) = true) :
    FnOk P g (fn.body.getD .skip) fn.results.toList fn.ntmps:=by
  refine ⟨⟨fn,h1,?_,rfl,rfl,by simpa using h3⟩,h4⟩
  cases hb:fn.body with
  |none=>rw [hb] at h2;cases h2
  |some c=>rfl
/--a function that the kernel does not look into -/
inductive Key:Bool→Type where
  |mk:Key true
class Lk where
  k:Key true
def stkK {α:Type} (x:α):{b:Bool}→Key b→α
  |_,.mk=>x
def stk [Lk] {α:Type} (x:α):α:=stkK x Lk.k
theorem stk_eq [Lk] {α:Type} (x:α):stk x=x:=by
  unfold stk
  generalize Lk.k=k
  cases k
  rfl
/--a function walked -/
theorem fn_ok {cx:Cx} (hcx:CxOk P cx) {inl:Inl} (hinl:InlOk P cx.pan inl) (hm:P.follows .mixedOrders=true) {g:FuncId} {code:Code} {res:List ResultVar} {nt:Nat} (hfn:FnOk P g code res nt) (h:H) {n:Nat} {si so:Sh} (hso:shBelow so=true)
    {F:TS si→Option (TS so)} (hev:∀x,evF cx inl code res h si so x=F x):SpecOk P g ⟨n,si,so,F⟩:=
  evF_ok hcx hinl (drawnOk hcx hm) hfn h hso fun x y hx=>by rw [hev];exact hx
theorem fn_stk [Lk] {cx:Cx} (hcx:CxOk P cx) {inl:Inl} (hinl:InlOk P cx.pan inl) (hm:P.follows .mixedOrders=true) {g:FuncId} {code:Code} {res:List ResultVar} {nt:Nat} (hfn:FnOk P g code res nt) (h:H) {n:Nat} {si so:Sh} (hso:shBelow so=true)
    {F:TS si→Option (TS so)} (hev:∀x,evF cx inl code res h si so x=F x):SpecOk P g ⟨n,si,so,stk F⟩:=by
  rw [stk_eq]
  exact fn_ok hcx hinl hm hfn h hso hev
theorem fnP_stk [Lk] {cx:Cx} (hcx:CxOk P cx) {inl:Inl} (hinl:InlOk P cx.pan inl) (hm:P.follows .mixedOrders=true) {g:FuncId} {code:Code} {res:List ResultVar} {nt:Nat} (hfn:FnOk P g code res nt) (h:H) {n:Nat} {si so:Sh} (hso:shBelow so=true)
    {F:TS si→Option (TS so⊕Int)} (hev:∀x,evFP cx inl code res h si so x=F x):SpecPOk P g cx.pan ⟨n,si,so,stk F⟩:=by
  rw [stk_eq]
  exact evFP_ok hcx hinl (drawnOk hcx hm) hfn h hso fun x y hx=>by rw [hev];exact hx
end
end Lv
end
section
namespace Lv
variable [HasG]
open Go Go.RowKit Go.ChangeShapes Go.WideShapes Go.Deep
/-! ## Arguments as data -/
section
variable (P:Program)
def rdF (rec:TypeId→Ty→Bool) (f:Field) (off:Nat) (ty:Ty):Bool:=Nat.beq f.offset off&&(Nat.beq (P.cellsOf f.type) ty.n&&rec f.type ty)
def rdFs (rec:TypeId→Ty→Bool):List Field→Nat→Ty→Bool
  | [f],off,ty=>rdF P rec f off ty
  |f::g::r,off,.pair a b=>rdF P rec f off a&&rdFs rec (g::r) (off+a.n) b
  | [],_,.unit=>true
  |_,_,_=>false
/--an array's elements as fields -/
def vfs (n:Nat) (e:TypeId):List Field:=(List.range n).map fun i=>{(default:Field) with type:=e,offset:=i*P.cellsOf e}
def rdB : Nat → TypeId → Ty → Bool
  |0,_,_=>false
  |d+1,t,ty=>match P.underlying t with
    |some .bool=>ty.b .bool
    |some (.int k)=>ty.b (.int k)
    |some .string=>ty.b .str
    |some (.slice e)=>(match ty with| .sl f u=>Nat.beq e f&&(Nat.beq (P.cellsOf e) u.n&&(Nat.ble 1 u.n&&rdB d e u))|_=>false)
    |some (.struct fs)=>Nat.beq (P.cellsOf t) ty.n&&rdFs (P:=P) (rdB d) fs.toList 0 ty
    |some (.array n e)=>Nat.beq (P.cellsOf t) ty.n&&rdFs (P:=P) (rdB d) (vfs (P:=P) n e) 0 ty
    |_=>false
/--what is known of data that came in -/
def In:(t:Ty)→t.T→Prop
  | .int k,x=>(Lit.int k x).wf=true
  | .bool,_=>True
  | .str,x=>x.size≤reachBytes
  | .val,_=>True
  | .unit,_=>True
  | .pair a b,x=>In a x.1∧In b x.2
  | .sl e t,xs=>xs.length*P.bytesOf e≤reachBytes∧∀x∈xs,In t x
end
section
variable {P:Program} {H:Type} {enc:TypeId×Value→H} {w:World}
instance tInhabited {t:Ty}:Inhabited t.T:=⟨t.z⟩
theorem weightsAll_mem {e:TypeId}:∀{l:List (DataW H)},(DataW.weightsAll P e l).all (· ≤reachBytes)=true→∀d∈l,(d.weights P e).all (· ≤reachBytes)=true
  |a::r,h,d,hd=>by
    rw [DataW.weightsAll,List.all_append,Bool.and_eq_true] at h
    rcases List.mem_cons.1 hd with rfl|hd
    · exact h.1
    · exact weightsAll_mem h.2 d hd
theorem rdFs_ok {rec : TypeId → Ty → Bool} (hrec : ∀ t ty,rec t ty = true → ∀ fuel cs x,DataW.trod enc P w 0 (fun _ => true) true fuel t cs = some x → (x.1.weights P t).all (· ≤ reachBytes) = true → ∃ a : ty.T,K (· < w.heap.size) w ty a cs ∧ In P ty a) :
    ∀ (fs : List Field) (off : Nat) (ty : Ty),rdFs P rec fs off ty = true → ∀ (n : Nat) (cs : List Value) (xs : List (DataW H × List MemPlace)),cs.length = off + ty.n → xs.length = fs.length →
      (∀(i:Nat) (f:Field),fs[i]?=some f→DataW.trod enc P w 0 (fun _=>true) true n f.type ((cs.drop f.offset).take (P.cellsOf f.type))=xs[i]?)→(DataW.weightsEach P (fs.map (·.type)) (xs.map (·.1))).all (· ≤reachBytes)=true→
      ∃a:ty.T,K (· <w.heap.size) w ty a (cs.drop off)∧In P ty a:=by
  have one:∀(f:Field) (off:Nat) (ty:Ty),rdF P rec f off ty=true→∀(n:Nat) (cs:List Value) (x:DataW H×List MemPlace),
      DataW.trod enc P w 0 (fun _=>true) true n f.type ((cs.drop f.offset).take (P.cellsOf f.type))=some x→(x.1.weights P f.type).all (· ≤reachBytes)=true→∃a:ty.T,K (· <w.heap.size) w ty a ((cs.drop off).take ty.n)∧In P ty a:=by
    intro f off ty h n cs x hx hw
    simp only [rdF,Bool.and_eq_true] at h
    have h1:=Nat.eq_of_beq_eq_true h.1
    have h2:=Nat.eq_of_beq_eq_true h.2.1
    rw [h1,h2] at hx
    exact hrec _ _ h.2.2 _ _ _ hx hw
  intro fs
  induction fs with
  |nil=>
    intro off ty h n cs xs hl hxl hx hw
    cases ty<;>simp only [rdFs] at h<;>try (cases h;done)
    refine ⟨(),?_,trivial⟩
    show cs.drop off=[]
    exact List.drop_of_length_le (by rw [hl];exact Nat.le_refl _)
  |cons f r ih=>
    intro off ty h n cs xs hl hxl hx hw
    match xs,hxl with
    | x :: xr,hxl =>
      have hx0:=hx 0 f rfl
      simp only [List.map_cons,DataW.weightsEach,List.all_append,Bool.and_eq_true] at hw
      cases r with
      |nil=>
        simp only [rdFs] at h
        obtain ⟨a,k1,k2⟩:=one f off ty h n cs x hx0 hw.1
        refine ⟨a,?_,k2⟩
        rw [List.take_of_length_le (by rw [List.length_drop];omega)] at k1
        exact k1
      |cons g r=>
        cases ty with
        |pair a b=>
          simp only [rdFs,Bool.and_eq_true] at h
          obtain ⟨u,k1,k2⟩:=one f off a h.1 n cs x hx0 hw.1
          obtain ⟨v,g1,g2⟩:=ih (off+a.n) b h.2 n cs xr (by rw [hl];simp only [Ty.n];omega) (by simpa using hxl) (fun i f' hf=>by simpa using hx (i+1) f' (by simpa using hf)) hw.2
          refine ⟨(u,v),⟨_,_,?_,k1,g1⟩,k2,g2⟩
          rw [←List.drop_drop,List.take_append_drop]
        |_=>simp [rdFs] at h
theorem addr_add {a:Addr} (h:a.spot=none) (n:Nat):a.add n=⟨a.block,a.off+n,none⟩:=by
  unfold Addr.add
  split
  · subst n;obtain ⟨b,o,s⟩:=a;simp at h;subst h;rfl
  · rfl
theorem weights_all_each (e:TypeId):∀l:List (DataW H),DataW.weightsAll P e l=DataW.weightsEach P (List.replicate l.length e) l
  | []=>rfl
  |a::r=>by
    rw [List.length_cons,List.replicate_succ,DataW.weightsAll,DataW.weightsEach,weights_all_each e r]
theorem rd_ok : ∀ (d : Nat) (t : TypeId) (ty : Ty),rdB P d t ty = true → ∀ fuel cs (x : DataW H × List MemPlace),DataW.trod enc P w 0 (fun _ => true) true fuel t cs = some x → (x.1.weights P t).all (· ≤ reachBytes) = true → ∃ a : ty.T,K (· < w.heap.size) w ty a cs ∧ In P ty a := by
  intro d
  induction d with
  |zero=>intro t ty h;cases h
  | succ d ih =>
    intro t ty h fuel cs x hx hw
    simp only [rdB] at h
    split at h
    · rename_i hu
      obtain rfl:=Ty.b_eq h
      obtain ⟨b,rfl,rfl⟩:=DataW.trod_bool hu hx
      exact ⟨b,rfl,trivial⟩
    · rename_i k hu
      obtain rfl:=Ty.b_eq h
      obtain ⟨n,rfl,rfl,hn⟩:=DataW.trod_int hu hx
      exact ⟨n,rfl,hn⟩
    · rename_i hu
      obtain rfl:=Ty.b_eq h
      obtain ⟨s,rfl,rfl,hs⟩:=DataW.trod_string hu hx
      refine ⟨s,rfl,?_⟩
      have:s.data.size≤reachBytes:=by simpa [DataW.weights] using hw
      exact this
    · rename_i e hu
      cases ty<;>simp only at h<;>try (cases h;done)
      rename_i f u
      simp only [Bool.and_eq_true] at h
      obtain rfl:=Nat.eq_of_beq_eq_true h.1
      have hn:=Nat.eq_of_beq_eq_true h.2.1
      have h1:=Nat.le_of_ble_eq_true h.2.2.1
      have hr:=h.2.2.2
      rcases open_slice hu hx with ⟨rfl,rfl⟩|⟨a,len,cap,m,n,D,Pl,rfl,_,hl,hc,hm,rfl,hel⟩
      · exact ⟨([]:List u.T),⟨none,0,rfl,Nat.le_refl _,.inl rfl⟩,by simp,fun x hx=>by cases hx⟩
      · simp only [if_true] at hm
        subst hm
        simp only [DataW.weights,hu] at hw
        rw [List.all_cons,List.all_append,Bool.and_eq_true,Bool.and_eq_true] at hw
        obtain ⟨hw1,hw2,_⟩:=hw
        have hw1:=of_decide_eq_true hw1
        simp only [List.length_map,List.length_range] at hw1
        have hA:∀i,i<len→∃y:u.T,(∃cs',w.cells? 0 (a.add (i*P.cellsOf e)) (P.cellsOf e)=some cs'∧K (· <w.heap.size) w u y cs')∧In P u y:=by
          intro i hi
          obtain ⟨cs',k1,k2⟩:=hel i (by omega)
          obtain ⟨y,g1,g2⟩:=ih e u hr n cs' _ k2 (weightsAll_mem hw2 (D i) (List.mem_map.2 ⟨i,List.mem_range.2 hi,rfl⟩))
          exact ⟨y,⟨cs',k1,g1⟩,g2⟩
        obtain ⟨A,hA⟩:=choose_lt hA
        refine ⟨(List.range len).map A,⟨some a,m,by simp,by simpa using hl,?_⟩,?_,?_⟩
        · by_cases h0:len=0
          · left;subst h0;rfl
          · right
            have hcell:∀i,i<len→∀cs',w.cells? 0 (a.add (i*P.cellsOf e)) (P.cellsOf e)=some cs'→∀j v,cs'[j]?=some v→w.cell? ((a.add (i*P.cellsOf e)).add j)=some v:=by
              intro i hi cs' hcs j v hj
              obtain ⟨_,hlen,hget⟩:=World.cells?_some hcs
              rw [hget j (by rw [←hlen];exact (List.getElem?_eq_some_iff.1 hj).1)]
              exact hj
            have hsp:a.spot=none∧a.block<w.heap.size:=by
              obtain ⟨cs',k1,k2⟩:=(hA 0 (by omega)).1
              obtain ⟨_,hlen,_⟩:=World.cells?_some k1
              rw [hn] at hlen
              have hj:cs'[0]?=some (cs'[0]'(by omega)):=List.getElem?_eq_getElem _
              have hc:=hcell 0 (by omega) cs' k1 0 _ hj
              simp only [Nat.zero_mul,Addr.add,if_true,World.cell?] at hc
              split at hc
              · rename_i c _ _ hb
                split at hc
                · cases hc
                · rename_i hs
                  exact ⟨by simpa using hs,(Array.getElem?_eq_some_iff.1 hb).1⟩
              · cases hc
            refine ⟨a.block,a.off,by rw [←hsp.1],hsp.2,fun i y hi=>?_⟩
            have hlt:i<len:=by
              have:=(List.getElem?_eq_some_iff.1 hi).1
              simpa using this
            obtain ⟨cs',k1,k2⟩:=(hA i hlt).1
            have:y=A i:=by
              rw [List.getElem?_map,List.getElem?_range hlt] at hi
              exact (Option.some.inj hi).symm
            subst this
            refine ⟨cs',k2,fun j v hj=>?_⟩
            have:=hcell i hlt cs' k1 j v hj
            rw [Deep.add_add,hn] at this
            rw [←this]
            rw [addr_add hsp.1,Nat.add_assoc]
        · simp only [List.length_map,List.length_range]
          exact Nat.le_trans (Nat.mul_le_mul_right _ (Nat.le_add_right _ _)) hw1
        · intro y hy
          obtain ⟨i,hi,rfl⟩:=List.mem_map.1 hy
          exact (hA i (List.mem_range.1 hi)).2
    · rename_i fs hu
      simp only [Bool.and_eq_true] at h
      have hn:=Nat.eq_of_beq_eq_true h.1
      obtain ⟨xs,n,_,rfl,hl,hxl,hf⟩:=DataW.trod_struct hu hx
      simp only [DataW.weights,hu] at hw
      have:=rdFs_ok (enc:=enc) (w:=w) (rec:=rdB P d) ih fs.toList 0 ty h.2 n cs xs (by rw [hl,hn];omega) (by simpa using hxl) (fun i f hi=>hf i f (by simpa using hi)) hw
      simpa using this
    · rename_i n e hu
      simp only [Bool.and_eq_true] at h
      have hn:=Nat.eq_of_beq_eq_true h.1
      obtain ⟨xs,m,_,rfl,hl,hxl,hf⟩:=DataW.trod_array hu hx
      simp only [DataW.weights,hu,weights_all_each,List.length_map,hxl] at hw
      have hty:(vfs P n e).map (·.type)=List.replicate n e:=by
        apply List.ext_getElem<;>simp [vfs]
      have:=rdFs_ok (enc:=enc) (w:=w) (rec:=rdB P d) ih (vfs P n e) 0 ty h.2 m cs xs (by rw [hl,hn];omega) (by simp [vfs,hxl]) (fun i f hi=>by
        simp only [vfs,List.getElem?_map] at hi
        rcases Nat.lt_or_ge i n with hlt|hge
        · rw [List.getElem?_range hlt] at hi
          cases hi
          exact hf i hlt
        · rw [List.getElem?_eq_none (by simpa using hge)] at hi
          cases hi) (by rw [hty];exact hw)
      simpa using this
    · cases h
/-! ## The law's arguments -/
def shCr:Ty→List CSh→List CSh
  | .int k,r=> .int k::r
  | .bool,r=> .bool::r
  | .str,r=> .str::r
  | .val,r=> .val::r
  | .unit,r=>r
  | .pair a b,r=>shCr a (shCr b r)
  | .sl e t,r=> .sl e t::r
def exT {τ:Type}:(t:Ty)→t.T→(r:List CSh)→TL r τ→TL (shCr t r) τ
  | .int _,x,_,y=>(x,y)
  | .bool,x,_,y=>(x,y)
  | .str,x,_,y=>(x,y)
  | .val,x,_,y=>(x,y)
  | .unit,_,_,y=>y
  | .pair a b,x,r,y=>exT a x.1 (shCr b r) (exT b x.2 r y)
  | .sl _ _,x,_,y=>(x,y)
theorem ofC_exT {τ:Type} (f:Nat→Nat):∀(t:Ty) (x:t.T) (r:List CSh) (y:TL r τ),ofC f (shCr t r) (exT t x r y)=(t.ex x++(ofC f r y).1,(ofC f r y).2)
  | .int _,_,_,_=>rfl
  | .bool,_,_,_=>rfl
  | .str,_,_,_=>rfl
  | .val,_,_,_=>rfl
  | .unit,_,_,_=>rfl
  | .pair a b,x,r,y=>by
    show ofC f (shCr a (shCr b r)) (exT a x.1 (shCr b r) (exT b x.2 r y))=_
    rw [ofC_exT f a,ofC_exT f b]
    simp [Ty.ex]
  | .sl _ _,_,_,_=>rfl
/--parameters:their types,and whether they are structs -/
@[reducible] def argSl : Nat → List (Ty × Bool) → List (Nat × SSh)
  |_,[]=> []
  |i,(t,a)::r=>(i,.v a (shCr t []))::argSl (i+1) r
@[reducible] def ArgT : List (Ty × Bool) → Type
  | []=>Unit
  |(t,_)::r=>t.T×ArgT r
def argX:(i:Nat)→(l:List (Ty×Bool))→ArgT l→TSl (argSl i l) Unit
  |_,[],_=>()
  |i,(t,_)::r,x=>exT t x.1 [] (argX (i+1) r x.2)
def argIn (P:Program):(l:List (Ty×Bool))→ArgT l→Prop
  | [],_=>True
  |(t,_)::r,x=>In P t x.1∧argIn P r x.2
def argV:Bool→Nat→Value→Prop
  |true,_,v=>∃cs,v=.agg cs
  |false,n,v=>n=1∧v.cells.toList=[v]
/--the arguments read as data -/
def argK (ok:Nat→Prop) (w:World):(l:List (Ty×Bool))→ArgT l→List Value→Prop
  | [],_,vs=>vs=[]
  |(t,a)::r,x,vs=>∃v us,vs=v::us∧K ok w t x.1 v.cells.toList∧argV a t.n v∧argK ok w r x.2 us
theorem argX_env {ok : Nat → Prop} (f : Nat → Nat) (env : Env) : ∀ (l : List (Ty × Bool)) (i : Nat) (x : ArgT l) (t : Nat) (s : Slot),(ofSl f env (argSl i l) (argX i l x)).1 t = some s →
    env t=some s∨(i≤t∧∃(ty:Ty) (a:Bool) (y:ty.T),s=.v a (ty.ex y)∧∀w vs,argK ok w l x vs→∃v,vs[t-i]?=some v∧K ok w ty y v.cells.toList∧argV a ty.n v)
  | [],_,_,_,_,h=> .inl h
  |(ty,a)::r,i,x,t,s,h=>by
    have e:ofC f (shCr ty []) (exT ty x.1 [] (argX (i+1) r x.2))=(ty.ex x.1++ [],argX (i+1) r x.2):=ofC_exT f ty x.1 [] _
    have h:put (ofSl f env (argSl (i+1) r) (ofC f (shCr ty []) (exT ty x.1 [] (argX (i+1) r x.2))).2).1 i (some (.v a (ofC f (shCr ty []) (exT ty x.1 [] (argX (i+1) r x.2))).1)) t=some s:=h
    rw [e,List.append_nil] at h
    unfold Lv.put at h
    split at h
    · rename_i ht
      have:=Nat.eq_of_beq_eq_true ht
      subst this
      cases h
      refine .inr ⟨Nat.le_refl _,ty,a,x.1,rfl,fun w vs hk=>?_⟩
      obtain ⟨v,us,rfl,k1,k2,_⟩:=hk
      exact ⟨v,by simp,k1,k2⟩
    · rename_i ht
      rcases argX_env f env r (i+1) x.2 t s h with k|⟨k1,ty',a',y,k2,k3⟩
      · exact .inl k
      · refine .inr ⟨by omega,ty',a',y,k2,fun w vs hk=>?_⟩
        obtain ⟨v,us,rfl,_,_,g⟩:=hk
        obtain ⟨v',g1,g2⟩:=k3 w us g
        refine ⟨v',?_,g2⟩
        rw [show t-i=(t-(i+1))+1 by omega]
        simpa using g1
theorem argX_left (f:Nat→Nat) (env:Env):∀(l:List (Ty×Bool)) (i:Nat) (x:ArgT l),(ofSl f env (argSl i l) (argX i l x)).2=()
  | [],_,_=>rfl
  |_::_,_,_=>rfl
theorem arg_repE {ok : Nat → Prop} {w : World} {l : List (Ty × Bool)} {x : ArgT l} {args : Array Value} (h : argK ok w l x args.toList) (ρ : Nat → Value) (nx : Nat) : RepE ρ ok w nx (envOut ⟨argSl 0 l,[],[],0,[]⟩ id (argX 0 l x)) args := by
  intro t s hs
  rcases argX_env id (fun _=>none) l 0 x t s hs with k|⟨_,ty,a,y,rfl,k⟩
  · cases k
  · obtain ⟨v,h1,h2,h3⟩:=k w _ h
    refine ⟨v,by simpa using h1,?_⟩
    have hex:=ex_ok (ρ:=ρ) (nx:=nx) h2
    cases a with
    |true=>
      obtain ⟨cs,rfl⟩:=h3
      exact ⟨cs.toList,by simp,hex⟩
    |false=>
      obtain ⟨h3,h4⟩:=h3
      rw [h4] at hex
      have hl:=ex_len ty y
      rw [h3] at hl
      match hc:ty.ex y,hl with
      | [c],_=>
        rw [hc] at hex
        obtain ⟨u,e,hu⟩:=hex.one
        cases e
        exact ⟨c,rfl,hu⟩
def prmB (P:Program):List TypeId→List (Ty×Bool)→Bool
  | [],[]=>true
  | t :: ts,(ty,a) :: l => (rdB P 50 t ty && ((match P.underlying t with | some (.struct _) => a | some .bool | some (.int _) | some .string | some (.slice _) => !a && Nat.beq ty.n 1 | _ => false) &&
      (P.readableRec t&&Nat.blt t P.types.size)))&&prmB P ts l
  |_,_=>false
theorem argV_of {t:TypeId} {v:Value} {n base:Nat} {a:Bool} (hv:Value.okWide P w .any base t v) (h:(match P.underlying t with|some (.struct _)=>a|some .bool|some (.int _)|some .string|some (.slice _)=> !a&&Nat.beq n 1|_=>false)=true):argV a n v:=by
  unfold Value.okWide at hv
  split at h
  · rename_i fs hu
    subst h
    rw [hu] at hv
    obtain ⟨cs,e,_⟩:=hv
    exact ⟨cs,e⟩
  all_goals (try (cases h;done))
  all_goals
    rename_i hu
    rw [hu] at hv
    simp only [Bool.and_eq_true,Bool.not_eq_true'] at h
    obtain ⟨rfl,hn⟩:=h
    refine ⟨Nat.eq_of_beq_eq_true hn,?_⟩
    simp only [Cell.okWide,hu,Cell.ok] at hv
    cases v<;>simp_all [Value.cells]
theorem trodAll_argK {base:Nat}:∀{ts:List TypeId} {l:List (Ty×Bool)} {vs:List Value} {ds:List (DataW H)} {ps:List MemPlace},prmB P ts l=true→DataW.TrodAll enc P w 0 (fun _=>true) true ts vs ds ps→
    (∀(j:Nat) (t:TypeId) (v:Value),ts[j]?=some t→vs[j]?=some v→Value.okWide P w .any base t v)→(DataW.weightsEach P ts ds).all (· ≤reachBytes)=true→∃x:ArgT l,argK (· <w.heap.size) w l x vs∧argIn P l x
  | [],l,vs,ds,ps,hb,h,hv,hw=>by
    obtain ⟨rfl,rfl,rfl⟩:=trodAll_nil h
    match l,hb with
    | [],_=>exact ⟨(),rfl,trivial⟩
  | t :: ts,l,vs,ds,ps,hb,h,hv,hw => by
    obtain ⟨v,vs,d,ds,p,q,rfl,rfl,rfl,⟨fuel,h1⟩,h2⟩:=trodAll_cons h
    match l,hb with
    |(ty,a)::l,hb=>
      simp only [prmB,Bool.and_eq_true] at hb
      rw [DataW.weightsEach,List.all_append,Bool.and_eq_true] at hw
      obtain ⟨x,k1,k2⟩:=rd_ok 50 t ty hb.1.1 fuel _ _ h1 hw.1
      obtain ⟨y,g1,g2⟩:=trodAll_argK hb.2 h2 (fun j t' v' e1 e2=>hv (j+1) t' v' (by simpa using e1) (by simpa using e2)) hw.2
      exact ⟨(x,y),⟨v,vs,rfl,k1,argV_of (hv 0 t v rfl rfl) hb.1.2.1,g1⟩,k2,g2⟩
theorem trodAll_below (hl:laidOutB P=true) {w':World} (hb:Below w.heap.size w w'):∀{ts:List TypeId} {l:List (Ty×Bool)} {vs:List Value} {ds:List (DataW H)} {ps:List MemPlace},prmB P ts l=true→DataW.TrodAll enc P w 0 (fun _=>true) true ts vs ds ps→
    DataW.TrodAll enc P w' 0 (fun b=>decide (b<w.heap.size)) true ts vs ds ps
  | [],l,vs,ds,ps,hp,h=>by
    obtain ⟨rfl,rfl,rfl⟩:=trodAll_nil h
    rfl
  | t :: ts,l,vs,ds,ps,hp,h => by
    obtain ⟨v,vs,d,ds,p,q,rfl,rfl,rfl,h1,h2⟩:=trodAll_cons h
    match l,hp with
    |(ty,a)::l,hp=>
      simp only [prmB,Bool.and_eq_true] at hp
      refine ⟨p,q,Below.trod hl hp.1.2.2.1 (Nat.le_of_ble_eq_true hp.1.2.2.2) h1 hb ?_,trodAll_below hl hb hp.2 h2,rfl⟩
      obtain ⟨m,hm⟩:=h1
      exact DataW.trod_lt m _ _ _ hm
def boolSo:Sh:=⟨[(0,.v false [.bool])],[],[],1000,[]⟩
theorem law_calls {g:FuncId} {l:List (Ty×Bool)} {F:TS ⟨argSl 0 l,[],[],0,[]⟩→Option (TS boolSo)} (hs:SpecOk P g ⟨l.length,⟨argSl 0 l,[],[],0,[]⟩,boolSo,F⟩) {x:ArgT l} (hF:F (argX 0 l x)=some (true,())) {args:Array Value} (hn:args.size=l.length)
    (h:argK (· <w.heap.size) w l x args.toList) (hg:Glb (· <w.heap.size) w):Calls P g args w fun e w'=>e=.returned (.bool true)∧Below w.heap.size w w':=by
  have hp:hpOut ⟨argSl 0 l,[],[],0,[]⟩ id (argX 0 l x)=fun _=>none:=rfl
  refine (hs _ _ hF (fun _=> .bool true) (· <w.heap.size) w args hn ?_ ?_).mono ?_
  · rw [hp]
    exact ⟨fun l o h=>(by cases h),fun b h=>h,fun l o b h=>(by cases h),fun l m o p b h=>(by cases h),hg⟩
  · exact arg_repE h _ _
  · rintro e w' ⟨v,ρ',ok',rfl,_,hE,hX⟩
    obtain ⟨v',e1,c,e2,e3⟩:=hE 0 (.v false [.bool true]) rfl
    cases e2
    have e3:v'=.bool true:=e3
    subst e3
    have:v=.bool true:=by simpa using e1
    subst this
    refine ⟨rfl,hX.os,hX.tape,hX.output.1,hX.size,fun k hk=>hX.same k hk fun l o ho=>?_⟩
    rw [hp] at ho
    cases ho
theorem law_lifted {C : Checked} {g : FuncId} {fn : Func} {s : ChangeSpec} {os : Os} {l : List (Ty × Bool)} {rt : TypeId} {F : TS ⟨argSl 0 l,[],[],0,[]⟩ → Option (TS boolSo)}
    (own:ownKnob C.prog.godebug=none) (started:os.Started) (noInit:C.prog.inits.idxOf? g=none) (hfn:C.prog.funcs[g]?=some fn) (hl:laidOutB C.prog=true)
    (witness:∃(w:World) (tape:Tape) (i:Input),w.os=os∧(w.forCall tape i).Shaped C.prog∧i.vars=[]∧Input.okWide C.prog (w.forCall tape i) .any w.heap.size g i∧
      s.pre6 enc C.prog fn [] false (w.forCall tape i).memory i.args∧({}:Assume).holds C.prog (lone (Frame.enter C.prog g i.args .normal) [] (w.forCall tape i)))
    (hvars:s.vars=[]) (hspec:∀ds:List (DataW H),ds.length=l.length→s.fn H ds={results:=[.lit (.bool true)],args:=ds})
    (hrt:fn.resultTypes=#[rt]) (hru:C.prog.underlying rt=some .bool) (hp:prmB C.prog fn.params.toList l=true)
    (hs:SpecOk C.prog g ⟨l.length,⟨argSl 0 l,[],[],0,[]⟩,boolSo,F⟩) (hF:∀x:ArgT l,argIn C.prog l x→F (argX 0 l x)=some (true,())) (hB:HasG.bs=[]) (hG:∀W,HasG.hold W):
    ReturnsInHanded {} C os g .any (s.pre6 enc C.prog fn [] false) (s.post enc C.prog fn false true false false):=by
  refine returnsInHanded_of_change_sized own started noInit hfn witness ?_
  intro W base args ds gs before hval hW _ hsz _
  have hW':=hW
  obtain ⟨p,q,hA,hV,rfl,_,_⟩:=hW
  rw [hvars] at hV
  obtain ⟨rfl,rfl⟩:=trodVars_none hV
  have hlen:∀{ts:List TypeId} {vs:List Value} {ds:List (DataW H)} {ps:List MemPlace} {l:List (Ty×Bool)},prmB C.prog ts l=true→DataW.TrodAll enc C.prog W 0 (fun _=>true) true ts vs ds ps→vs.length=l.length∧ds.length=l.length:=by
    intro ts
    induction ts with
    |nil=>
      intro vs ds ps l hp h
      obtain ⟨rfl,rfl,rfl⟩:=trodAll_nil h
      match l,hp with
      | [],_=>exact ⟨rfl,rfl⟩
    |cons t ts ih=>
      intro vs ds ps l hp h
      obtain ⟨v,vs,d,ds,p,q,rfl,rfl,rfl,_,h2⟩:=trodAll_cons h
      match l,hp with
      |(ty,a)::l,hp=>
        simp only [prmB,Bool.and_eq_true] at hp
        obtain ⟨e1,e2⟩:=ih hp.2 h2
        exact ⟨by simp [e1],by simp [e2]⟩
  obtain ⟨hl1,hl2⟩:=hlen hp hA
  have hv0:s.plain.varTypes C.prog=[]:=by
    have:s.plain.vars=[]:=hvars
    unfold DataSpec.varTypes
    rw [this];rfl
  rw [hv0,List.append_nil,List.append_nil] at hsz
  have hval':∀(j:Nat) (t:TypeId) (v:Value),fn.params.toList[j]?=some t→args.toList[j]?=some v→Value.okWide C.prog W .any base t v:=fun j t v e1 e2=>by
    have:=hval j t v (by simpa using e1) (by simpa using e2)
    exact this
  obtain ⟨x,k1,k2⟩:=trodAll_argK hp hA (fun j t v e1 e2=>hval' j t v e1 e2) hsz
  · refine (law_calls hs (hF x k2) (by rw [←Array.length_toList,hl1]) k1 ⟨fun b hb=>(by rw [hB] at hb;cases hb),hG _⟩).mono ?_
    rintro e w' ⟨rfl,hb⟩
    refine ⟨_,rfl,ds,[],p++ [],[],p,[],hW',?_,?_,?_,hb.frame _,fun h=>by cases h⟩
    · rw [List.append_nil,hspec ds hl2,hrt]
      exact trodAll_mk1 (shut_bool hru _)
    · rw [List.append_nil,hspec ds hl2]
      exact trodAll_below hl hb hp hA
    · rw [List.append_nil,hspec ds hl2,hvars]
      rfl
end
end Lv
end
section
namespace Lv
variable [HasG]
open Go Go.RowKit
section
variable {P:Program}
/--copy,into a row of the call's own,of elements of whatever size -/
theorem run_copy_own (w:World) (dT sT ty elem size:Nat) (g o dLen dCap:Nat) (a:Addr) (sLen sCap:Nat) (cur:Array Value) (t:TypeId) (cs:List Value)
    (hu:P.underlying dT=some (.slice elem)) (hs:(P.info? elem).map (·.size)=some size)
    (hg:w.heap[g]?=some (.cells cur t (0,0))) (hn:cs.length=Nat.min sLen dLen*size)
    (hsrc:∀j v,cs[j]?=some v→w.cell? (a.add j)=some v) (hfit:o+cs.length≤cur.size) (h1:∀v∈cs,v.oneCell'=true):
    (Builtin.copy_ #[dT,sT] ty #[.slice (some ⟨g,o,none⟩) dLen dCap,.slice (some a) sLen sCap]).run P w=
      .ok (goInt (Nat.min sLen dLen)) (w.setRow g (cur.toList.take o++cs++cur.toList.drop (o+cs.length)).toArray):=by
  have hl:=run_loadCells_list (P:=P) w a cs hsrc
  have hst:=run_storeCells_at P g o t cs 0 cur w hg (by simpa using hfit) h1
  cases hq:P.info? elem with
  |none=>simp [hq] at hs
  |some i=>
    have hi:i.size=size:=by simpa [hq] using hs
    simp [Builtin.copy_,run_underlying hu,Builtin.lenOf,Builtin.firstCells,Go.sizeOf,typeInfo,hq,hi,←hn,hl,hst]
theorem wp_copy_run' (w:World) {o:Oper} {a:Act} {K:Act→World→Prop} {Q:Exit→Act→World→Prop} (d s:Operand) (t t':TypeId)
    (ho:o.op=.call {callee:=.builtin .copy,args:=#[d,s],argTypes:=#[t,t']}) (v u:Value) (hd:a.eval d=v) (hs:a.eval s=u) {v':Value} {w':World}
    (hr:(Builtin.copy_ #[t,t'] o.type #[v,u]).run P w=.ok v' w') (h:K (a.put o.dst v') w'):o.wp P a w K Q:=by
  unfold Oper.wp execOp
  simp only [ho,resolve,invoke,builtin,Sem.run_bind,Sem.run_pure,Result.andThen_ok,List.map_toArray,List.map_cons,List.map_nil,hd,hs,hr]
  exact h
theorem wpList_copy_run' (w:World) {ops:Array Oper} {rest:List Oper} {o:Oper} {a:Act} {Q:Exit→Act→World→Prop} (hgd:o.guard=none) (d s:Operand) (t t':TypeId)
    (ho:o.op=.call {callee:=.builtin .copy,args:=#[d,s],argTypes:=#[t,t']}) (v u:Value) (hd:a.eval d=v) (hs:a.eval s=u) {v':Value} {w':World}
    (hr:(Builtin.copy_ #[t,t'] o.type #[v,u]).run P w=.ok v' w') (h:wpList P ops Q rest (a.put o.dst v') w'):wpList P ops Q (o::rest) a w:=
  wpList_plain hgd fun _ hK=>wp_copy_run' w d s t t' ho v u hd hs hr (hK _ _ h)
theorem step_copy_run' {ops:Array Oper} {o:Oper} {a:Act} {w:World} {K:Act→World→Prop} {Q:Exit→Act→World→Prop} {E:Prop}
    (hg:o.guard=none) (d x:Operand) (dT sT:TypeId) (hop:o.op=Op.call {callee:=Callee.builtin Builtin.copy,args:=#[d,x],argTypes:=#[dT,sT]})
    (v u:Value) (hd:a.eval d=v) (hx:a.eval x=u) {v':Value} {w':World} (hr:(Builtin.copy_ #[dT,sT] o.type #[v,u]).run P w=.ok v' w') (hK:K (a.put o.dst v') w'):
    if Region.wanted o (yielded ops a.tmps)=true then Oper.wp P o a w K Q else E:=by
  have hw:Region.wanted o (yielded ops a.tmps)=true:=by simp [Region.wanted,hg]
  rw [if_pos hw]
  unfold Oper.wp
  simp [execOp,hop,resolve,invoke,builtin,hd,hx,hr,Result.andThen]
  exact hK
end
end Lv
namespace Lv
variable [HasG]
open Go Go.RowKit
/--slices.Insert at rows of the call's own -/
def InsOk (P : Program) (f e size bytes : Nat) : Prop := ∀ (w : World) (sv vv : Value) (n m i : Nat) (cs vs : List Value),w.ownsRow 0 e size sv n cs → w.ownsRow 0 e size vv m vs → (∀ b,blk sv = some b → blk vv ≠ some b) →
  i≤n→0<m→(n+m)*bytes≤140737488355328→n+m≤140737488355328→(∀u∈cs,u.oneCell'=true)→(∀u∈vs,u.oneCell'=true)→
  Calls P f #[sv,.int .i64 i,vv] w fun e' w'=>∃v',e'=.returned v'∧w'.ownsRow 0 e size v' (n+m) (cs.take (i*size)++vs++cs.drop (i*size))∧w'.os=w.os∧w'.tape=w.tape∧Quiet w w'∧w.heap.size≤w'.heap.size∧
    (∀b,b<w.heap.size→blk sv≠some b→w'.heap[b]?=w.heap[b]?)∧(∀b,blk v'=some b→w.heap.size≤b∨blk sv=some b)
theorem add_block (a:Addr) (j:Nat):(a.add j).block=a.block:=by unfold Addr.add;split<;>rfl
section
variable {w:World} {e size:Nat} {v:Value} {n:Nat} {xs:List Value}
theorem own_some (h:w.ownsRow 0 e size v n xs) (hn:0<n):∃g cap cur,v=.slice (some ⟨g,0,none⟩) n cap∧w.heap[g]?=some (.cells cur e (0,0))∧n≤cap∧cap≤maxLen∧cur.size=cap*size∧cur.toList.take (n*size)=xs:=by
  rcases h.2 with ⟨_,h0⟩|⟨g,cap,cur,h1,_,h2,h3,h4,h5,h6⟩
  · omega
  · exact ⟨g,cap,cur,h1,h2,h3,h4,h5,h6⟩
theorem own_slice (h:w.ownsRow 0 e size v n xs):∃A c,v=.slice A n c:=by
  rcases h.2 with ⟨h0,h1⟩|⟨g,cap,cur,h1,_⟩
  · subst h1;exact ⟨none,0,h0⟩
  · exact ⟨_,_,h1⟩
theorem own_cap {A:Option Addr} {c:Nat} (h:w.ownsRow 0 e size (.slice A n c) n xs):n≤c:=by
  rcases h.2 with ⟨h0,h1⟩|⟨g,cap,cur,h1,_,h2,h3,h4,h5,h6⟩
  · omega
  · cases h1;exact h3
theorem own_cap63 {A:Option Addr} {c:Nat} (h:w.ownsRow 0 e size (.slice A n c) n xs):c≤9223372036854775807:=by
  rcases h.2 with ⟨h0,h1⟩|⟨g,cap,cur,h1,_,h2,h3,h4,h5,h6⟩
  · cases h0;omega
  · cases h1;exact h4
theorem own_nil {c:Nat} (h:w.ownsRow 0 e size (.slice none n c) n xs):n=0∧c=0:=by
  rcases h.2 with ⟨h0,h1⟩|⟨g,cap,cur,h1,_,h2,h3,h4,h5,h6⟩
  · cases h0;exact ⟨rfl,rfl⟩
  · cases h1
end
/--the row of an insertion in place -/
theorem ins_row {cur cs vs:List Value} {i n m size c:Nat} (hcur:cur.length=c*size) (ht:cur.take (n*size)=cs) (hv:vs.length=m*size) (hin:i≤n) (hroom:n+m≤c)
    {row1 row2:List Value} (h1:row1=cur.take ((i+m)*size)++cs.drop (i*size)++cur.drop ((i+m)*size+(cs.drop (i*size)).length)) (h2:row2=row1.take (i*size)++vs++row1.drop (i*size+vs.length)):
    row1.length=c*size∧row2.length=c*size∧row2.take ((n+m)*size)=cs.take (i*size)++vs++cs.drop (i*size):=by
  have e1:(i+m)*size=i*size+m*size:=Nat.add_mul _ _ _
  have e2:(n+m)*size=n*size+m*size:=Nat.add_mul _ _ _
  have e3:i*size≤n*size:=Nat.mul_le_mul_right _ hin
  have e4:(n+m)*size≤c*size:=Nat.mul_le_mul_right _ hroom
  rw [e1] at h1
  rw [e2] at e4 ⊢
  generalize i*size=a at*
  generalize m*size=b at*
  generalize n*size=k at*
  generalize c*size=L at*
  have hcs:cs.length=k:=by rw [←ht,List.length_take];omega
  have hd:(cs.drop a).length=k-a:=by rw [List.length_drop,hcs]
  have ha:cur.take a=cs.take a:=by rw [←ht,List.take_take,Nat.min_eq_left e3]
  have l1:row1.length=L:=by rw [h1];simp only [List.length_append,List.length_take,hd,List.length_drop];omega
  have t1:row1.take a=cs.take a:=by
    rw [h1,List.append_assoc,List.take_append_of_le_length (by rw [List.length_take];omega),List.take_take,Nat.min_eq_left (by omega),ha]
  have d1:row1.drop (a+b)=cs.drop a++cur.drop (a+b+(cs.drop a).length):=by
    rw [h1,List.append_assoc]
    exact List.drop_left' (by rw [List.length_take];omega)
  rw [t1,hv,d1] at h2
  refine ⟨l1,?_,?_⟩
  · rw [h2];simp only [List.length_append,List.length_take,hd,List.length_drop,hv,hcs];omega
  · rw [h2,←List.append_assoc]
    exact List.take_left' (by simp only [List.length_append,List.length_take,hd,hv,hcs];omega)
/--.. and in a new one -/
theorem ins_new {z1 z2 cs vs:List Value} {i n m size G:Nat} (hcs:cs.length=n*size) (hz1:z1.length=(n+m-i)*size) (hz2:z2.length=(G-(n+m))*size) (hv:vs.length=m*size) (hin:i≤n) (hG:n+m≤G)
    {row row1 row2:List Value} (h0:row=cs.take (i*size)++z1++z2) (h1:row1=row.take (i*size)++vs++row.drop (i*size+vs.length)) (h2:row2=row1.take ((i+m)*size)++cs.drop (i*size)++row1.drop ((i+m)*size+(cs.drop (i*size)).length)):
    row.length=G*size∧row1.length=G*size∧row2.length=G*size∧row2.take ((n+m)*size)=cs.take (i*size)++vs++cs.drop (i*size):=by
  have e1:(i+m)*size=i*size+m*size:=Nat.add_mul _ _ _
  have e2:(n+m)*size=n*size+m*size:=Nat.add_mul _ _ _
  have e3:i*size≤n*size:=Nat.mul_le_mul_right _ hin
  have e4:(n+m)*size≤G*size:=Nat.mul_le_mul_right _ hG
  rw [Nat.sub_mul] at hz1 hz2
  rw [e1] at h2
  rw [e2] at e4 hz1 hz2 ⊢
  generalize i*size=a at*
  generalize m*size=b at*
  generalize n*size=k at*
  generalize G*size=L at*
  have hd:(cs.drop a).length=k-a:=by rw [List.length_drop,hcs]
  have ht:(cs.take a).length=a:=by rw [List.length_take];omega
  have l0:row.length=L:=by rw [h0];simp only [List.length_append,ht,hz1,hz2];omega
  have t0:row.take a=cs.take a:=by
    rw [h0,List.append_assoc]
    exact List.take_left' ht
  have l1:row1.length=L:=by rw [h1];simp only [List.length_append,List.length_take,List.length_drop,l0,hv];omega
  have t1:row1.take (a+b)=cs.take a++vs:=by
    rw [h1,t0]
    exact List.take_left' (by simp only [List.length_append,ht,hv])
  refine ⟨l0,l1,?_,?_⟩
  · rw [h2];simp only [List.length_append,List.length_take,List.length_drop,l1,hcs];omega
  · rw [h2,t1]
    exact List.take_left' (by simp only [List.length_append,ht,hd,hv];omega)
end Lv
namespace Lv
variable [HasG]
open Go Go.RowKit
def insSi (e:Nat) (t:Ty):Sh:=⟨[(0,.v false [.ref 0]),(1,.v false [.int .i64]),(2,.v false [.ref 1])],[(0,true,.arr e t),(1,true,.arr e t)],[],2,[]⟩
def insSo (e:Nat) (t:Ty):Sh:=⟨[(0,.v false [.ref 1000])],[(1000,false,.arr e t)],[],1001,[]⟩
open Classical in
/--slices.Insert of at least one -/
noncomputable def insL {α:Type} (cap:Nat):Int×List α×List α×Unit→Option (List α×Unit):=fun (i,s,v,_)=>
  if 0≤i∧i.toNat≤s.length∧0<v.length∧s.length+v.length≤cap then some (s.take i.toNat++v++s.drop i.toNat,()) else none
theorem insL_some {α:Type} {cap:Nat} {i:Int} {s v:List α} (h1:0≤i) (h2:i.toNat≤s.length) (h3:0<v.length) (h4:s.length+v.length≤cap):insL cap (i,s,v,())=some (s.take i.toNat++v++s.drop i.toNat,()):=by
  unfold insL
  simp only [if_pos (show 0≤i∧i.toNat≤s.length∧0<v.length∧s.length+v.length≤cap from ⟨h1,h2,h3,h4⟩)]
theorem ins_spec {P : Program} {f e size bytes cap : Nat} {t : Ty} (h : InsOk P f e size bytes) (hn : t.n = size) (hc : cap * bytes ≤ 140737488355328) (hc' : cap ≤ 140737488355328) : SpecOk P f ⟨3,insSi e t,insSo e t,insL (α := t.T) cap⟩ := by
  subst hn
  rintro ⟨i,s,v,u⟩ y hy ρ ok w args hsz hH hE
  have hy:insL (α:=t.T) cap (i,s,v,u)=some y:=hy
  unfold insL at hy
  simp only at hy
  split at hy<;>try (cases hy;done)
  rename_i hcond
  obtain ⟨hi0,hi1,hm,hcap⟩:=hcond
  cases hy
  have hp:hpOut (insSi e t) id (i,s,v,u)=Lv.put (Lv.put (fun _=>none) 1 (some (.arr e t v))) 0 (some (.arr e t s)):=rfl
  rw [hp] at hH ⊢
  have hO0:=hH.ob 0 (.arr e t s) rfl
  have hO1:=hH.ob 1 (.arr e t v) rfl
  obtain ⟨_,in0,o0,r0⟩:=hO0
  obtain ⟨_,in1,o1,r1⟩:=hO1
  obtain ⟨v0,a0,c0,k0,g0⟩:=hE 0 (.v false [.ref 0]) rfl
  obtain ⟨v1,a1,c1,k1,g1⟩:=hE 1 (.v false [.int .i64 i]) rfl
  obtain ⟨v2,a2,c2,k2,g2⟩:=hE 2 (.v false [.ref 1]) rfl
  cases k0;cases k1;cases k2
  have g0:v0=ρ 0:=g0.2.1
  have g1:v1=.int .i64 i:=g1
  have g2:v2=ρ 1:=g2.2.1
  subst g0 g1 g2
  have ha:args=#[ρ 0,.int .i64 ((i.toNat:Nat):Int),ρ 1]:=by
    rw [Int.toNat_of_nonneg hi0]
    obtain ⟨l⟩:=args
    match l,hsz,a0,a1,a2 with
    | [x,y,z],_,a0,a1,a2=>simp at a0 a1 a2;rw [a0,a1,a2]
  subst ha
  have hb:(s.length+v.length)*bytes≤140737488355328:=Nat.le_trans (Nat.mul_le_mul_right _ hcap) hc
  refine (h w (ρ 0) (ρ 1) s.length v.length i.toNat in0 in1 o0 o1 (fun b hb hb'=>by
    have:=hH.dis 0 1 _ _ b rfl rfl rfl rfl hb hb'
    omega) hi1 hm hb (by omega) r0.one r1.one).mono ?_
  rintro e' w' ⟨v',rfl,q1,q2,q3,q4,q5,q6,q7⟩
  have hS:Same ok ok w w':=fun b hb=>⟨hb,q6 b (hH.okl b hb) fun e'=>hH.sep 0 _ b rfl rfl e' hb⟩
  refine ⟨v',fun l=>if l=1000 then v' else ρ l,ok,rfl,⟨?_,?_,?_,?_,hH.gl.move hS⟩,?_,⟨q2,q3,q4,q5,?_,fun b h=>h,fun b h=> .inl h,?_,?_⟩⟩
  · intro l o ho
    have ho:Lv.put (fun _=>none) 1000 (some (.arr e t (s.take i.toNat++v++s.drop i.toNat))) l=some o:=ho
    simp only [Lv.put] at ho
    split at ho
    · rename_i hl
      have:=Nat.eq_of_beq_eq_true hl
      subst this
      cases ho
      refine ⟨Nat.lt_succ_self 1000,_,?_,(((rows_take r0 i.toNat hi1).app r1).app (rows_drop r0 i.toNat hi1)).move hS⟩
      simp only [if_true]
      have hl:(s.take i.toNat++v++s.drop i.toNat).length=s.length+v.length:=by simp;omega
      exact hl▸q1
    · cases ho
  · intro b hb
    exact Nat.lt_of_lt_of_le (hH.okl b hb) q5
  · intro l o b ho hw hb
    have ho:Lv.put (fun _=>none) 1000 (some (.arr e t (s.take i.toNat++v++s.drop i.toNat))) l=some o:=ho
    simp only [Lv.put] at ho
    split at ho
    · rename_i hl
      have:=Nat.eq_of_beq_eq_true hl
      subst this
      simp only [if_true] at hb
      rcases q7 b hb with h|h
      · intro hok
        have:=hH.okl b hok
        omega
      · exact hH.sep 0 _ b rfl rfl h
    · cases ho
  · intro l m o p b ho hp' _ _ _ _
    have ho:Lv.put (fun _=>none) 1000 (some (.arr e t (s.take i.toNat++v++s.drop i.toNat))) l=some o:=ho
    have hp':Lv.put (fun _=>none) 1000 (some (.arr e t (s.take i.toNat++v++s.drop i.toNat))) m=some p:=hp'
    simp only [Lv.put] at ho hp'
    split at ho
    · rename_i hl
      split at hp'
      · rename_i hm
        rw [Nat.eq_of_beq_eq_true hl,Nat.eq_of_beq_eq_true hm]
      · cases hp'
    · cases ho
  · intro q sl hs
    have hs:Lv.put (fun _=>none) 0 (some (Slot.v false [.ref 1000])) q=some sl:=hs
    simp only [Lv.put] at hs
    split at hs
    · rename_i ht
      have:=Nat.eq_of_beq_eq_true ht
      subst this
      cases hs
      refine ⟨v',rfl,_,rfl,Nat.lt_succ_self 1000,by simp,?_⟩
      rcases q1.2 with ⟨e',_⟩|⟨_,_,_,e',_⟩<;>rw [e']<;>rfl
    · cases hs
  · intro b hb hne
    exact q6 b hb (hne 0 _ rfl rfl)
  · intro l o ho hl
    have ho:Lv.put (fun _=>none) 1000 (some (.arr e t (s.take i.toNat++v++s.drop i.toNat))) l=some o:=ho
    simp only [Lv.put] at ho
    split at ho
    · rename_i hl'
      have:=Nat.eq_of_beq_eq_true hl'
      omega
    · cases ho
  · intro l o b ho _ _ hb
    have ho:Lv.put (fun _=>none) 1000 (some (.arr e t (s.take i.toNat++v++s.drop i.toNat))) l=some o:=ho
    simp only [Lv.put] at ho
    split at ho
    · rename_i hl'
      have:=Nat.eq_of_beq_eq_true hl'
      subst this
      simp only [if_true] at hb
      rcases q7 b hb with h|h
      · exact .inl h
      · exact .inr ⟨0,_,rfl,rfl,h⟩
    · cases ho
end Lv
end
section
namespace Lv
variable [HasG]
open Go Go.RowKit
/-! ## A function that defers a closure,which recovers -/
def seqs:List (Code×H)→Code→Code
  | [],k=>k
  |(c,_)::r,k=> .seq c (seqs r k)
noncomputable def evPre (cx:Cx) (inl:Inl) (R:Type):List (Code×H)→St→(Out→Option R)→Option R
  | [],st,κ=>κ (.normal st)
  |(c,h)::r,st,κ=>evC cx inl R c h st fun o=>match o with
    | .normal st'=>evPre cx inl R r st' κ
    | .exit id st'=>κ (.exit id st')
    | .ret st'=>κ (.ret st')
    | .pan n st'=>κ (.pan n st')
def writesL:List (Code×H)→List Nat
  | []=> []
  |(c,_)::r=>writes c++writesL r
section
variable {P:Program} {cx:Cx} {inl:Inl}
theorem evPre_ok (hcx : CxOk P cx) (hinl : InlOk P cx.pan inl) (hdr : DrawnOk P cx) {R : Type} {K : Code} {κ : Out → Option R} {r : R} {Q : Exit → Act → World → Prop} {W : List Nat} : ∀ (l : List (Code × H)) (st : St),(∀ t ∈ writesL l,t ∈ W) → evPre cx inl R l st κ = some r → ∀ ρ ok w (a : Act),
    RepH ρ ok w st.hp st.nx→RepE ρ ok w st.nx st.env a.tmps→(∀t∈W,t<a.tmps.size)→
    (∀st' a' w',κ (.normal st')=some r→After st ρ ok w a W st' a' w'→K.wp P Q a' w')→
    (∀o e a' w',(∀s,o≠.normal s)→κ o=some r→OutIs o e→After st ρ ok w a W o.st a' w'→Q e a' w')→
    PanPost cx.pan (fun n st=>κ (.pan n st)) r st ρ ok w a W Q→(seqs l K).wp P Q a w
  | [],st,hl,h,ρ,ok,w,a,hH,hE,hW,hK,hQ,hQp=>hK st a w h ⟨ρ,ok,[],rfl,hH,hE,Goes.refl fun l o ho=>(hH.ob l o ho).1,Tm.refl _ _⟩
  |(c,hh)::l,st,hl,h,ρ,ok,w,a,hH,hE,hW,hK,hQ,hQp=>by
    have hc:∀t∈writes c,t∈W:=fun t ht=>hl t (List.mem_append_left _ ht)
    refine wp_seq (evC_ok hcx hinl hdr c R hh st _ r h ρ ok w a hH hE (fun t ht=>hW t (hc t ht)) _ ?_ (hQp.mono hc))
    intro o e a' w' h1 h2 h3
    obtain ⟨ρ',ok',D,g1,g2,g3,g4,g5⟩:=h3
    cases o with
    |pan n st'=>cases h2
    |exit id st'=>cases h2;exact hQ (.exit id st') _ _ _ (fun s e=>by cases e) h1 rfl ⟨ρ',ok',D,g1,g2,g3,g4,g5.mono hc⟩
    |ret st'=>cases h2;exact hQ (.ret st') _ _ _ (fun s e=>by cases e) h1 rfl ⟨ρ',ok',D,g1,g2,g3,g4,g5.mono hc⟩
    |normal st'=>
      cases h2
      have g1:st'.dt=D++st.dt:=g1
      refine evPre_ok hcx hinl hdr l st' (fun t ht=>hl t (List.mem_append_right _ ht)) h1 ρ' ok' w' a' g2 g3 (fun t ht=>by rw [g5.size];exact hW t ht) ?_ ?_ (hQp.next g1 g4 (g5.mono hc) (fun _ h=>h) (fun _ h=>h))
      · rintro st2 a2 w2 k1 ⟨ρ2,ok2,D2,j1,j2,j3,j4,j5⟩
        exact hK st2 a2 w2 k1 ⟨ρ2,ok2,D2++D,by rw [j1,g1,List.append_assoc],j2,j3,g4.trans j4,(g5.mono hc).trans j5 (fun _ h=>h) (fun _ h=>h)⟩
      · rintro o2 e2 a2 w2 k0 k1 k2 ⟨ρ2,ok2,D2,j1,j2,j3,j4,j5⟩
        exact hQ o2 e2 a2 w2 k0 k1 k2 ⟨ρ2,ok2,D2++D,by rw [j1,g1,List.append_assoc],j2,j3,g4.trans j4,(g5.mono hc).trans j5 (fun _ h=>h) (fun _ h=>h)⟩
/--the door:a closure over two variables is made and deferred -/
structure DoorOk (om od:Oper) (f p q t:Nat):Prop where
  mkf:om.op=.makeFunc (.func f) #[] #[.tmp p,.tmp q]
  mkd:om.dst=some t
  mkg:om.guard=none
  df:od.op=.defer {callee:=.value (.tmp t),args:=#[],argTypes:=#[]}
  dfd:od.dst=none
  dfg:od.guard=none
theorem wp_door {om od:Oper} {f p q t i:Nat} (h:DoorOk om od f p q t) {a:Act} {w:World} {Q:Exit→Act→World→Prop} (ht:t<a.tmps.size)
    (hQ:Q .normal {tmps:=a.tmps.setIfInBounds t (.func (.func f) #[] #[a.eval (.tmp p),a.eval (.tmp q)]),defers:=⟨.fn (.func f) #[a.eval (.tmp p),a.eval (.tmp q)],#[]⟩::a.defers} w):(Code.region i #[om,od] false).wp P Q a w:=by
  refine wp_region_list ?_
  show wpList P #[om,od] Q [om,od] a w
  unfold wpList
  rw [if_pos (by simp [Region.wanted,h.mkg])]
  refine .inl ?_
  unfold Oper.wp
  have h1:(execOp a.eval om).run P w=.ok (.value (.func (.func f) #[] #[a.eval (.tmp p),a.eval (.tmp q)])) w:=by
    simp [execOp,h.mkf,Instr.makeFunc]
  rw [h1,Oper.upon_value]
  unfold wpList
  rw [if_pos (by simp [Region.wanted,h.dfg])]
  refine .inl ?_
  unfold Oper.wp
  have hev:(a.put om.dst (.func (.func f) #[] #[a.eval (.tmp p),a.eval (.tmp q)])).eval (.tmp t)=.func (.func f) #[] #[a.eval (.tmp p),a.eval (.tmp q)]:=by
    simp [h.mkd,Act.put,Act.eval,Array.getD_eq_getD_getElem?,ht]
  have h2:(execOp (a.put om.dst (.func (.func f) #[] #[a.eval (.tmp p),a.eval (.tmp q)])).eval od).run P w=.ok (.defer ⟨.fn (.func f) #[a.eval (.tmp p),a.eval (.tmp q)],#[]⟩) w:=by
    simp only [execOp,h.df,resolve,hev,Deferred.ofValue,Sem.run_bind,Sem.run_pure,Result.andThen_ok,List.map_toArray,List.map_nil]
    simp
  rw [h2,Oper.upon_defer]
  unfold wpList
  simp only [h.mkd,h.dfd,Act.put]
  exact hQ
/--the closure's first operation -/
structure RecOk (or:Oper) (tr:Nat):Prop where
  op:∃ty,or.op=.call {callee:=.builtin .recover,args:=#[],argTypes:=ty}
  dst:or.dst=some tr
  g:or.guard=none
noncomputable def evClo (cx:Cx) (inl:Inl) (G:Code) (hG:H) (p q tr:Nat) (res:List ResultVar) (so:Sh) (st2:St) (v:Value):Option (TS so):=
  evC cx inl (TS so) G hG ⟨Lv.put (argEnv [st2.env p,st2.env q]) tr (some (.v false [.val v])),st2.hp,st2.nx,st2.dt⟩ fun o => match o with
      | .normal st3=>evF.fin cx res so ⟨st2.env,st3.hp,st3.nx,st3.dt⟩
      | .ret st3=>evF.fin cx res so ⟨st2.env,st3.hp,st3.nx,st3.dt⟩
      | .exit _ _=>none
      | .pan _ _=>none
noncomputable def evDef (cx:Cx) (inl:Inl) (pre:List (Code×H)) (E:Code) (hE:H) (G:Code) (hG:H) (p q t tr:Nat) (res:List ResultVar) (si so:Sh) (x:TS si):Option (TS so):=
  evPre cx inl (TS so) pre ⟨envOut si id x,hpOut si id x,1000,[]⟩ fun o=>match o with
  | .normal st=>evC cx inl (TS so) E hE ⟨Lv.put st.env t none,st.hp,st.nx,st.dt⟩ fun o=>match o with
    | .normal st2=>evClo cx inl G hG p q tr res so st2 .nilIface
    | .ret st2=>evClo cx inl G hG p q tr res so st2 .nilIface
    | .pan n st2=>evClo cx inl G hG p q tr res so st2 (bpan cx.pan n)
    | .exit _ _=>none
  | .ret st=>evF.fin cx res so st
  | .exit _ _=>none
  | .pan _ _=>none
theorem recover_run {or:Oper} {tr:Nat} (h:RecOk or tr) (a:Act) (w:World):(execOp a.eval or).run P w=.ok .recover w:=by
  obtain ⟨⟨ty,ho⟩,_,_⟩:=h
  simp only [execOp,ho,resolve,Sem.run_bind,Sem.run_pure,Result.andThen_ok,invoke]
  rfl
theorem wpS_recover {or:Oper} {tr ir:Nat} (h:RecOk or tr) {G:Code} {Q:Exit→Act→List Frame→World→Prop} {a:Act} {cs cs':List Frame} {w:World} {v:Value}
    (hv:recoverD cs=some (v,cs')∨(recoverD cs=none∧v=.nilIface∧cs'=cs)) (hG:G.wpS P Q (a.put (some tr) v) cs' w):(Code.seq (.region ir #[or] false) G).wpS P Q a cs w:=by
  refine wpS_seq (wpS_region ?_)
  show wpOpsS P #[or] _ [0] a cs w
  have hw:Region.wanted or (yielded #[or] a.tmps)=true:=by simp [Region.wanted,h.g]
  have h0:(#[or])[0]?=some or:=rfl
  unfold wpOpsS
  rw [h0]
  simp only [hw,if_true,recover_run h]
  rcases hv with hv|⟨hv,rfl,rfl⟩
  · rw [hv]
    simp only [wpOpsS,h.dst]
    exact hG
  · rw [hv]
    simp only [wpOpsS,h.dst]
    exact hG
/--the closure,called behind a return or a panic -/
theorem clo_ok (hcx:CxOk P cx) (hinl:InlOk P cx.pan inl) (hdr:DrawnOk P cx) {f:FuncId} {gf:Func} (hf:P.funcs[f]?=some gf) {ir tr:Nat} {or:Oper} {G:Code} (hb:gf.body=some (.seq (.region ir #[or] false) G)) (hr:RecOk or tr) (hres:gf.results=#[])
    (hW:allBlt gf.ntmps (tr::writes G)=true) {hG:H} {p q:Nat} {res:List ResultVar} {so:Sh} {st2:St} {v:Value} {y:TS so} (hev:evClo cx inl G hG p q tr res so st2 v=some y)
    {u:FrameMode} (hm:(u=.returning∧v=.nilIface)∨∃n,u=.panicking (panE cx.pan n)∧v=bpan cx.pan n)
    {ρ ok w} {vp vq:Value} (hH:RepH ρ ok w st2.hp st2.nx) (hE:RepE ρ ok w st2.nx (argEnv [st2.env p,st2.env q]) #[vp,vq]):
    CallsD P f #[vp,vq] u w fun e u2 w'=>∃rv,e=.returned rv∧settle u2=.returning∧∃(st3:St) (ρ':Nat→Value) (ok':Nat→Prop) (D:List Nat),st3.dt=D++st2.dt∧evF.fin cx res so ⟨st2.env,st3.hp,st3.nx,st3.dt⟩=some y∧RepH ρ' ok' w' st3.hp st3.nx∧Goes ρ ok w st2.hp st2.nx D ρ' ok' w' st3.hp st3.nx:=by
  refine callsD_of_wpS hf hb fun c₀ cs hu=>?_
  have hvo:v.oneCell'=true:=by rcases hm with ⟨_,rfl⟩|⟨n,_,rfl⟩<;>rfl
  obtain ⟨cs',u2,hcs,hset,hrec⟩:∃cs' u2,cs'={c₀ with mode:=u2}::cs∧settle u2=.returning∧(recoverD (c₀::cs)=some (v,cs')∨(recoverD (c₀::cs)=none∧v=.nilIface∧cs'=c₀::cs)):=by
    rcases hm with ⟨rfl,rfl⟩|⟨n,rfl,rfl⟩
    · refine ⟨c₀::cs,.returning,by rw [←hu],rfl,.inr ⟨?_,rfl,rfl⟩⟩
      simp [recoverD,hu]
    · refine ⟨_,.panicking [{v:=bpan cx.pan n,recovered:=true}],rfl,rfl,.inl ?_⟩
      simp [recoverD,hu,panE]
  refine wpS_recover hr hrec (wpS_of_wp ?_)
  have hsz:(#[vp,vq]++Array.replicate (gf.ntmps-2) undef).size=max 2 gf.ntmps:=by simp;omega
  have hlt:∀t,t=tr∨t∈writes G→t<max 2 gf.ntmps:=fun t ht=>by
    have:=allBlt_iff.1 hW t (by rcases ht with rfl|ht;exact List.mem_cons_self;exact List.mem_cons_of_mem _ ht)
    omega
  unfold evClo at hev
  have hE1:RepE ρ ok w st2.nx (argEnv [st2.env p,st2.env q]) (#[vp,vq]++Array.replicate (gf.ntmps-2) undef):=by
    intro t s hs
    obtain ⟨v',h1,h2⟩:=hE t s hs
    refine ⟨v',?_,h2⟩
    rw [Array.getElem?_append_left (Array.getElem?_eq_some_iff.1 h1).1]
    exact h1
  refine evC_ok hcx hinl hdr G (TS so) hG _ _ y hev ρ ok w _ hH ?_ ?_ _ ?_ ?_
  · have:=RepE.put (d:=some tr) (v:=v) (s:=some (.v false [.val v])) hE1 (fun x hx=>by cases hx;exact ⟨_,rfl,rfl,hvo⟩) (fun t ht=>by cases ht;exact hsz.symm▸hlt tr (.inl rfl))
    exact this
  · intro t ht
    show t<(Array.setIfInBounds _ _ _).size
    rw [Array.size_setIfInBounds]
    exact hsz.symm▸hlt t (.inr ht)
  · rintro o e a' w' h1 h2 ⟨ρ',ok',D,g1,g2,g3,g4,g5⟩
    have hres':(results gf a'.tmps).run P w'=.ok (.tuple #[]) w':=by
      unfold results
      rw [hres]
      simp
    have hdef:a'.defers=[]:=g5.defers
    cases o with
    |normal st3=>cases h2;exact ⟨hdef,u2,hcs,_,hres',_,rfl,hset,st3,ρ',ok',D,g1,h1,g2,g4⟩
    |ret st3=>cases h2;exact ⟨hdef,u2,hcs,_,hres',_,rfl,hset,st3,ρ',ok',D,g1,h1,g2,g4⟩
    |exit id st3=>cases h1
    |pan n st3=>cases h1
  · intro n st' a' w' h1
    cases h1
theorem CallsD.mono {f:FuncId} {args:Array Value} {u:FrameMode} {w:World} {R R':Ending→FrameMode→World→Prop} (h:CallsD P f args u w R) (hR:∀e u w,R e u w→R' e u w):CallsD P f args u w R':=by
  intro c cs hc
  obtain ⟨e,u',w',fr,h1,h2,h3,h4⟩:=h c cs hc
  exact ⟨e,u',w',fr,hR _ _ _ h1,h2,h3,h4⟩
theorem def_ok (hcx : CxOk P cx) (hinl : InlOk P cx.pan inl) (hdr : DrawnOk P cx) {g : FuncId} {fn : Func} (hg : P.funcs[g]? = some fn) {pre : List (Code × H)} {i : Nat} {om od : Oper} {E : Code} (hb : fn.body = some (seqs pre (.seq (.region i #[om,od] false) E)))
    {f p q t : Nat} (hd : DoorOk om od f p q t) {gf : Func} (hf : P.funcs[f]? = some gf) (hgn : gf.name ≠ "runtime.NumGoroutine") {ir tr : Nat} {or : Oper} {G : Code} (hgb : gf.body = some (.seq (.region ir #[or] false) G)) (hr : RecOk or tr) (hres : gf.results = #[])
    (hWg:allBlt gf.ntmps (tr::writes G)=true) (hWf:allBlt fn.ntmps (t::(writesL pre++writes E))=true) (hpq:apartN [p,q] (t::writes E)=true)
    {hE hG:H} {n:Nat} {si so:Sh} (hso:shBelow so=true) {F:TS si→Option (TS so)} (hF:∀x y,F x=some y→evDef cx inl pre E hE G hG p q t tr fn.results.toList si so x=some y):SpecOk P g ⟨n,si,so,F⟩:=by
  intro x y hxy ρ ok w args _ hH hE0
  have hev:=hF x y hxy
  unfold evDef at hev
  have hlt:∀u,(u=t∨u∈writesL pre∨u∈writes E)→u<fn.ntmps:=fun u hu=>allBlt_iff.1 hWf u (by
    rcases hu with rfl|hu|hu
    · exact List.mem_cons_self
    · exact List.mem_cons_of_mem _ (List.mem_append_left _ hu)
    · exact List.mem_cons_of_mem _ (List.mem_append_right _ hu))
  have hap:=apartN_iff.1 hpq
  have hpt:p≠t:=fun e=>hap p (by simp) (by simp [e])
  have hqt:q≠t:=fun e=>hap q (by simp) (by simp [e])
  have hpE:p∉writes E:=fun h=>hap p (by simp) (List.mem_cons_of_mem _ h)
  have hqE:q∉writes E:=fun h=>hap q (by simp) (List.mem_cons_of_mem _ h)
  -- behind all: the results
  have fin:∀(tm:Array Value) (w':World) (st3:St) (ρ3:Nat→Value) (ok3:Nat→Prop) (D:List Nat),evF.fin cx fn.results.toList so st3=some y→RepH ρ3 ok3 w' st3.hp st3.nx→RepE ρ3 ok3 w' st3.nx st3.env tm→Goes ρ ok w (hpOut si id x) 1000 D ρ3 ok3 w' st3.hp st3.nx→
      ∃v,(results fn tm).run P w'=.ok v w'∧∃u ρ' ok',Ending.returned v=.returned u∧RepH ρ' ok' w' (hpOut so id y) so.nn∧RepE ρ' ok' w' so.nn (envOut so id y) #[u]∧Exits (hpOut si id x) ρ ok w (hpOut so id y) ρ' ok' w':=by
    intro tm w' st3 ρ3 ok3 D h1 h2 h3 h4
    obtain ⟨s,hs⟩:=fin_res h1
    obtain ⟨v,k1,k2⟩:=res_ok (P:=P) (fn:=fn) hcx.tab h2 h3 hs
    exact ⟨v,k1,fin_ok hso h1 h2 (fun s' hs'=>by rw [hs] at hs';cases hs';exact k2) h4⟩
  have hsz:∀u,u<fn.ntmps→u<(args++Array.replicate (fn.ntmps-args.size) undef).size:=fun u hu=>by
    simp only [Array.size_append,Array.size_replicate];omega
  refine calls_of_wp_defers hg hb ?_
  refine evPre_ok hcx hinl hdr (W:=writesL pre) pre _ (fun _ h=>h) hev ρ ok w _ hH ?_ (fun u hu=>hsz u (hlt u (.inr (.inl hu)))) ?_ ?_ ?_
  · intro u s hs
    obtain ⟨v,k1,k2⟩:=hE0 u s hs
    refine ⟨v,?_,k2⟩
    show (args++_)[u]?=some v
    rw [Array.getElem?_append_left (Array.getElem?_eq_some_iff.1 k1).1]
    exact k1
  · rintro st a w1 hκ ⟨ρ1,ok1,D1,g1,g2,g3,g4,g5⟩
    have hta:t<a.tmps.size:=by rw [g5.size];exact hsz t (hlt t (.inl rfl))
    refine wp_seq (wp_door hd hta ?_)
    show E.wp P _ _ w1
    generalize hvp:a.eval (.tmp p)=vp
    generalize hvq:a.eval (.tmp q)=vq
    have had:a.defers=[]:=g5.defers
    -- the closure,and the results behind it
    have leaves:∀(st2:St) (a2:Act) (w2:World) (v:Value) (u:FrameMode),((u=.returning∧v=.nilIface)∨∃n,u=.panicking (panE cx.pan n)∧v=bpan cx.pan n)→evClo cx inl G hG p q tr fn.results.toList so st2 v=some y→
        After ⟨Lv.put st.env t none,st.hp,st.nx,st.dt⟩ ρ1 ok1 w1 {tmps:=a.tmps.setIfInBounds t (.func (.func f) #[] #[vp,vq]),defers:=⟨.fn (.func f) #[vp,vq],#[]⟩::a.defers} (writes E) st2 a2 w2→
        Leaves P fn a2.tmps (fun e w'=>∃v ρ' ok',e=.returned v∧RepH ρ' ok' w' (hpOut so id y) so.nn∧RepE ρ' ok' w' so.nn (envOut so id y) #[v]∧Exits (hpOut si id x) ρ ok w (hpOut so id y) ρ' ok' w') a2.defers u w2:=by
      rintro st2 a2 w2 v u hm hclo ⟨ρ2,ok2,D2,j1,j2,j3,j4,j5⟩
      have hdf:a2.defers=[⟨.fn (.func f) #[vp,vq],#[]⟩]:=by rw [j5.defers];simp [had]
      have tmp:∀z vz,z≠t→z∉writes E→a.eval (.tmp z)=vz→∀s,st2.env z=some s→∃v',(#[vz]:Array Value)[0]?=some v'∧SlotR ρ2 ok2 w2 st2.nx s v':=by
        intro z vz hz hzE hvz s hs
        obtain ⟨v',k1,k2⟩:=j3 z s hs
        have h1:a2.tmps[z]?=(a.tmps.setIfInBounds t (.func (.func f) #[] #[vp,vq]))[z]?:=j5.same z hzE
        rw [Array.getElem?_setIfInBounds_ne (fun e=>hz e.symm)] at h1
        rw [h1] at k1
        have:vz=v':=by rw [←hvz];simp [Act.eval,Array.getD_eq_getD_getElem?,k1]
        subst this
        exact ⟨vz,rfl,k2⟩
      have hEc:RepE ρ2 ok2 w2 st2.nx (argEnv [st2.env p,st2.env q]) #[vp,vq]:=by
        intro z s hs
        match z,hs with
        |0,hs=>
          obtain ⟨v',k1,k2⟩:=tmp p vp hpt hpE hvp s hs
          have:vp=v':=by simpa using k1
          exact ⟨vp,rfl,this▸k2⟩
        |1,hs=>
          obtain ⟨v',k1,k2⟩:=tmp q vq hqt hqE hvq s hs
          have:vq=v':=by simpa using k1
          exact ⟨vq,rfl,this▸k2⟩
        |z+2,hs=>cases hs
      rw [hdf]
      have hent:Enters P f:=⟨gf,hf,by rw [hgb];rfl,hgn⟩
      refine ⟨by rcases hm with ⟨rfl,_⟩|⟨n,rfl,_⟩<;>(intro e;cases e),.func f,#[vp,vq],f,#[vp,vq],rfl,?_,?_⟩
      · show (invoke (.fn (.func f) #[vp,vq]) #[]).run P w2=_
        simp only [invoke]
        rw [callFunc_run hent]
        simp
      · refine (clo_ok hcx hinl hdr hf hgb hr hres hWg hclo hm j2 hEc).mono ?_
        rintro e u2 w3 ⟨rv,rfl,hset,st3,ρ3,ok3,D3,q1,q2,q3,q4⟩
        show Leaves P fn a2.tmps _ [] (settle u2) w3
        rw [hset]
        exact fin a2.tmps w3 ⟨st2.env,st3.hp,st3.nx,st3.dt⟩ ρ3 ok3 _ q2 q3 (j3.move q4 j2) ((g4.trans j4).trans q4)
    refine evC_ok hcx hinl hdr E (TS so) hE ⟨Lv.put st.env t none,st.hp,st.nx,st.dt⟩ _ y hκ ρ1 ok1 w1 _ g2 ?_ ?_ _ ?_ ?_
    · exact RepE.put (d:=some t) (s:=none) (v:=.func (.func f) #[] #[vp,vq]) g3 (fun x hx=>by cases hx) (fun u hu=>by cases hu;exact hta)
    · intro u hu
      show u<(Array.setIfInBounds _ _ _).size
      rw [Array.size_setIfInBounds,g5.size]
      exact hsz u (hlt u (.inr (.inr hu)))
    · intro o e a2 w2 k1 k2 k3
      cases o with
      |normal st2=>cases k2;exact leaves st2 a2 w2 _ .returning (.inl ⟨rfl,rfl⟩) k1 k3
      |ret st2=>cases k2;exact leaves st2 a2 w2 _ .returning (.inl ⟨rfl,rfl⟩) k1 k3
      |exit id st2=>cases k1
      |pan n st2=>cases k2
    · intro n st2 a2 w2 k1 k3
      exact leaves st2 a2 w2 _ (.panicking (panE cx.pan n)) (.inr ⟨n,rfl,rfl⟩) k1 k3
  · intro o e a w1 hno hκ hoe hA
    cases o with
    |normal st=>exact absurd rfl (hno st)
    |exit id st=>cases hκ
    |pan n st=>cases hκ
    |ret st=>
      cases hoe
      obtain ⟨ρ1,ok1,D1,g1,g2,g3,g4,g5⟩:=hA
      show Leaves P fn a.tmps _ a.defers .returning w1
      rw [show a.defers=[] from g5.defers]
      exact fin a.tmps w1 st ρ1 ok1 _ hκ g2 g3 g4
  · intro n st a w1 hκ
    cases hκ
theorem def_stk [Lk] (hcx:CxOk P cx) (hinl:InlOk P cx.pan inl) (hm:P.follows .mixedOrders=true) {g:FuncId} {fn:Func} (hg:P.funcs[g]?=some fn) {pre:List (Code×H)} {i:Nat} {om od:Oper} {E:Code} (hb:fn.body=some (seqs pre (.seq (.region i #[om,od] false) E)))
    {f p q t : Nat} (hd : DoorOk om od f p q t) {gf : Func} (hf : P.funcs[f]? = some gf) (hgn : (gf.name == "runtime.NumGoroutine") = false) {ir tr : Nat} {or : Oper} {G : Code} (hgb : gf.body = some (.seq (.region ir #[or] false) G)) (hr : RecOk or tr) (hres : gf.results = #[])
    (hWg:allBlt gf.ntmps (tr::writes G)=true) (hWf:allBlt fn.ntmps (t::(writesL pre++writes E))=true) (hpq:apartN [p,q] (t::writes E)=true)
    (hE hG:H) {n:Nat} {si so:Sh} (hso:shBelow so=true) {F:TS si→Option (TS so)} (hev:∀x,evDef cx inl pre E hE G hG p q t tr fn.results.toList si so x=F x):SpecOk P g ⟨n,si,so,stk F⟩:=by
  rw [stk_eq]
  exact def_ok hcx hinl (drawnOk hcx hm) hg hb hd hf (by simpa using hgn) hgb hr hres hWg hWf hpq (hE:=hE) (hG:=hG) hso fun x y hx=>by rw [hev];exact hx
def lC:Code→Code
  | .seq a _=>a
  |c=>c
def rC':Code→Code
  | .seq _ b=>b
  |c=>c
def opC (c:Code) (i:Nat):Oper:=match c with
  | .region _ ops _=>ops.getD i default
  |_=>default
end
end Lv
end
section
namespace Lv
open Go Go.RowKit
/-! ## Package variables by their names -/
def VarIs (P:Program) (w:World) (v:String×Nat×(Array Value→Prop)):Prop:=P.globalNamed v.1=some v.2.1∧∃cs,w.var? P v.1=some cs∧v.2.2 cs
theorem var_same {P:Program} {w w':World} {n:String} {g:Nat} (hg:P.globalNamed n=some g) (h:w'.heap[g]?=w.heap[g]?):w'.var? P n=w.var? P n:=by
  simp only [World.var?,hg,Option.bind_some,h]
/--the instance of a program's variables -/
@[reducible] def varG (P : Program) (l : List (String × Nat × (Array Value → Prop))) (d : Bool) : HasG where
  bs:=l.map (·.2.1)
  hold:=fun w=>∀v∈l,VarIs P w v
  draw:=d
  stable:=fun w w' h hs v hv=>by
    obtain ⟨h1,cs,h2,h3⟩:=h v hv
    exact ⟨h1,cs,(var_same h1 (hs v.2.1 (List.mem_map.2 ⟨v,hv,rfl⟩))).trans h2,h3⟩
variable [HasG]
/--how a function of the library ends:the world grew -/
theorem lib_end {so:Sh} {y:TS so} {w w':World} {ρ:Nat→Value} {ok:Nat→Prop} {hin:Heap} {nx:Nat} {v:Value} (hd:HasG.draw=false) (hb:Below w.heap.size w w') (hH:RepH ρ ok w hin nx) (hout:∀l o,hpOut so id y l=some o→False)
    (hE:∀ρ ok w nx,RepE ρ ok w nx (envOut so id y) #[v]):∃u ρ' ok',Ending.returned v=.returned u∧RepH ρ' ok' w' (hpOut so id y) so.nn∧RepE ρ' ok' w' so.nn (envOut so id y) #[u]∧Exits hin ρ ok w (hpOut so id y) ρ' ok' w':=by
  have hS:Same ok ok w w':=fun b h=>⟨h,hb.block b (hH.okl b h)⟩
  refine ⟨v,ρ,ok,rfl,⟨fun l o h=>(hout l o h).elim,fun b h=>Nat.lt_of_lt_of_le (hH.okl b h) hb.size,fun l o b h=>(hout l o h).elim,fun l m o p b h=>(hout l o h).elim,hH.gl.move hS⟩,hE _ _ _ _,
    ⟨hb.os,hb.tape,⟨hb.output,fun e=>by rw [hd] at e;cases e⟩,hb.size,fun b h _=>hb.block b h,fun _ h=>h,fun _ h=> .inl h,fun l o h=>(hout l o h).elim,fun l o b h=>(hout l o h).elim⟩⟩
theorem one_env {s:Slot} {v:Value} (h:∀ρ ok w nx,SlotR ρ ok w nx s v):∀(ρ:Nat→Value) (ok:Nat→Prop) (w:World) (nx:Nat),RepE ρ ok w nx (Lv.put (fun _=>none) 0 (some s)) #[v]:=by
  intro ρ ok w nx t u hu
  simp only [Lv.put] at hu
  split at hu
  · rename_i ht
    cases hu
    rw [Nat.eq_of_beq_eq_true ht]
    exact ⟨v,rfl,h _ _ _ _⟩
  · cases hu
/--arguments' values -/
theorem arg_at {ρ ok w nx} {env:Env} {args:Array Value} {c:Cell} {i:Nat} (hE:RepE ρ ok w nx env args) (h:env i=some (.v false [c])):∃v,args[i]?=some v∧CellR ρ ok w nx c v:=by
  obtain ⟨v,h1,d,e,h2⟩:=hE i _ h
  cases e
  exact ⟨v,h1,h2⟩
theorem args1 {args:Array Value} {a:Value} (hn:args.size=1) (h0:args[0]?=some a):args=#[a]:=by
  obtain ⟨l⟩:=args
  match l,hn,h0 with
  | [x],_,h0=>simp at h0;subst h0;rfl
theorem args2 {args:Array Value} {a b:Value} (hn:args.size=2) (h0:args[0]?=some a) (h1:args[1]?=some b):args=#[a,b]:=by
  obtain ⟨l⟩:=args
  match l,hn,h0,h1 with
  | [x,y],_,h0,h1=>simp at h0 h1;subst h0 h1;rfl
theorem args3 {args:Array Value} {a b c:Value} (hn:args.size=3) (h0:args[0]?=some a) (h1:args[1]?=some b) (h2:args[2]?=some c):args=#[a,b,c]:=by
  obtain ⟨l⟩:=args
  match l,hn,h0,h1,h2 with
  | [x,y,z],_,h0,h1,h2=>simp at h0 h1 h2;subst h0 h1 h2;rfl
/--a number to a text -/
theorem i2s_spec {P:Program} {f:Nat} (hd:HasG.draw=false) {F:Int→ByteArray} {lo hi:Int} (h:∀(n:Int) (w:World),lo≤n→n≤hi→HasG.hold w→Calls P f #[.int .i64 n] w fun e w'=>e=.returned (.string (F n))∧Below w.heap.size w w'):
    SpecOk P f ⟨1,⟨[(0,.v false [.int .i64])],[],[],0,[]⟩,⟨[(0,.v false [.str])],[],[],1000,[]⟩,fun (n,_)=>if lo≤n∧n≤hi then some (F n,()) else none⟩:=by
  rintro ⟨n,⟨⟩⟩ y hxy ρ ok w args hn hH hE
  have hxy:(if lo≤n∧n≤hi then some (F n,()) else none)=some y:=hxy
  split at hxy<;>cases hxy
  rename_i hr
  obtain ⟨v,h0,hv⟩:=arg_at (i:=0) (c:=.int .i64 n) hE rfl
  have hv:v=.int .i64 n:=hv
  subst hv
  rw [args1 hn h0]
  refine (h n w hr.1 hr.2 hH.gl.2).mono ?_
  rintro e w' ⟨rfl,hb⟩
  exact lib_end hd hb hH (fun l o h=>by cases h) (one_env fun _ _ _ _=>⟨_,rfl,rfl⟩)
/--two texts to a truth value -/
theorem ss2b_spec {P:Program} {f:Nat} (hd:HasG.draw=false) {F:ByteArray→ByteArray→Bool} {C:ByteArray→ByteArray→Prop} [∀a b,Decidable (C a b)] (h:∀(a b:ByteArray) (w:World),C a b→HasG.hold w→Calls P f #[.string a,.string b] w fun e w'=>e=.returned (.bool (F a b))∧Below w.heap.size w w'):
    SpecOk P f ⟨2,⟨[(0,.v false [.str]),(1,.v false [.str])],[],[],0,[]⟩,⟨[(0,.v false [.bool])],[],[],1000,[]⟩,fun (a,b,_)=>if C a b then some (F a b,()) else none⟩:=by
  rintro ⟨a,b,⟨⟩⟩ y hxy ρ ok w args hn hH hE
  have hxy:(if C a b then some (F a b,()) else none)=some y:=hxy
  split at hxy<;>cases hxy
  rename_i hr
  obtain ⟨v,h0,hv⟩:=arg_at (i:=0) (c:=.str a) hE rfl
  obtain ⟨u,h1,hu⟩:=arg_at (i:=1) (c:=.str b) hE rfl
  have hv:v=.string a:=hv
  have hu:u=.string b:=hu
  subst hv hu
  rw [args2 hn h0 h1]
  refine (h a b w hr hH.gl.2).mono ?_
  rintro e w' ⟨rfl,hb⟩
  exact lib_end hd hb hH (fun l o h=>by cases h) (one_env fun _ _ _ _=>⟨_,rfl,rfl⟩)
/--three texts to a text -/
theorem sss2s_spec {P:Program} {f:Nat} (hd:HasG.draw=false) {F:ByteArray→ByteArray→ByteArray→ByteArray} {C:ByteArray→ByteArray→ByteArray→Prop} [∀a b c,Decidable (C a b c)] (h:∀(a b c:ByteArray) (w:World),C a b c→HasG.hold w→Calls P f #[.string a,.string b,.string c] w fun e w'=>e=.returned (.string (F a b c))∧Below w.heap.size w w'):
    SpecOk P f ⟨3,⟨[(0,.v false [.str]),(1,.v false [.str]),(2,.v false [.str])],[],[],0,[]⟩,⟨[(0,.v false [.str])],[],[],1000,[]⟩,fun (a,b,c,_)=>if C a b c then some (F a b c,()) else none⟩:=by
  rintro ⟨a,b,c,⟨⟩⟩ y hxy ρ ok w args hn hH hE
  have hxy:(if C a b c then some (F a b c,()) else none)=some y:=hxy
  split at hxy<;>cases hxy
  rename_i hr
  obtain ⟨v,h0,hv⟩:=arg_at (i:=0) (c:=.str a) hE rfl
  obtain ⟨u,h1,hu⟩:=arg_at (i:=1) (c:=.str b) hE rfl
  obtain ⟨z,h2,hz⟩:=arg_at (i:=2) (c:=.str c) hE rfl
  have hv:v=.string a:=hv
  have hu:u=.string b:=hu
  have hz:z=.string c:=hz
  subst hv hu hz
  rw [args3 hn h0 h1 h2]
  refine (h a b c w hr hH.gl.2).mono ?_
  rintro e w' ⟨rfl,hb⟩
  exact lib_end hd hb hH (fun l o h=>by cases h) (one_env fun _ _ _ _=>⟨_,rfl,rfl⟩)
/--a text to a number,and whether there is no error -/
theorem s2ie_spec {P:Program} {f:Nat} (hd:HasG.draw=false) {F:ByteArray→Int×Bool} {C:ByteArray→Prop} [∀a,Decidable (C a)] (h:∀(a:ByteArray) (w:World),C a→HasG.hold w→Calls P f #[.string a] w fun e w'=>∃v,e=.returned (.tuple #[.int .i64 (F a).1,v])∧(((F a).2=true∧v=.nilIface)∨((F a).2=false∧∃t u,v=.iface t u))∧Below w.heap.size w w'):
    SpecOk P f ⟨1,⟨[(0,.v false [.str])],[],[],0,[]⟩,⟨[(0,.tup [(false,[.int .i64]),(false,[.ifc])])],[],[],1000,[]⟩,fun (a,_)=>if C a then some ((F a).1,(F a).2,()) else none⟩:=by
  rintro ⟨a,⟨⟩⟩ y hxy ρ ok w args hn hH hE
  have hxy:(if C a then some ((F a).1,(F a).2,()) else none)=some y:=hxy
  split at hxy<;>cases hxy
  rename_i hr
  obtain ⟨v,h0,hv⟩:=arg_at (i:=0) (c:=.str a) hE rfl
  have hv:v=.string a:=hv
  subst hv
  rw [args1 hn h0]
  refine (h a w hr hH.gl.2).mono ?_
  rintro e w' ⟨v,rfl,hv,hb⟩
  exact lib_end hd hb hH (fun l o h=>by cases h) (one_env fun _ _ _ _=>⟨[.int .i64 (F a).1,v],rfl,.cons ⟨_,rfl,rfl⟩ (.cons ⟨_,rfl,hv⟩ .nil)⟩)
end Lv
end
section
namespace Lv
open Go Go.RowKit
variable [HasG]
/-! ## Functions told in short -/
/--a function's number,how many arguments,its shapes,its hints -/
structure Fe where
  g:Nat
  n:Nat
  si:Sh
  so:Sh
  h:H
abbrev SpL:=List (Nat×List (Nat×AK)×Spec)
abbrev SqL:=List (Nat×List (Nat×AK)×SpecP)
def Fe.e (d:Fe) (k:List (Nat×AK)) (F:TS d.si→Option (TS d.so)):Nat×List (Nat×AK)×Spec:=(d.g,k,⟨d.n,d.si,d.so,F⟩)
def Fe.p (d:Fe) (k:List (Nat×AK)) (F:TS d.si→Option (TS d.so⊕Int)):Nat×List (Nat×AK)×SpecP:=(d.g,k,⟨d.n,d.si,d.so,F⟩)
/--what is walked in place:the number,which closures its arguments are,the function,its hints -/
abbrev InT:=List (Nat×List (Nat×Nat)×Func×H)
def inL:InT→Nat→List (Option Slot)→Heap→Option (Code×List ResultVar×H)
  | [],_,_,_=>none
  |(i,ks,f,h)::r,g,xs,hp=>bif Nat.beq g i&&ks.all (fun p=>cloK xs hp p.1 p.2) then some (f.body.getD .skip,f.results.toList,h) else inL r g xs hp
def fnB (f : Func) : Bool := f.body.isSome && (!(f.name == "runtime.NumGoroutine") && allBlt f.ntmps (writes (f.body.getD .skip)))
noncomputable def inl3 (c:Cx) (l:InT):Inl:=inlS c (inL l) (inlS c (inL l) (inlS c (inL l) inl0))
variable {P:Program} {c:Cx} {l:InT}
theorem fnB_ok {g:Nat} {f:Func} (h:P.funcs[g]?=some f) (h2:fnB f=true):FnOk P g (f.body.getD .skip) f.results.toList f.ntmps:=by
  unfold fnB at h2
  simp only [Bool.and_eq_true,Bool.not_eq_true'] at h2
  exact fnOk_mk h h2.1 h2.2.1 h2.2.2
def InOk (P:Program):InT→Prop
  | []=>True
  |(i,_,f,_)::r=>(P.funcs[i]?=some f∧fnB f=true)∧InOk P r
theorem inL_ok:∀{l:InT},InOk P l→∀n xs hp code res h,inL l n xs hp=some (code,res,h)→∃nt,FnOk P n code res nt
  | [],_,_,_,_,_,_,_,e=>by cases e
  |(i,ks,f,h)::r,ho,n,xs,hp,code,res,h',e=>by
    unfold inL at e
    cases hb:(Nat.beq n i&&ks.all (fun p=>cloK xs hp p.1 p.2)) with
    |true=>
      rw [hb] at e
      cases e
      rw [Nat.eq_of_beq_eq_true (Bool.and_eq_true_iff.1 hb).1]
      exact ⟨_,fnB_ok ho.1.1 ho.1.2⟩
    |false=>
      rw [hb] at e
      exact inL_ok ho.2 n xs hp code res h' e
theorem inl3_ok (hc:CxOk P c) (hm:P.follows .mixedOrders=true) (hl:InOk P l):InlOk P c.pan (inl3 c l):=
  inlS_ok hc (inlS_ok hc (inlS_ok hc (inl0_ok _ _) (drawnOk hc hm) (inL_ok hl)) (drawnOk hc hm) (inL_ok hl)) (drawnOk hc hm) (inL_ok hl)
noncomputable abbrev evI (c:Cx) (l:InT) (f:Func) (d:Fe) (x:TS d.si):Option (TS d.so):=evF c (inl3 c l) (f.body.getD .skip) f.results.toList d.h d.si d.so x
noncomputable abbrev evIP (c:Cx) (l:InT) (f:Func) (d:Fe) (x:TS d.si):Option (TS d.so⊕Int):=evFP c (inl3 c l) (f.body.getD .skip) f.results.toList d.h d.si d.so x
/--B is what a function computes -/
structure Fk (P:Program) (c:Cx) (l:InT) (f:Func) (d:Fe) (B:TS d.si→Option (TS d.so)):Prop where
  fn:P.funcs[d.g]?=some f:=by kernel_rfl
  fb:fnB f=true:=by kernel_rfl
  so:shBelow d.so=true:=by kernel_rfl
  ins:InOk P l:=by repeat' first|exact trivial|refine And.intro ?_ ?_|kernel_rfl
  ev:∀x,evI c l f d x=B x:=by intro x;kernel_rfl
structure FkP (P:Program) (c:Cx) (l:InT) (f:Func) (d:Fe) (B:TS d.si→Option (TS d.so⊕Int)):Prop where
  fn:P.funcs[d.g]?=some f:=by kernel_rfl
  fb:fnB f=true:=by kernel_rfl
  so:shBelow d.so=true:=by kernel_rfl
  ins:InOk P l:=by repeat' first|exact trivial|refine And.intro ?_ ?_|kernel_rfl
  ev:∀x,evIP c l f d x=B x:=by intro x;kernel_rfl
variable [Lk] {f:Func} {d:Fe}
theorem Fk.ok {B:TS d.si→Option (TS d.so)} (k:Fk P c l f d B) (hc:CxOk P c) (hm:P.follows .mixedOrders=true):SpecOk P d.g ⟨d.n,d.si,d.so,stk B⟩:=
  fn_stk hc (inl3_ok hc hm k.ins) hm (fnB_ok k.fn k.fb) d.h k.so k.ev
theorem FkP.ok {B:TS d.si→Option (TS d.so⊕Int)} (k:FkP P c l f d B) (hc:CxOk P c) (hm:P.follows .mixedOrders=true):SpecPOk P d.g c.pan ⟨d.n,d.si,d.so,stk B⟩:=
  fnP_stk hc (inl3_ok hc hm k.ins) hm (fnB_ok k.fn k.fb) d.h k.so k.ev
def Fe.ok (d:Fe) (P:Program) (F:TS d.si→Option (TS d.so)):Prop:=SpecOk P d.g ⟨d.n,d.si,d.so,F⟩
omit [Lk] in
theorem Fk.okF {B:TS d.si→Option (TS d.so)} (k:Fk P c l f d B) (hc:CxOk P c) (hm:P.follows .mixedOrders=true):d.ok P B:=
  fn_ok hc (inl3_ok hc hm k.ins) hm (fnB_ok k.fn k.fb) d.h k.so k.ev
/-! ## What a function's text says in short -/
/--an element,by an Int -/
def gt {α:Type} (xs:List α) (i:Int) (z:α):α:=List.getD xs (Int.toNat i) z
/--where c holds -/
def ck {α:Type} (c:Bool) (x:Option α):Option α:=bif c then x else none
/--is i a place among n? -/
def ib (i n:Int):Bool:=decide (0≤i)&&decide (i<n)
/--a join -/
def jn {S R:Type} (x:Option (S⊕R)) (k:S→Option R):Option R:=Option.bind x fun r=>match r with
  | .inl s=>k s
  | .inr r=>some r
def il {S R:Type} (s:S):Option (S⊕R):=some (.inl s)
def ir {S R:Type} (r:R):Option (S⊕R):=some (.inr r)
/--a slice's bounds -/
def sb (a b n:Int):Bool:=decide (0≤a)&&(decide (a≤b)&&decide (b≤n))
/--two texts' lengths can be added -/
def ca (a b:ByteArray):Bool:= !decide (((a.size+b.size:Nat):Int)>IntKind.i64.max)
def sq (a b:ByteArray):Bool:=a.toList==b.toList
def wr (n:Int):Int:=IntKind.i64.wrap n
/-! ## Regions whose order is open:all orders come to one text;a leaf bears the trees of what stands behind it -/
inductive AT where
  |u
  |l (ts:List AT)
  |n (a:AT) (r:List AT)
abbrev AgF:=(R:Type)→AT→(List AT→Option R)→Option R
mutual
noncomputable def agT (R:Type):AT→(List AT→Option R)→Option R
  | .u,f=>f []
  | .l ts,f=>f ts
  | .n a r,f=>agreeL (agT R a f::agTs R r f)
noncomputable def agTs (R:Type):List AT→(List AT→Option R)→List (Option R)
  | [],_=> []
  |a::r,f=>agT R a f::agTs R r f
end
def agI:AgF:=fun _ _ f=>f []
theorem agreeL_all {R:Type} {y:Option R} {r:List (Option R)} (h:∀z∈r,z=y):agreeL (y::r)=y:=if_pos h
mutual
theorem agT_c {R:Type} (x:Option R):∀t:AT,agT R t (fun _=>x)=x
  | .u=>by rw [agT]
  | .l _=>by rw [agT]
  | .n a r=>by
    rw [agT,agreeL_all fun y hy=>(agTs_c x r y hy).trans (agT_c x a).symm]
    exact agT_c x a
theorem agTs_c {R:Type} (x:Option R):∀(l:List AT),∀y∈agTs R l (fun _=>x),y=x
  | [],y,h=>by rw [agTs] at h;cases h
  |a::r,y,h=>by
    rw [agTs] at h
    rcases List.mem_cons.1 h with rfl|h
    · exact agT_c x a
    · exact agTs_c x r y h
end
theorem agI_c {R:Type} (t:AT) (f:List AT→Option R):agI R t f=f []:=rfl
end Lv
end
section
namespace Lv
open Go Go.RowKit
/--x is told,and P holds of it -/
def Tot {α:Type} (x:Option α) (P:α→Prop):Prop:=∃y,x=some y∧P y
variable {α β S R:Type}
@[simp] theorem tot_some {y : α} {P : α → Prop} : Tot (some y) P ↔ P y := ⟨fun ⟨_,h,hp⟩ => (by cases h; exact hp),fun h => ⟨y,rfl,h⟩⟩
@[simp] theorem tot_none {P : α → Prop} : Tot none P ↔ False := ⟨fun ⟨_,h,_⟩ => (by cases h),False.elim⟩
@[simp] theorem tot_ck {c : Bool} {x : Option α} {P : α → Prop} : Tot (ck c x) P ↔ c = true ∧ Tot x P := by
  cases c<;>simp [ck]
@[simp] theorem tot_cond {c : Bool} {a b : Option α} {P : α → Prop} : Tot (bif c then a else b) P ↔ (c = true → Tot a P) ∧ (c = false → Tot b P) := by
  cases c<;>simp
@[simp] theorem tot_bind {x : Option α} {f : α → Option β} {P : β → Prop} : Tot (Option.bind x f) P ↔ Tot x fun y => Tot (f y) P := by
  cases x<;>simp
@[simp] theorem tot_il {s : S} {P : S ⊕ R → Prop} : Tot (il s) P ↔ P (.inl s) := tot_some
@[simp] theorem tot_ir {r : R} {P : S ⊕ R → Prop} : Tot (ir r) P ↔ P (.inr r) := tot_some
theorem tot_jn {x:Option (S⊕R)} {k:S→Option R} {P:R→Prop}:Tot (jn x k) P↔Tot x (fun z=>match z with| .inl s=>Tot (k s) P| .inr r=>P r):=by
  cases x with
  |none=>simp [jn]
  |some z=>cases z<;>simp [jn]
theorem Tot.mono {x:Option α} {P Q:α→Prop} (h:Tot x P) (hq:∀y,P y→Q y):Tot x Q:=by
  obtain ⟨y,h,hp⟩:=h
  exact ⟨y,h,hq y hp⟩
/--a join whose states are Q -/
theorem tot_j {x:Option (S⊕R)} {k:S→Option R} {P:R→Prop} (Q:S→Prop) (h:Tot x (fun z=>match z with| .inl s=>Q s| .inr r=>P r)) (hk:∀s,Q s→Tot (k s) P):Tot (jn x k) P:=by
  rw [tot_jn]
  refine h.mono fun z hz=>?_
  cases z with
  |inl s=>exact hk s hz
  |inr r=>exact hz
theorem tot_l {body:S→Option (S⊕R)} {P:R→Prop} (m:S→Nat) (I:S→Prop) {s:S} (h0:I s)
    (h:∀s,I s→Tot (body s) fun z=>match z with| .inl s'=>I s'∧m s'<m s| .inr r=>P r):Tot (loopM body s) P:=by
  suffices H:∀n s,m s=n→I s→∃k r,iterM body k s=some r∧P r by
    obtain ⟨k,r,h1,h2⟩:=H _ s rfl h0
    exact ⟨r,@loopM_of ⟨[],fun _=>True,false,fun _ _ _ _=>trivial⟩ _ _ _ _ _ _ h1,h2⟩
  intro n
  induction n using Nat.strongRecOn with
  |ind n ih=>
    intro s hm hI
    obtain ⟨z,hz,hp⟩:=h s hI
    cases z with
    |inr r=>exact ⟨1,r,by simp [iterM,hz],hp⟩
    |inl s'=>
      obtain ⟨k,r,h1,h2⟩:=ih (m s') (by have:=hp.2;omega) s' rfl hp.1
      exact ⟨k+1,r,by simp only [iterM,hz];exact h1,h2⟩
/--a loop over a list's places -/
theorem tot_r {body:Int×Unit→Option ((Int×Unit)⊕R)} {P:R→Prop} (n:Nat)
    (h:∀i:Int,0≤i→i≤n→Tot (body (i,())) fun z=>match z with| .inl s'=>s'.1=i+1∧i<n| .inr r=>P r):Tot (loopM body ((0:Int),())) P:=by
  refine tot_l (fun s=>n-s.1.toNat) (fun s=>0≤s.1∧s.1≤(n:Int)) (by simp) ?_
  rintro ⟨i,u⟩ ⟨h1,h2⟩
  refine (h i h1 h2).mono fun z hz=>?_
  cases z with
  |inl s=>simp at hz h1 h2 ⊢;omega
  |inr r=>exact hz
@[simp] theorem ib_iff {i n : Int} : ib i n = true ↔ 0 ≤ i ∧ i < n := by simp [ib]
@[simp] theorem sb_iff {a b n : Int} : sb a b n = true ↔ 0 ≤ a ∧ a ≤ b ∧ b ≤ n := by simp [sb]
@[simp] theorem ca_iff {a b : ByteArray} : ca a b = true ↔ a.size + b.size ≤ 9223372036854775807 := by
  unfold ca
  simp only [Bool.not_eq_true',decide_eq_false_iff_not,show IntKind.i64.max=9223372036854775807 from by decide]
  omega
theorem wr_is (n:Int):wr n=(n+9223372036854775808)%18446744073709551616-9223372036854775808:=by
  unfold wr IntKind.wrap
  simp [IntKind.signed,IntKind.bits,Int.bmod]
  omega
theorem wr_id {n:Int} (h:-9223372036854775808≤n) (h2:n≤9223372036854775807):wr n=n:=by
  rw [wr_is];omega
@[simp] theorem bsz (a : Array UInt8) : (ByteArray.mk a).size = a.size := rfl
theorem u64w (n:Int):IntKind.u64.wrap n=n%18446744073709551616:=by
  unfold IntKind.wrap
  simp [IntKind.signed,IntKind.bits]
theorem ext_len (s:ByteArray) (a b:Nat):(s.extract a b).size=min b s.size-a:=by simp
theorem gt_mem {xs:List α} {i:Int} {z:α} (h:0≤i) (h2:i<(xs.length:Int)):gt xs i z∈xs:=by
  unfold gt
  have:i.toNat<xs.length:=by omega
  rw [List.getD_eq_getElem?_getD,List.getElem?_eq_getElem this]
  exact List.getElem_mem this
theorem gt_at {l:List α} {i:Nat} (h:i<l.length) (z:α):gt l (i:Int) z=l[i]:=by
  unfold gt
  rw [Int.toNat_natCast,List.getD_eq_getElem?_getD,List.getElem?_eq_getElem h]
  rfl
/--a loop over n places:what holds of each -/
theorem tot_ix {body:Int×Unit→Option ((Int×Unit)⊕R)} {P:R→Prop} (n:Nat) (Q:Nat→Prop)
    (h:∀i:Nat,i<n→Tot (body ((i:Int),())) fun z=>match z with| .inl s'=>s'.1=i+1∧Q i| .inr r=>P r)
    (he:(∀i,i<n→Q i)→Tot (body ((n:Int),())) fun z=>match z with| .inl s'=>False| .inr r=>P r):Tot (loopM body ((0:Int),())) P:=by
  refine tot_l (fun s=>n-s.1.toNat) (fun s=>∃i:Nat,s.1=(i:Int)∧i≤n∧∀j,j<i→Q j) ⟨0,rfl,by omega,fun j h=>by omega⟩ ?_
  rintro ⟨_,u⟩ ⟨i,rfl,h1,h2⟩
  by_cases hi:i<n
  · refine (h i hi).mono fun z hz=>?_
    cases z with
    |inr r=>exact hz
    |inl s=>
      refine ⟨⟨i+1,by simpa using hz.1,by omega,fun j hji=>?_⟩,by have:=hz.1;simp at this ⊢;omega⟩
      by_cases e:j=i
      · subst e;exact hz.2
      · exact h2 j (by omega)
  · have:i=n:=by omega
    subst this
    refine (he h2).mono fun z hz=>?_
    cases z with
    |inr r=>exact hz
    |inl s=>exact hz.elim
/--a loop over a list's places:what holds of each -/
theorem tot_all {l:List α} {body:Int×Unit→Option ((Int×Unit)⊕R)} {P:R→Prop} (Q:α→Prop)
    (h:∀(i:Nat) (hi:i<l.length),Tot (body ((i:Int),())) fun z=>match z with| .inl s'=>s'.1=i+1∧Q l[i]| .inr r=>P r)
    (he:(∀x∈l,Q x)→Tot (body ((l.length:Int),())) fun z=>match z with| .inl s'=>False| .inr r=>P r):Tot (loopM body ((0:Int),())) P:=
  tot_ix l.length (fun i=>∀h:i<l.length,Q l[i]) (fun i hi=>(h i hi).mono fun z hz=>by
    cases z with
    |inr r=>exact hz
    |inl s=>exact ⟨hz.1,fun _=>hz.2⟩) fun hq=>he fun x hx=>by
    obtain ⟨j,hj,rfl⟩:=List.getElem_of_mem hx
    exact hq j hj hj
end Lv
end
