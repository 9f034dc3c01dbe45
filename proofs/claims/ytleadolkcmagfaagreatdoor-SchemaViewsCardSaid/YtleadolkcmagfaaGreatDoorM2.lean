import Derived.Test.YtleadolkcmagfaaGreatDoorM1
import Derived.Laws.Cover3
import Derived.Orders
import Derived.Laws.StructEq
import Derived.ChangeKeysEq
import Derived.ProofKit
import Derived.SizedLaws
import Derived.Below
import Derived.ChangeOld
import Derived.Deep.Slices
import Derived.OpenShut
import Derived.Lib.AppendZerosOnto
import Derived.Lib.Overlaps
import Derived.Laws.Externs
import Derived.Laws.CopyRow
import Derived.Lib.JoinLaws
import Derived.Recover
import Derived.FnData
import Derived.Lib.LaidTab
set_option linter.all false
set_option linter.unusedVariables false
set_option linter.unusedSimpArgs false
set_option linter.unusedSectionVars false
section
namespace Lv
variable [eR]
open Go Go.RowKit
theorem io:∀{a b:List Nat},gZ a b=true↔∀x∈a,x∉b
 | [],b=>by simp [gZ]
 |x::r,b=>by
  simp only [gZ,Bool.and_eq_true,Bool.not_eq_true',List.mem_cons,forall_eq_or_imp,io (a:=r)]
  refine and_congr ?_ Iff.rfl
  rw [←gV]
  simp
theorem rn {ren:Ren} {m:Nat}:∀{l:List (Nat×Bool×OSh)},Ef ren m l=true→∀p∈l,ren p.1≠some m
  | [],_,p,hp=>by cases hp
  |(k,r)::l,h,p,hp=>by
    simp only [Ef,Bool.and_eq_true] at h
    rcases List.mem_cons.1 hp with rfl|hp
    · intro e
      rw [e] at h
      simp [Nat.beq_refl] at h
    · exact rn h.2 p hp
theorem zy {ren : Ren} : ∀ {l : List (Nat × Bool × OSh)},injO ren l = true → ∀ p ∈ l,∀ q ∈ l,∀ m,ren p.1 = some m → ren q.1 = some m → p.1 = q.1
  | [],_,p,hp,_,_,_,_,_=>by cases hp
  |(k,r)::l,h,p,hp,q,hq,m,e1,e2=>by
    simp only [injO,Bool.and_eq_true] at h
    rcases List.mem_cons.1 hp with rfl|hp
    · rcases List.mem_cons.1 hq with rfl|hq
      · rfl
      · rw [e1] at h
        exact absurd e2 (rn h.1 q hq)
    · rcases List.mem_cons.1 hq with rfl|hq
      · rw [e2] at h
        exact absurd e1 (rn h.1 p hp)
      · exact zy h.2 p hp q hq m e1 e2
theorem ix {ren:Ren}:∀{l:List (Nat×Bool×OSh)} {p:Nat×Bool×OSh} {m:Nat},p∈l→ren p.1=some m→m∈names (ib ren l)
  |(k,r)::l,p,m,hp,e=>by
    simp only [ib,names,List.map_append,List.mem_append]
    rcases List.mem_cons.1 hp with rfl|hp
    · left;simp only at e;rw [e];simp
    · exact .inr (ix hp e)
theorem tj {ren:Ren}:∀{l:List (Nat×Bool×OSh)} {p:Nat×Option Ob},p∈ib ren l→p.2=none
  |(k,r)::l,p,h=>by
    simp only [ib,List.mem_append] at h
    rcases h with h|h
    · split at h
      · cases List.mem_singleton.1 h;rfl
      · cases h
    · exact tj h
theorem qh (hp:cp):∀(cs:List CSh) (ds:List Cell),dW hp (Aj hp cs ds)
 | [],ds=>by cases ds<;>exact fun p hp=>by cases hp
 |c::r,[]=>by cases c<;>exact fun p hp=>by cases hp
 |c::r,d::ds=>by
  have ih:=qh hp r ds
  cases c<;>first|exact ih|exact (nk hp [d]).app ih
theorem wT (hp:cp):∀(cs:List (Bool×List CSh)) (ds:List (Bool×List Cell)),dW hp (Bw hp cs ds)
 | [],_=>fun p hp=>by cases hp
 |_::_,[]=>fun p hp=>by cases hp
 |(_,cs)::r,(_,ds)::s=>(qh hp cs ds).app (wT hp r s)
theorem dW.nil (hp:cp):dW hp []:=fun p hp=>by cases hp
theorem ro (env:Env) (hp:cp):∀l,dW hp (ni env hp l)
  | []=>dW.nil hp
  |(t,.v _ cs)::r=>by
    refine dW.app ?_ (ro env hp r)
    split
    · exact qh hp _ _
    · exact dW.nil hp
  |(t,.tup l)::r=>by
    refine dW.app ?_ (ro env hp r)
    split
    · exact wT hp _ _
    · exact dW.nil hp
theorem qi (hp:cp) (ren:Ren):∀l,dW hp (tb hp ren l)
  | []=>dW.nil hp
  |(l,_,.box _ cs)::r=>by
    refine dW.app ?_ (qi hp ren r)
    split
    · split
      · exact qh hp _ _
      · exact dW.nil hp
    · exact dW.nil hp
  |(l,_,.arr _ _)::r=>qi hp ren r
  |(l,_,.mp _ _)::r=>qi hp ren r
theorem gN (sh:Sh) (env:Env) (hp:cp):dW hp (fv sh env hp):=(ro env hp _).app (qi hp _ _)
section
variable {ρ:Nat→Value} {ok:Nat→Prop} {w:World} {hp:cp} {nx:Nat} {env:Env} {tmps:Array Value}
theorem eC (sh:Sh) (q:Nat):q∈names (dJ sh env hp)↔q∈names (fv sh env hp)∨q∈names (ib (bL sh env hp) sh.ob):=by
 simp only [dJ,fv,names,List.map_append,List.mem_append]
theorem De (hH : dB ρ ok w hp nx) (hE : dM ρ ok w nx env tmps) {sh : Sh} (hbel : gM sh = true) {x : TS sh} (hx : wy sh env hp = some x) {f : Nat → Nat} {nx0 : Nat} (hf : lg f nx0 sh.nn (bL sh env hp))
    {H0:cp} (hB':∀q o,H0 q=some o→q<nx0∧ObR ρ (fp ok ρ (names (fv sh env hp))) w nx0 q o∧ups hp (fv sh env hp) q=some o∧q∉names (ib (bL sh env hp) sh.ob)) {E0:Env} (hE0:dM ρ ok w nx0 E0 tmps):
    dB (reρ ρ nx0 (bL sh env hp)) (fp ok ρ (names (fv sh env hp))) w (ofO f H0 sh.ob (ja f E0 sh.sl x).2) (nx0+sh.nn)∧
    dM (reρ ρ nx0 (bL sh env hp)) (fp ok ρ (names (fv sh env hp))) w (nx0+sh.nn) (ja f E0 sh.sl x).1 tmps∧
    (∀q o,ofO f H0 sh.ob (ja f E0 sh.sl x).2 q=some o→(∃p∈sh.ob,q=f p.1∧p.1<sh.nn∧Fo ρ hp (bL sh env hp) p.1 o)∨(H0 q=some o∧∀p∈sh.ob,q≠f p.1)):=by
  unfold wy at hx
  split at hx<;>try (cases hx;done)
  rename_i hinj
  obtain ⟨hinj,hap⟩:=Bool.and_eq_true_iff.1 hinj
  have hap:=io.1 hap
  obtain ⟨hb1,hb2⟩:=Bool.and_eq_true_iff.1 hbel
  have hF:=gN sh env hp
  have e1:=qe hH hF
  have hB:∀q o,H0 q=some o→o.own=true→q<nx0∧hp q=some o∧q∉names (dJ sh env hp):=by
    intro q o h hw
    obtain ⟨g1,g2,g3,g4⟩:=hB' q o h
    rcases fG hF q with ⟨_,e,t,xs,_,k1⟩|⟨k1,k2⟩
    · rw [k1] at g3;cases g3;cases hw
    · exact ⟨g1,k2▸g3,fun hl=>((eC sh q).1 hl).elim k1 g4⟩
  have hm:∀b,ok b→fp ok ρ (names (fv sh env hp)) b:=fun b hb=> .inl hb
  have hS:fc ok (fp ok ρ (names (fv sh env hp))) w w:=fun b hb=>⟨.inl hb,rfl⟩
  have hzn:∀p∈fv sh env hp,∀b,blk (ρ p.1)=some b→fp ok ρ (names (fv sh env hp)) b:=fun p hp b hb=> .inr ⟨p.1,List.mem_map.2 ⟨p,hp,rfl⟩,hb⟩
  have hρ:∀l,l<nx0→reρ ρ nx0 (bL sh env hp) l=ρ l:=fun l hl=>by simp [reρ,hl]
  have hE0':dM (reρ ρ nx0 (bL sh env hp)) (fp ok ρ (names (fv sh env hp))) w (nx0+sh.nn) E0 tmps:=fun t s hs=>
    let ⟨v,h1,h2⟩:=hE0 t s hs
    ⟨v,h1,h2.move hS hρ (by omega)⟩
  obtain ⟨h1,h2⟩:=Au hH hE hm hf hE0' sh.sl _ x hb1 (fun p hp=>hzn p (List.mem_append_left _ hp)) hx
  have hO:=Av (H0:=H0) hH hm hf sh.ob _ hb2 (fun p hp=>hzn p (List.mem_append_right _ hp)) h1
  -- an own object of what is taken: where it was
  have src:∀q o b,ofO f H0 sh.ob (ja f E0 sh.sl x).2 q=some o→o.own=true→blk (reρ ρ nx0 (bL sh env hp) q)=some b→
      (∃p∈sh.ob,q=f p.1∧∃m r,bL sh env hp p.1=some m∧hp m=some r∧r.own=true∧blk (ρ m)=some b)∨(H0 q=some o∧hp q=some o∧blk (ρ q)=some b∧q∉names (dJ sh env hp)):=by
    intro q o b hq hw hb
    rcases hO q o hq with ⟨p,hp1,hp2,hp3,hp4,hp5⟩|⟨hp1,hp2⟩
    · left
      refine ⟨p,hp1,hp2,?_⟩
      rw [hp2,hf.at hp3] at hb
      rcases hp5.src with ⟨m,r,g1,g2,g3⟩|g1
      · rw [g1] at hb;exact ⟨m,r,g1,g2,g3,hb⟩
      · rw [g1] at hb;cases hb
    · right
      obtain ⟨g1,g3,g4⟩:=hB q o hp1 hw
      rw [hρ q g1] at hb
      exact ⟨hp1,g3,hb,g4⟩
  refine ⟨⟨?_,e1.1.okl,?_,?_,e1.1.gl⟩,h2,fun q o hq=>(hO q o hq).imp (fun ⟨p,a,b,c,_,d⟩=>⟨p,a,b,c,d⟩) id⟩
  · intro q o hq
    rcases hO q o hq with ⟨p,hp1,hp2,hp3,hp4,hp5⟩|⟨hp1,hp2⟩
    · exact ⟨by rw [hp2];exact hf.lt hp3,hp4⟩
    · obtain ⟨g1,g2,g3,g4⟩:=hB' q o hp1
      exact ⟨by omega,g2.move (fc.refl _ _) hρ (by omega) (hρ q g1) fun _ _ _=>rfl⟩
  · intro q o b hq hw hb hok
    rcases src q o b hq hw hb with ⟨p,hp1,hp2,m,r,g1,g2,g3,g4⟩|⟨g0,g1,g2,g3⟩
    · rcases hok with hok|⟨l',hl',hbl⟩
      · exact hH.sep m r b g2 g3 g4 hok
      · rcases fG hF l' with ⟨_,e,t,xs,k1,_⟩|⟨k1,_⟩
        · have:=hH.dis m l' r _ b g2 k1 g3 rfl g4 hbl
          subst this
          exact hap m hl' (ix hp1 g1)
        · exact k1 hl'
    · rcases hok with hok|⟨l',hl',hbl⟩
      · exact hH.sep q o b g1 hw g2 hok
      · rcases fG hF l' with ⟨_,e,t,xs,k1,_⟩|⟨k1,_⟩
        · have:=hH.dis q l' o _ b g1 k1 hw rfl g2 hbl
          subst this
          exact g3 ((eC sh _).2 (.inl hl'))
        · exact k1 hl'
  · intro q q' o o' b hq hq' hw hw' hb hb'
    rcases src q o b hq hw hb with ⟨p,hp1,hp2,m,r,g1,g2,g3,g4⟩|⟨g0,g1,g2,g3⟩
    · rcases src q' o' b hq' hw' hb' with ⟨p',hp1',hp2',m',r',g1',g2',g3',g4'⟩|⟨g0',g1',g2',g3'⟩
      · have:=hH.dis m m' r r' b g2 g2' g3 g3' g4 g4'
        subst this
        rw [hp2,hp2',zy hinj p hp1 p' hp1' m g1 g1']
      · have:=hH.dis m q' r o' b g2 g1' g3 hw' g4 g2'
        subst this
        exact absurd ((eC sh _).2 (.inr (ix hp1 g1))) g3'
    · rcases src q' o' b hq' hw' hb' with ⟨p',hp1',hp2',m',r',g1',g2',g3',g4'⟩|⟨g0',g1',g2',g3'⟩
      · have:=hH.dis q m' o r' b g1 g2' hw g3' g2 g4'
        subst this
        exact absurd ((eC sh _).2 (.inr (ix hp1' g1'))) g3
      · exact hH.dis q q' o o' b g1 g1' hw hw' g2 g2'
theorem BR {ρ0 : Nat → Value} {ok0 : Nat → Prop} {w0 : World} {hp0 : cp} {nx0 : Nat} {D : List Nat} (G : fd ρ0 ok0 w0 hp0 nx0 D ρ ok w hp nx) (hH : dB ρ ok w hp nx) {sh : Sh}
    {f:Nat→Nat} (hf:lg f nx0 sh.nn (bL sh env hp)) {H0:cp} {D0:List Nat} {hp2:cp}
    (hO:∀q o,hp2 q=some o→(∃p∈sh.ob,q=f p.1∧p.1<sh.nn∧Fo ρ hp (bL sh env hp) p.1 o)∨(H0 q=some o∧∀p∈sh.ob,q≠f p.1))
    (hO':∀q,(∀p∈sh.ob,q≠f p.1)→hp2 q=H0 q)
    (hB1:∀q o,H0 q=some o→q<nx0∧∃p,hp q=some p∧(o.own=true→p.own=true)) (hB2:∀q,q<nx0→q∉D0→H0 q=hp0 q)
    (hob:∀p∈sh.ob,f p.1∈D0) (hC:∀d,d∈names (dJ sh env hp)∨d∈D→d<nx0→hp0 d≠none→d∈D0):
    fd ρ0 ok0 w0 hp0 nx0 D0 (reρ ρ nx0 (bL sh env hp)) (fp ok ρ (names (fv sh env hp))) w hp2 (nx0+sh.nn):=by
  have hρ:∀l,l<nx0→reρ ρ nx0 (bL sh env hp) l=ρ l:=fun l hl=>by simp [reρ,hl]
  have hF:=gN sh env hp
  -- an own object now,with a block
  have was:∀l o b,hp l=some o→o.own=true→blk (ρ l)=some b→l∈names (dJ sh env hp)→w0.heap.size≤b∨∃m∈D0,m<nx0∧∃p,hp0 m=some p∧p.own=true∧blk (ρ0 m)=some b:=by
    intro l o b ho hw hb hl
    by_cases h:l<nx0
    · obtain ⟨p,h1,h2⟩:=G.stay l h o ho
      exact .inr ⟨l,hC l (.inl hl) h (by rw [h1];simp),h,p,h1,h2 hw,by rw [←G.rho l h];exact hb⟩
    · rcases G.nb l o b (by omega) ho hw hb with h1|⟨m,hm,h1,p,h2,h3,h4⟩
      · exact .inl h1
      · exact .inr ⟨m,hC m (.inr hm) h1 (by rw [h2];simp),h1,p,h2,h3,h4⟩
  refine ⟨G.os,G.tape,G.output,G.size,by omega,?_,fun l hl=>(hρ l hl).trans (G.rho l hl),fun b hb=> .inl (G.okm b hb),?_,?_,?_,?_⟩
  · intro b hb hne
    exact G.same b hb fun l hl hlt o ho hw=>hne l (hC l (.inr hl) hlt (by rw [ho];simp)) hlt o ho hw
  · rintro b (hb|⟨l,hl,hb⟩)
    · rcases G.okn b hb with h|h|⟨l,hl,hlt,o,ho,hr⟩
      · exact .inl h
      · exact .inr (.inl h)
      · exact .inr (.inr ⟨l,hC l (.inr hl) hlt (by rw [ho];simp),hlt,o,ho,hr⟩)
    · rcases fG hF l with ⟨_,e,t,xs,k1,_⟩|⟨k1,_⟩
      · rcases was l _ b k1 rfl hb ((eC sh _).2 (.inl hl)) with h|h
        · exact .inr (.inl h)
        · exact .inr (.inr h)
      · exact absurd hl k1
  · intro l hl hn
    rw [hO' l fun p hp e=>hn (e▸hob p hp)]
    exact hB2 l hl hn
  · intro l hl o ho
    rcases hO l o ho with ⟨p,hp1,hp2,hp3,hp4⟩|⟨hp1,hp2⟩
    · rcases hf p.1 hp3 with e|⟨e1,e2⟩
      · omega
      · rcases hp4.src with ⟨m,r,g1,g2,g3⟩|g1
        · rw [e1] at g1
          cases g1
          rw [←hp2] at g2
          obtain ⟨q,k1,k2⟩:=G.stay l hl r g2
          exact ⟨q,k1,fun _=>k2 g3⟩
        · rw [e1] at g1;cases g1
    · obtain ⟨p,g1,g2⟩:=(hB1 l o hp1).2
      obtain ⟨q,g3,g4⟩:=G.stay l hl p g1
      exact ⟨q,g3,fun h=>g4 (g2 h)⟩
  · intro l o b hl ho hw hb
    rcases hO l o ho with ⟨p,hp1,hp2,hp3,hp4⟩|⟨hp1,hp2⟩
    · rw [hp2,hf.at hp3] at hb
      rcases hp4.src with ⟨m,r,g1,g2,g3⟩|g1
      · rw [g1] at hb
        exact was m r b g2 g3 hb ((eC sh _).2 (.inr (ix hp1 g1)))
      · rw [g1] at hb;cases hb
    · exact absurd (hB1 l o hp1).1 (by omega)
theorem ns (f:Nat→Nat) (H0:cp):∀(l:List (Nat×Bool×OSh)) (y:TO l) (q:Nat),(∀p∈l,q≠f p.1)→ofO f H0 l y q=H0 q
  | [],y,q,_=>rfl
  |(l,k,.box e cs)::r,y,q,h=>by
    simp only [ofO]
    rw [im _ _ (h _ List.mem_cons_self)]
    exact ns f H0 r _ q fun p hp=>h p (List.mem_cons_of_mem _ hp)
  |(l,k,.arr e t)::r,y,q,h=>by
    simp only [ofO]
    rw [im _ _ (h _ List.mem_cons_self)]
    exact ns f H0 r _ q fun p hp=>h p (List.mem_cons_of_mem _ hp)
  |(l,k,.mp e t)::r,y,q,h=>by
    simp only [ofO]
    rw [im _ _ (h _ List.mem_cons_self)]
    exact ns f H0 r _ q fun p hp=>h p (List.mem_cons_of_mem _ hp)
end
end Lv
end
section
namespace Lv
variable [eR]
open Go Go.RowKit
structure pR (hin:cp) (ρ:Nat→Value) (ok:Nat→Prop) (w:World) (hout:cp) (ρ':Nat→Value) (ok':Nat→Prop) (w':World):Prop where
 os:w'.os=w.os
 tape:w'.tape=w.tape
 output:iZ w w'
 size:w.heap.size≤w'.heap.size
 same:∀b,b<w.heap.size→(∀l o,hin l=some o→o.own=true→blk (ρ l)≠some b)→w'.heap[b]?=w.heap[b]?
 okm:∀b,ok b→ok' b
 okn:∀b,ok' b→ok b∨w.heap.size≤b∨∃l o,hin l=some o∧o.own=true∧blk (ρ l)=some b
 inn:∀l o,hout l=some o→l<1000→ρ' l=ρ l∧∃p,hin l=some p∧(o.own=true→p.own=true)
 new:∀l o b,hout l=some o→1000≤l→o.own=true→blk (ρ' l)=some b→w.heap.size≤b∨∃m p,hin m=some p∧p.own=true∧blk (ρ m)=some b
def aB (P:Program) (g:FuncId) (sp:uT):Prop:=∀x y,sp.F x=some y→∀ρ ok w args,args.size=sp.n→dB ρ ok w (dL sp.si id x) 1000→dM ρ ok w 1000 (fO sp.si id x) args→
 Calls P g args w fun e w'=>∃v ρ' ok',e=.returned v∧dB ρ' ok' w' (dL sp.so id y) sp.so.nn∧dM ρ' ok' w' sp.so.nn (fO sp.so id y) #[v]∧pR (dL sp.si id x) ρ ok w (dL sp.so id y) ρ' ok' w'
structure Df (ρ:Nat→Value) (w:World) (hin:cp) (w':World):Prop where
 os:w'.os=w.os
 tape:w'.tape=w.tape
 output:iZ w w'
 size:w.heap.size≤w'.heap.size
 same:∀b,b<w.heap.size→(∀l o,hin l=some o→o.own=true→blk (ρ l)≠some b)→w'.heap[b]?=w.heap[b]?
theorem Df.refl (ρ:Nat→Value) (w:World) (hin:cp):Df ρ w hin w:=⟨rfl,rfl,iZ.rfl,Nat.le_refl _,fun _ _ _=>rfl⟩
theorem fd.pan {ρ ok w hp nx D ρ1 ok1 w1 hp1 nx1} (h:fd ρ ok w hp nx D ρ1 ok1 w1 hp1 nx1) {w':World} (k:Df ρ1 w1 hp1 w'):Df ρ w hp w':=by
 refine ⟨k.os.trans h.os,k.tape.trans h.tape,k.output.trans h.output,Nat.le_trans h.size k.size,fun b hb hne=>?_⟩
 refine (k.same b (Nat.lt_of_lt_of_le hb h.size) fun l o ho hw hbl=>?_).trans (h.same b hb fun l _ _ o ho hw=>hne l o ho hw)
 by_cases hl:l<nx
 ·obtain ⟨p,h1,h2⟩:=h.stay l hl o ho
  rw [h.rho l hl] at hbl
  exact hne l p h1 (h2 hw) hbl
 ·rcases h.nb l o b (by omega) ho hw hbl with g|⟨m,_,_,p,g1,g2,g3⟩
  ·omega
  ·exact hne m p g1 g2 g3
def Aw (t:Nat) (n:Int):List PanicEntry:=[{v:=E8 t n,recovered:=false}]
def ie (P : Program) (g : FuncId) (pan : Nat) (sp : pF) : Prop := ∀ x z,sp.F x = some z → ∀ ρ ok w args,args.size = sp.n → dB ρ ok w (dL sp.si id x) 1000 → dM ρ ok w 1000 (fO sp.si id x) args →
  Calls P g args w fun e w'=>match z with
    | .inl y=>∃v ρ' ok',e=.returned v∧dB ρ' ok' w' (dL sp.so id y) sp.so.nn∧dM ρ' ok' w' sp.so.nn (fO sp.so id y) #[v]∧pR (dL sp.si id x) ρ ok w (dL sp.so id y) ρ' ok' w'
    | .inr n=>e=.panicked (Aw pan n)∧Df ρ w (dL sp.si id x) w'
theorem dB.sub {ρ ok w hp nx} (h:dB ρ ok w hp nx) {hp':cp} (hs:∀l o,hp' l=some o→hp l=some o):dB ρ ok w hp' nx:=
 ⟨fun l o ho=>h.ob l o (hs l o ho),h.okl,fun l o b ho=>h.sep l o b (hs l o ho),fun l m o p b ho hp=>h.dis l m o p b (hs l o ho) (hs m p hp),h.gl⟩
theorem dB.more {ρ ok w hp nx nx'} (h:dB ρ ok w hp nx) (hn:nx≤nx'):dB ρ ok w hp nx':=
 ⟨fun l o ho=>⟨by have:=(h.ob l o ho).1;omega,(h.ob l o ho).2.move (fc.refl _ _) (fun _ _=>rfl) hn rfl fun _ _ _=>rfl⟩,h.okl,h.sep,h.dis,h.gl⟩
theorem dM.more {ρ ok w nx nx' env tmps} (h:dM ρ ok w nx env tmps) (hn:nx≤nx'):dM ρ ok w nx' env tmps:=fun t s hs=>
 let ⟨v,h1,h2⟩:=h t s hs
 ⟨v,h1,h2.move (fc.refl _ _) (fun _ _=>rfl) hn⟩
section
variable {ρ ρ':Nat→Value} {ok:Nat→Prop} {w:World} {nn nx:Nat} {f:Nat→Nat} {obs:List Nat}
def zz (ρ ρ':Nat→Value) (nn nx:Nat) (obs:List Nat) (f:Nat→Nat):Prop:=∀l,l<nn→(1000≤l∨l∈obs)→f l<nx∧ρ' (f l)=ρ l
theorem eM (hf:zz ρ ρ' nn nx obs f):∀{τ:Type} (cs:List CSh) (y:TL cs τ) (vs:List Value),sD obs cs=true→All2 (cU ρ ok w nn) (ofC id cs y).1 vs→
 All2 (cU ρ' ok w nx) (ofC f cs y).1 vs∧(ofC f cs y).2=(ofC id cs y).2
 |τ,[],y,vs,_,h=>by cases h;exact ⟨.nil,rfl⟩
 |τ,.int k::r,y,vs,hi,h=>by cases h with|cons h t=>exact ⟨.cons h (eM hf r _ _ hi t).1,(eM hf r _ _ hi t).2⟩
 |τ,.bool::r,y,vs,hi,h=>by cases h with|cons h t=>exact ⟨.cons h (eM hf r _ _ hi t).1,(eM hf r _ _ hi t).2⟩
 |τ,.str::r,y,vs,hi,h=>by cases h with|cons h t=>exact ⟨.cons h (eM hf r _ _ hi t).1,(eM hf r _ _ hi t).2⟩
 |τ,.val::r,y,vs,hi,h=>by cases h with|cons h t=>exact ⟨.cons h (eM hf r _ _ hi t).1,(eM hf r _ _ hi t).2⟩
 |τ,.sl e t'::r,y,vs,hi,h=>by cases h with|cons h t=>exact ⟨.cons h (eM hf r _ _ hi t).1,(eM hf r _ _ hi t).2⟩
 |τ,.fn g::r,y,vs,hi,h=>by cases h with|cons h t=>exact ⟨.cons h (eM hf r _ _ hi t).1,(eM hf r _ _ hi t).2⟩
 |τ,.ref l::r,y,vs,hi,h=>by
  obtain ⟨h1,h2⟩:=Bool.and_eq_true_iff.1 hi
  cases h with
  |cons h t=>
   have hl:1000≤l∨l∈obs:=(Bool.or_eq_true_iff.1 h1).imp Nat.le_of_ble_eq_true gV.1
   obtain ⟨g1,g2⟩:=hf l h.1 hl
   exact ⟨.cons ⟨g1,h.2.1.trans g2.symm,h.2.2⟩ (eM hf r _ _ h2 t).1,(eM hf r _ _ h2 t).2⟩
 |τ,.ptr l o::r,y,vs,hi,h=>by
  obtain ⟨h1,h2⟩:=Bool.and_eq_true_iff.1 hi
  cases h with
  |cons h t=>
   have hl:1000≤l∨l∈obs:=(Bool.or_eq_true_iff.1 h1).imp Nat.le_of_ble_eq_true gV.1
   obtain ⟨g0,b,e1,e2⟩:=h
   obtain ⟨g1,g2⟩:=hf l g0 hl
   exact ⟨.cons ⟨g1,b,g2.trans e1,e2⟩ (eM hf r _ _ h2 t).1,(eM hf r _ _ h2 t).2⟩
 |τ,.ifc::r,y,vs,hi,h=>by cases h with|cons h t=>exact ⟨.cons h (eM hf r _ _ hi t).1,(eM hf r _ _ hi t).2⟩
 |τ,.np l::r,y,vs,hi,h=>by
  obtain ⟨h1,h2⟩:=Bool.and_eq_true_iff.1 hi
  cases h with
  |cons h t=>
   have hl:1000≤l∨l∈obs:=(Bool.or_eq_true_iff.1 h1).imp Nat.le_of_ble_eq_true gV.1
   obtain ⟨g0,e⟩:=h
   obtain ⟨g1,g2⟩:=hf l g0 hl
   exact ⟨.cons ⟨g1,e.imp (fun h=>h) fun ⟨b,e1,e2⟩=>⟨b,g2.trans e1,e2⟩⟩ (eM hf r _ _ h2 t).1,(eM hf r _ _ h2 t).2⟩
theorem gO (f g:Nat→Nat):∀{τ:Type} (cs:List CSh) (y:TL cs τ),(ofC f cs y).2=(ofC g cs y).2
 |τ,[],y=>rfl
 |τ,.int k::r,y=>gO f g r _
 |τ,.bool::r,y=>gO f g r _
 |τ,.str::r,y=>gO f g r _
 |τ,.val::r,y=>gO f g r _
 |τ,.sl e t'::r,y=>gO f g r _
 |τ,.fn _::r,y=>gO f g r _
 |τ,.ref l::r,y=>gO f g r _
 |τ,.ptr l o::r,y=>gO f g r _
 |τ,.ifc::r,y=>gO f g r _
 |τ,.np l::r,y=>gO f g r _
theorem wU (f g:Nat→Nat):∀{τ:Type} (cs:List (Bool×List CSh)) (y:TLs cs τ),(qB f cs y).2=(qB g cs y).2
 |τ,[],y=>rfl
 |τ,(a,cs)::r,y=>by
  simp only [qB]
  rw [gO f g cs y]
  exact wU f g r _
theorem wV (f g:Nat→Nat) (E F:Env):∀{τ:Type} (l:List (Nat×SSh)) (y:TSl l τ),(ja f E l y).2=(ja g F l y).2
 |τ,[],y=>rfl
 |τ,(t,.v a cs)::r,y=>by
  simp only [ja]
  rw [gO f g cs y]
  exact wV f g E F r _
 |τ,(t,.tup cs)::r,y=>by
  simp only [ja]
  rw [wU f g cs y]
  exact wV f g E F r _
theorem G7 (hf:zz ρ ρ' nn nx obs f) {τ:Type} {cs:List CSh} {y:TL cs τ} {v:Value} {g:Bool} (hi:sD obs cs=true) (h:VR ρ ok w nn g (ofC id cs y).1 v):VR ρ' ok w nx g (ofC f cs y).1 v:=by
 cases g with
 |true=>
  obtain ⟨us,e,hus⟩:=h
  exact ⟨us,e,(eM hf cs y us hi hus).1⟩
 |false=>
  obtain ⟨c,e,hc⟩:=h
  have hus:All2 (cU ρ ok w nn) (ofC id cs y).1 [v]:=by rw [e];exact .cons hc .nil
  have h2:=(eM hf cs y _ hi hus).1
  have hl:=h2.len
  match hm':(ofC f cs y).1,hl with
  | [c'],_=>
   rw [hm'] at h2
   obtain ⟨v2,e2,hv2⟩:=h2.one
   cases e2
   exact ⟨c',rfl,hv2⟩
theorem Et (hf:zz ρ ρ' nn nx obs f):∀{τ:Type} (cs:List (Bool×List CSh)) (y:TLs cs τ) (vs:List Value),C1 obs cs=true→All2 (fun (p:Bool×List Cell) u=>VR ρ ok w nn p.1 p.2 u) (qB id cs y).1 vs→
    All2 (fun (p:Bool×List Cell) u=>VR ρ' ok w nx p.1 p.2 u) (qB f cs y).1 vs
  |τ,[],y,vs,_,h=>by cases h;exact .nil
  |τ,(g,cs)::r,y,vs,hi,h=>by
    obtain ⟨h1,h2⟩:=Bool.and_eq_true_iff.1 hi
    cases h with
    |cons h t=>
      refine .cons (G7 hf h1 h) ?_
      show All2 _ (qB f r (ofC f cs y).2).1 _
      rw [gO f id cs y]
      exact Et hf r _ _ h2 t
theorem wW (hf:zz ρ ρ' nn nx obs f):∀{τ:Type} (l:List (Nat×SSh)) (y:TSl l τ),slIn obs l=true→∀u s,(ja f (fun _=>none) l y).1 u=some s→∃s',(ja id (fun _=>none) l y).1 u=some s'∧∀v,fM ρ ok w nn s' v→fM ρ' ok w nx s v
  |τ,[],y,_,u,s,hs=>by cases hs
  |τ,(t,.v g cs)::r,y,hi,u,s,hs=>by
    obtain ⟨h1,h2⟩:=Bool.and_eq_true_iff.1 hi
    simp only [ja,put] at hs ⊢
    split at hs
    · rename_i he
      cases hs
      exact ⟨.v g (ofC id cs y).1,by rw [if_pos he],fun v hv=>G7 hf h1 hv⟩
    · rename_i he
      rw [gO f id cs y] at hs
      obtain ⟨s',h3,h4⟩:=wW hf r _ h2 u s hs
      exact ⟨s',by rw [if_neg he];exact h3,h4⟩
  |τ,(t,.tup l)::r,y,hi,u,s,hs=>by
    obtain ⟨h1,h2⟩:=Bool.and_eq_true_iff.1 hi
    simp only [ja,put] at hs ⊢
    split at hs
    · rename_i he
      cases hs
      exact ⟨.tup (qB id l y).1,by rw [if_pos he],fun v ⟨us,e,hv⟩=>⟨us,e,Et hf l y us h1 hv⟩⟩
    · rename_i he
      rw [wU f id l y] at hs
      obtain ⟨s',h3,h4⟩:=wW hf r _ h2 u s hs
      exact ⟨s',by rw [if_neg he];exact h3,h4⟩
theorem u7 (hf:zz ρ ρ' nn nx obs f):∀(l:List (Nat×Bool×OSh)) (y:TO l),GM obs l=true→∀q o,ofO f (fun _=>none) l y q=some o→
    ∃p∈l,q=f p.1∧∃o',ofO id (fun _=>none) l y p.1=some o'∧o'.own=o.own∧(p.1<nn→(1000≤p.1∨p.1∈obs)→ObR ρ ok w nn p.1 o'→ObR ρ' ok w nx q o)
  | [],y,_,q,o,h=>by cases h
  |(l,k,.box e cs)::r,y,hi,q,o,h=>by
    obtain ⟨h1,h2⟩:=Bool.and_eq_true_iff.1 hi
    simp only [ofO] at h ⊢
    by_cases hq:q=f l
    · subst hq
      rw [gh] at h
      cases h
      refine ⟨_,List.mem_cons_self,rfl,_,gh _ _ _,rfl,fun hl ho hr=>?_⟩
      obtain ⟨b,vs,g1,g2,g3⟩:=hr
      exact ⟨b,vs,(hf l hl ho).2.trans g1,g2,(eM hf cs y vs h1 g3).1⟩
    · rw [im _ _ hq,gO f id cs y] at h
      obtain ⟨p,hp,e1,o',h3,h4,h5⟩:=u7 hf r _ h2 q o h
      refine ⟨p,List.mem_cons_of_mem _ hp,e1,o',?_,h4,h5⟩
      have:p.1≠l:=fun e=>hq (by rw [e1,e])
      exact (im _ _ this).trans h3
  |(l,k,.arr e t)::r,y,hi,q,o,h=>by
    simp only [ofO] at h ⊢
    by_cases hq:q=f l
    · subst hq
      rw [gh] at h
      cases h
      refine ⟨_,List.mem_cons_self,rfl,_,gh _ _ _,rfl,fun hl ho hr=>?_⟩
      obtain ⟨cE,g1,g2⟩:=hr
      exact ⟨cE,by rw [(hf l hl ho).2];exact g1,g2⟩
    · rw [im _ _ hq] at h
      obtain ⟨p,hp,e1,o',h3,h4,h5⟩:=u7 hf r _ hi q o h
      refine ⟨p,List.mem_cons_of_mem _ hp,e1,o',?_,h4,h5⟩
      have:p.1≠l:=fun e=>hq (by rw [e1,e])
      exact (im _ _ this).trans h3
  |(l,k,.mp e t)::r,y,hi,q,o,h=>by
    simp only [ofO] at h ⊢
    by_cases hq:q=f l
    · subst hq
      rw [gh] at h
      cases h
      refine ⟨_,List.mem_cons_self,rfl,_,gh _ _ _,rfl,fun hl ho hr=>?_⟩
      obtain ⟨rr,es,clock,g1,g2,g3,g4⟩:=hr
      exact ⟨rr,es,clock,by rw [(hf l hl ho).2];exact g1,g2,g3,g4⟩
    · rw [im _ _ hq] at h
      obtain ⟨p,hp,e1,o',h3,h4,h5⟩:=u7 hf r _ hi q o h
      refine ⟨p,List.mem_cons_of_mem _ hp,e1,o',?_,h4,h5⟩
      have:p.1≠l:=fun e=>hq (by rw [e1,e])
      exact (im _ _ this).trans h3
end
theorem qj (f:Nat→Nat) (H0:cp):∀(l:List (Nat×Bool×OSh)) (y:TO l) (p:Nat×Bool×OSh),p∈l→∃o,ofO f H0 l y (f p.1)=some o
  |(l,k,.box e cs)::r,y,p,hp=>by
    simp only [ofO]
    by_cases h:f p.1=f l
    · rw [h];exact ⟨_,gh _ _ _⟩
    · rw [im _ _ h]
      rcases List.mem_cons.1 hp with rfl|hp
      · exact absurd rfl h
      · exact qj f H0 r _ p hp
  |(l,k,.arr e t)::r,y,p,hp=>by
    simp only [ofO]
    by_cases h:f p.1=f l
    · rw [h];exact ⟨_,gh _ _ _⟩
    · rw [im _ _ h]
      rcases List.mem_cons.1 hp with rfl|hp
      · exact absurd rfl h
      · exact qj f H0 r _ p hp
  |(l,k,.mp e t)::r,y,p,hp=>by
    simp only [ofO]
    by_cases h:f p.1=f l
    · rw [h];exact ⟨_,gh _ _ _⟩
    · rw [im _ _ h]
      rcases List.mem_cons.1 hp with rfl|hp
      · exact absurd rfl h
      · exact qj f H0 r _ p hp
theorem mu:∀{l:List (Nat×Bool×OSh)} {p:Nat×Bool×OSh},p∈l→p.1∈nR l
  |(k,r)::l,p,h=>by
    rcases List.mem_cons.1 h with rfl|h
    · exact List.mem_cons_self
    · exact List.mem_cons_of_mem _ (mu h)
theorem sK:∀{l:List (Nat×Bool×OSh)} {n:Nat},n∈nR l→∃p∈l,p.1=n
  | [],n,h=>by cases h
  |(k,r)::l,n,h=>by
    rcases List.mem_cons.1 h with rfl|h
    · exact ⟨_,List.mem_cons_self,rfl⟩
    · obtain ⟨p,h1,h2⟩:=sK h
      exact ⟨p,List.mem_cons_of_mem _ h1,h2⟩
theorem uI {ren:Ren}:∀{l:List (Nat×Bool×OSh)},tc ren l=true→∀p∈l,p.1<1000→∃m,ren p.1=some m
  |(k,r)::l,h,p,hp,hlt=>by
    simp only [tc,Bool.and_eq_true] at h
    rcases List.mem_cons.1 hp with rfl|hp
    · have h1:=h.1
      rw [if_neg (fun e=>by have:=Nat.le_of_ble_eq_true e;omega)] at h1
      simp only at hlt
      cases hr:ren k with
      |some m=>exact ⟨m,rfl⟩
      |none=>rw [hr] at h1;cases h1
    · exact uI h.2 p hp hlt
theorem wX (f : Nat → Nat) (H hp : cp) : ∀ (l : List (Nat × Bool × OSh)) (q : Nat),(∀ p ∈ l,q ≠ f p.1) ∧ ups hp (ld f H l) q = hp q ∨ (∃ p ∈ l,q = f p.1) ∧ ups hp (ld f H l) q = H q
  | [],q=> .inl ⟨fun p hp=>(by cases hp),rfl⟩
  | (k,r) :: l,q => by
    rcases wX f H (put hp (f k) (H (f k))) l q with ⟨h1,h2⟩|⟨⟨p,h1,h2⟩,h3⟩
    · by_cases e:q=f k
      · refine .inr ⟨⟨_,List.mem_cons_self,e⟩,?_⟩
        show ups (put hp (f k) (H (f k))) (ld f H l) q=_
        rw [h2,e,gh]
      · refine .inl ⟨fun p hp=>?_,?_⟩
        · rcases List.mem_cons.1 hp with rfl|hp
          · exact e
          · exact h1 p hp
        · show ups (put hp (f k) (H (f k))) (ld f H l) q=_
          rw [h2,im _ _ e]
    · exact .inr ⟨⟨p,List.mem_cons_of_mem _ h1,h2⟩,h3⟩
theorem uJ (f:Nat→Nat) (H:cp):∀(l:List (Nat×Bool×OSh)) (q:Nat),q∈names (ld f H l)↔∃p∈l,q=f p.1
  | [],q=>by simp [ld,names]
  |(k,r)::l,q=>by
    have ih:=uJ f H l q
    simp only [names] at ih
    simp only [ld,names,List.map_cons,List.mem_cons,ih]
    constructor
    · rintro (h|⟨p,h1,h2⟩)
      · exact ⟨_,.inl rfl,h⟩
      · exact ⟨p,.inr h1,h2⟩
    · rintro ⟨p,rfl|h1,h2⟩
      · exact .inl h2
      · exact .inr ⟨p,h1,h2⟩
theorem BS (sh:Sh) (env:Env) (hp hp':cp) (hs:∀l o,hp' l=some o→hp l=some o) (q:Nat):
 (q∉names (dJ sh env hp')∧ups hp (dJ sh env hp') q=hp q)∨
 (q∈names (ib (bL sh env hp') sh.ob)∧ups hp (dJ sh env hp') q=none)∨
 (q∉names (ib (bL sh env hp') sh.ob)∧q∈names (fv sh env hp')∧∃e t xs,hp q=some (.arr e t xs)∧ups hp (dJ sh env hp') q=some (.frz e t xs)):=by
 have hF:dW hp (fv sh env hp'):=(gN sh env hp').sub hs
 have e:ups hp (dJ sh env hp')=ups (ups hp (fv sh env hp')) (ib (bL sh env hp') sh.ob):=by rw [←nU];rfl
 by_cases hg:q∈names (ib (bL sh env hp') sh.ob)
 ·refine .inr (.inl ⟨hg,?_⟩)
  rw [e,fP]
  cases hl:je (ib (bL sh env hp') sh.ob) q with
  |none=>exact absurd hg (eA.1 hl)
  |some o=>exact tj (kJ hl)
 ·have h1:ups hp (dJ sh env hp') q=ups hp (fv sh env hp') q:=by rw [e,fP,eA.2 hg]
  rcases fG hF q with ⟨h2,e',t,xs,h3,h4⟩|⟨h2,h3⟩
  ·exact .inr (.inr ⟨hg,h2,e',t,xs,h3,h1.trans h4⟩)
  ·exact .inl ⟨fun h=>((eC sh q).1 h).elim h2 hg,h1.trans h3⟩
section
variable {P:Program} {ρ:Nat→Value} {ok:Nat→Prop} {w:World} {hp:cp} {nx:Nat}
def ra (ρ:Nat→Value) (nx:Nat) (ρ':Nat→Value):Nat→Value:=fun q=>if q<nx then ρ q else ρ' (q-nx+1000)
theorem sL (hH : dB ρ ok w hp nx) {hp' : cp} (hs : ∀ l o,hp' l = some o → hp l = some o) {sp : uT} {aenv : Env} {tmps : Array Value} (hE : dM ρ ok w nx aenv tmps)
    (hbel:gM sp.si=true) (hnn:sp.si.nn≤1000) (hso:soOk sp.so=true) (hbk:tc (bL sp.si aenv hp') sp.so.ob=true) {x:TS sp.si} (hx:wy sp.si aenv hp'=some x):
    ∃ ρi oki,dB ρi oki w (dL sp.si id x) 1000 ∧ dM ρi oki w 1000 (fO sp.si id x) tmps ∧
      ∀ y v w' ρ' ok',dB ρ' ok' w' (dL sp.so id y) sp.so.nn → dM ρ' ok' w' sp.so.nn (fO sp.so id y) #[v] → pR (dL sp.si id x) ρi oki w (dL sp.so id y) ρ' ok' w' →
        ∃ ρ2,Eff ρ ok w hp nx (dJ sp.si aenv hp' ++ ld (fL (bL sp.si aenv hp') nx) (dL sp.so (fL (bL sp.si aenv hp') nx) y) sp.so.ob) (sp.so.nn - 1000) ρ2 ok' w' ∧
          ∀s,fO sp.so (fL (bL sp.si aenv hp') nx) y 0=some s→fM ρ2 ok' w' (nx+(sp.so.nn-1000)) s v:=by
  have hH':dB ρ ok w hp' nx:=hH.sub hs
  have hF:=gN sp.si aenv hp'
  have hf0:lg id 0 sp.si.nn (bL sp.si aenv hp'):=fun l _=> .inl (by simp)
  obtain ⟨t1,t2,t3⟩:=De hH' hE hbel hx (f:=id) (nx0:=0) hf0 (H0:=fun _=>none) (fun q o h=>by cases h) (E0:=fun _=>none) (fun t s h=>by cases h)
  have htO:∀q o,dL sp.si id x q=some o→∃p∈sp.si.ob,q=p.1∧p.1<sp.si.nn∧Fo ρ hp' (bL sp.si aenv hp') p.1 o:=fun q o h=>by
    rcases t3 q o h with h|⟨h,_⟩
    · exact h
    · cases h
  refine ⟨_,_,t1.more (by omega),t2.more (by omega),?_⟩
  intro y v w' ρ' ok' hX hXE hEx
  have hρi:∀q,reρ ρ 0 (bL sp.si aenv hp') q=match bL sp.si aenv hp' q with|some m=>ρ m|none=> .slice none 0 0:=fun q=>by unfold reρ;rw [if_neg (by omega)];rfl
  -- the blocks that came in
  have inBlk:∀l o b,dL sp.si id x l=some o→o.own=true→blk (reρ ρ 0 (bL sp.si aenv hp') l)=some b→∃m p,m∈names (ib (bL sp.si aenv hp') sp.si.ob)∧bL sp.si aenv hp' l=some m∧hp m=some p∧p.own=true∧blk (ρ m)=some b:=by
    intro l o b hl hw hb
    obtain ⟨p,h1,h2,h3,h4⟩:=htO l o hl
    subst h2
    rw [hρi] at hb
    rcases h4.src with ⟨m,r,g1,g2,g3⟩|g1
    · rw [g1] at hb
      exact ⟨m,r,ix h1 g1,g1,hs _ _ g2,g3,hb⟩
    · rw [g1] at hb;cases hb
  have hap:∀q∈names (fv sp.si aenv hp'),q∉names (ib (bL sp.si aenv hp') sp.si.ob):=by
    unfold wy at hx
    split at hx<;>try (cases hx;done)
    rename_i hinj
    exact io.1 (Bool.and_eq_true_iff.1 hinj).2
  have hFf:dW hp (fv sp.si aenv hp'):=hF.sub hs
  have e1:=qe hH hFf
  -- what came in,by its name there
  have inn:∀l,l<1000→l∈nR sp.so.ob→∃m r,bL sp.si aenv hp' l=some m∧m∈names (ib (bL sp.si aenv hp') sp.si.ob)∧hp m=some r∧r.own=true∧m<nx∧ρ' l=ρ m:=by
    intro l hl hm
    obtain ⟨p,h1,h2⟩:=sK hm
    obtain ⟨o,ho⟩:=qj id (fun _=>none) sp.so.ob (ja id (fun _=>none) sp.so.sl y).2 p h1
    subst h2
    obtain ⟨g1,p',g2,g3⟩:=hEx.inn p.1 o ho hl
    obtain ⟨r,k1,k2,k3,k4⟩:=htO _ _ g2
    obtain ⟨m,hm'⟩:=uI hbk p h1 hl
    rw [k2] at hm'
    rcases k4.src with ⟨m',r',j1,j2,j3⟩|j1
    · refine ⟨m',r',by rw [k2];exact j1,ix k1 j1,hs _ _ j2,j3,(hH.ob _ _ (hs _ _ j2)).1,?_⟩
      rw [g1,hρi,k2,j1]
    · rw [j1] at hm';cases hm'
  have bk:∀l,fL (bL sp.si aenv hp') nx l=if 1000≤l then nx+(l-1000) else match bL sp.si aenv hp' l with|some m=>m|none=>nx:=by
    intro l
    unfold fL
    by_cases h:1000≤l
    · rw [if_pos h,if_pos (Nat.ble_eq_true_of_le h)]
    · rw [if_neg h,if_neg fun e=>h (Nat.le_of_ble_eq_true e)]
      cases bL sp.si aenv hp' l<;>rfl
  have hren:zz ρ' (ra ρ nx ρ') sp.so.nn (nx+(sp.so.nn-1000)) (nR sp.so.ob) (fL (bL sp.si aenv hp') nx):=by
    intro l hl hor
    rw [bk]
    by_cases h:1000≤l
    · rw [if_pos h]
      refine ⟨by omega,?_⟩
      unfold ra
      rw [if_neg (by omega)]
      congr 1
      omega
    · rw [if_neg h]
      obtain ⟨m,r,g1,g2,g3,g4,g5,g6⟩:=inn l (by omega) (hor.resolve_left h)
      simp only [g1]
      refine ⟨Nat.lt_of_lt_of_le g5 (Nat.le_add_right _ _),?_⟩
      unfold ra
      rw [if_pos g5,g6]
  obtain ⟨hso1,hso2⟩:=Bool.and_eq_true_iff.1 hso
  have hcρ:∀l,l<nx→ra ρ nx ρ' l=ρ l:=fun l hl=>by simp [ra,hl]
  have hS:fc (fp ok ρ (names (fv sp.si aenv hp'))) ok' w w':=by
    intro b hb
    refine ⟨hEx.okm b hb,hEx.same b (e1.1.okl b hb) fun l o ho hw hbl=>?_⟩
    obtain ⟨m,p,h1,h2,h3,h4,h5⟩:=inBlk l o b ho hw hbl
    rcases hb with hb|⟨l',hl',hb⟩
    · exact hH.sep m p b h3 h4 h5 hb
    · rcases fG hFf l' with ⟨_,e,t,xs,k1,_⟩|⟨k1,_⟩
      · have:=hH.dis m l' p _ b h3 k1 h4 rfl h5 hb
        subst this
        exact hap m hl' h1
      · exact k1 hl'
  have hS0:fc ok ok' w w':=fun b hb=>hS b (.inl hb)
  -- an object now
  have now:∀q o,ups hp (dJ sp.si aenv hp'++ld (fL (bL sp.si aenv hp') nx) (dL sp.so (fL (bL sp.si aenv hp') nx) y) sp.so.ob) q=some o→
      (∃p∈sp.so.ob,q=fL (bL sp.si aenv hp') nx p.1∧∃o',dL sp.so id y p.1=some o'∧o'.own=o.own∧p.1<sp.so.nn∧ObR (ra ρ nx ρ') ok' w' (nx+(sp.so.nn-1000)) q o∧ra ρ nx ρ' q=ρ' p.1∧q<nx+(sp.so.nn-1000))∨
      ((∀p∈sp.so.ob,q≠fL (bL sp.si aenv hp') nx p.1)∧((q∉names (dJ sp.si aenv hp')∧hp q=some o)∨∃e t xs,hp q=some (.arr e t xs)∧o=.frz e t xs∧q∈names (fv sp.si aenv hp'))):=by
    intro q o hq
    rw [nU] at hq
    rcases wX (fL (bL sp.si aenv hp') nx) (dL sp.so (fL (bL sp.si aenv hp') nx) y) (ups hp (dJ sp.si aenv hp')) sp.so.ob q with ⟨h1,h2⟩|⟨_,h2⟩
    · rw [h2] at hq
      refine .inr ⟨h1,?_⟩
      rcases BS sp.si aenv hp hp' hs q with ⟨g1,g2⟩|⟨g1,g2⟩|⟨_,g0,e,t,xs,g1,g2⟩
      · rw [g2] at hq;exact .inl ⟨g1,hq⟩
      · rw [g2] at hq;cases hq
      · rw [g2] at hq;cases hq;exact .inr ⟨e,t,xs,g1,rfl,g0⟩
    · rw [h2] at hq
      have hq':ofO (fL (bL sp.si aenv hp') nx) (fun _=>none) sp.so.ob (ja id (fun _=>none) sp.so.sl y).2 q=some o:=by
        rw [←wV (fL (bL sp.si aenv hp') nx) id (fun _=>none) (fun _=>none) sp.so.sl y];exact hq
      obtain ⟨p,k1,k2,o',k3,k4,k5⟩:=u7 (ok:=ok') (w:=w') hren sp.so.ob _ hso2 q o hq'
      obtain ⟨k6,k7⟩:=hX.ob p.1 o' k3
      have hm:=mu k1
      have h8:=hren p.1 k6 (.inr hm)
      exact .inl ⟨p,k1,k2,o',k3,k4,k6,k5 k6 (.inr hm) k7,by rw [k2];exact h8.2,by rw [k2];exact h8.1⟩
  -- a new object's block,against one that was there,and is not gone
  have cross:∀(p:Nat×Bool×OSh) o' b,p∈sp.so.ob→dL sp.so id y p.1=some o'→o'.own=true→blk (ρ' p.1)=some b→w.heap.size≤b∨∃m r,m∈names (ib (bL sp.si aenv hp') sp.si.ob)∧hp m=some r∧r.own=true∧blk (ρ m)=some b:=by
    intro p o' b hp1 ho hw hb
    by_cases h:p.1<1000
    · obtain ⟨m,r,g1,g2,g3,g4,g5,g6⟩:=inn p.1 h (mu hp1)
      rw [g6] at hb
      exact .inr ⟨m,r,g2,g3,g4,hb⟩
    · rcases hEx.new p.1 o' b ho (by omega) hw hb with h1|⟨l,q,h1,h2,h3⟩
      · exact .inl h1
      · obtain ⟨m,r,g1,_,g2,g3,g4⟩:=inBlk l q b h1 h2 h3
        exact .inr ⟨m,r,g1,g2,g3,g4⟩
  have inLeave:∀m,m∈names (ib (bL sp.si aenv hp') sp.si.ob)→m∈names (dJ sp.si aenv hp'):=fun m hm=>(eC sp.si m).2 (.inr hm)
  have frzLeave:∀m,m∈names (fv sp.si aenv hp')→m∈names (dJ sp.si aenv hp'):=fun m hm=>(eC sp.si m).2 (.inl hm)
  have namesD:∀m,m∈names (dJ sp.si aenv hp')→m∈names (dJ sp.si aenv hp'++ld (fL (bL sp.si aenv hp') nx) (dL sp.so (fL (bL sp.si aenv hp') nx) y) sp.so.ob):=fun m hm=>by
    simp only [names,List.map_append,List.mem_append] at hm ⊢
    exact .inl hm
  have namesD':∀m,m∈names (dJ sp.si aenv hp'++ld (fL (bL sp.si aenv hp') nx) (dL sp.so (fL (bL sp.si aenv hp') nx) y) sp.so.ob)↔m∈names (dJ sp.si aenv hp')∨∃p∈sp.so.ob,m=fL (bL sp.si aenv hp') nx p.1:=fun m=>by
    have:=uJ (fL (bL sp.si aenv hp') nx) (dL sp.so (fL (bL sp.si aenv hp') nx) y) sp.so.ob m
    simp only [names] at this
    simp only [names,List.map_append,List.mem_append,this]
  refine ⟨ra ρ nx ρ',⟨⟨?_,hX.okl,?_,?_,hX.gl⟩,⟨hEx.os,hEx.tape,hEx.output,hEx.size,by omega,?_,hcρ,fun b hb=>hEx.okm b (.inl hb),?_,?_,?_,?_⟩⟩,?_⟩
  · intro q o hq
    rcases now q o hq with ⟨p,h1,h2,o',h3,h4,h5,h6,h7,h8⟩|⟨h1,⟨h2,h3⟩|⟨e,t,xs,h2,rfl,h3⟩⟩
    · exact ⟨h8,h6⟩
    · obtain ⟨g1,g2⟩:=hH.ob q o h3
      refine ⟨by omega,g2.move hS0 hcρ (by omega) (hcρ q g1) fun hw b hb=>?_⟩
      refine hEx.same b (hH.lt h3 hw hb) fun l p hl hpw hbl=>?_
      obtain ⟨m,r,k1,_,k2,k3,k4⟩:=inBlk l p b hl hpw hbl
      have:=hH.dis m q r o b k2 h3 k3 hw k4 hb
      subst this
      exact h2 (inLeave m k1)
    · have g:=hH.ob q _ h2
      have k:ups hp (fv sp.si aenv hp') q=some (.frz e t xs):=by
        rcases fG hFf q with ⟨_,e',t',xs',k1,k2⟩|⟨k1,_⟩
        · rw [h2] at k1;cases k1;exact k2
        · exact absurd h3 k1
      have k2:=(e1.1.ob q _ k).2
      exact ⟨by omega,k2.move hS (fun l hl=>hcρ l (by omega)) (by omega) (hcρ q g.1) fun h=>by cases h⟩
  · intro q o b hq hw hb hok
    rcases now q o hq with ⟨p,h1,h2,o',h3,h4,h5,h6,h7,h8⟩|⟨h1,⟨h2,h3⟩|⟨e,t,xs,h2,rfl,h3⟩⟩
    · rw [h7] at hb
      exact hX.sep p.1 o' b h3 (h4.trans hw) hb hok
    · rw [hcρ q (hH.ob q o h3).1] at hb
      rcases hEx.okn b hok with (h|⟨l',hl',hbl⟩)|h|⟨l,r,hl,hrw,hbl⟩
      · exact hH.sep q o b h3 hw hb h
      · rcases fG hFf l' with ⟨_,e,t,xs,k1,_⟩|⟨k1,_⟩
        · have:=hH.dis q l' o _ b h3 k1 hw rfl hb hbl
          subst this
          exact h2 (frzLeave q hl')
        · exact k1 hl'
      · have:=hH.lt h3 hw hb;omega
      · obtain ⟨m,r',k1,_,k2,k3,k4⟩:=inBlk l r b hl hrw hbl
        have:=hH.dis m q r' o b k2 h3 k3 hw k4 hb
        subst this
        exact h2 (inLeave m k1)
    · cases hw
  · have AB:∀(q:Nat) (o:Ob) (q':Nat) (o':Ob) (b:Nat),(∃p∈sp.so.ob,q=fL (bL sp.si aenv hp') nx p.1∧∃o',dL sp.so id y p.1=some o'∧o'.own=o.own∧ra ρ nx ρ' q=ρ' p.1)→q'∉names (dJ sp.si aenv hp')→hp q'=some o'→o.own=true→o'.own=true→
        blk (ra ρ nx ρ' q)=some b→blk (ρ q')=some b→False:=by
      rintro q o q' o' b ⟨p,h1,h2,o'',h3,h4,h7⟩ g2 g3 hw hw' hb hb'
      rw [h7] at hb
      rcases cross p o'' b h1 h3 (h4.trans hw) hb with h|⟨m,r,k1,k2,k3,k4⟩
      · have:=hH.lt g3 hw' hb';omega
      · have:=hH.dis m q' r o' b k2 g3 k3 hw' k4 hb'
        subst this
        exact g2 (inLeave m k1)
    intro q q' o o' b hq hq' hw hw' hb hb'
    rcases now q o hq with ⟨p,h1,h2,o2,h3,h4,h5,h6,h7,h8⟩|⟨h1,⟨h2,h3⟩|⟨e,t,xs,h2,rfl,h3⟩⟩
    · rcases now q' o' hq' with ⟨p',g1,g2,o3,g3,g4,g5,g6,g7,g8⟩|⟨g1,⟨g2,g3⟩|⟨e,t,xs,g2,rfl,g3⟩⟩
      · rw [h7] at hb;rw [g7] at hb'
        rw [h2,g2,hX.dis p.1 p'.1 o2 o3 b h3 g3 (h4.trans hw) (g4.trans hw') hb hb']
      · rw [hcρ q' (hH.ob q' o' g3).1] at hb'
        exact (AB q o q' o' b ⟨p,h1,h2,o2,h3,h4,h7⟩ g2 g3 hw hw' hb hb').elim
      · cases hw'
    · rw [hcρ q (hH.ob q o h3).1] at hb
      rcases now q' o' hq' with ⟨p',g1,g2,o3,g3,g4,g5,g6,g7,g8⟩|⟨g1,⟨g2,g3⟩|⟨e,t,xs,g2,rfl,g3⟩⟩
      · exact (AB q' o' q o b ⟨p',g1,g2,o3,g3,g4,g7⟩ h2 h3 hw' hw hb' hb).elim
      · rw [hcρ q' (hH.ob q' o' g3).1] at hb'
        exact hH.dis q q' o o' b h3 g3 hw hw' hb hb'
      · cases hw'
    · cases hw
  · intro b hb hne
    refine hEx.same b hb fun l o ho hw hbl=>?_
    obtain ⟨m,r,k1,_,k2,k3,k4⟩:=inBlk l o b ho hw hbl
    exact hne m (namesD m (inLeave m k1)) (hH.ob m r k2).1 r k2 k3 k4
  · intro b hb
    rcases hEx.okn b hb with (h|⟨l',hl',hbl⟩)|h|⟨l,r,hl,hrw,hbl⟩
    · exact .inl h
    · rcases fG hFf l' with ⟨_,e,t,xs,k1,_⟩|⟨k1,_⟩
      · exact .inr (.inr ⟨l',namesD l' (frzLeave l' hl'),(hH.ob l' _ k1).1,_,k1,rfl,hbl⟩)
      · exact absurd hl' k1
    · exact .inr (.inl h)
    · obtain ⟨m,r',k1,_,k2,k3,k4⟩:=inBlk l r b hl hrw hbl
      exact .inr (.inr ⟨m,namesD m (inLeave m k1),(hH.ob m r' k2).1,r',k2,k3,k4⟩)
  · intro l hl hn
    have hn':=fun h=>hn ((namesD' l).2 h)
    rw [nU]
    rcases wX (fL (bL sp.si aenv hp') nx) (dL sp.so (fL (bL sp.si aenv hp') nx) y) (ups hp (dJ sp.si aenv hp')) sp.so.ob l with ⟨h1,h2⟩|⟨h1,_⟩
    · rw [h2,fP,eA.2 fun h=>hn' (.inl h)]
    · exact absurd (.inr h1) hn'
  · intro l hl o ho
    rcases now l o ho with ⟨p,h1,h2,o',h3,h4,h5,h6,h7,h8⟩|⟨h1,⟨h2,h3⟩|⟨e,t,xs,h2,rfl,h3⟩⟩
    · rw [bk] at h2
      by_cases h:1000≤p.1
      · rw [if_pos h] at h2;omega
      · obtain ⟨m,r,g1,g2,g3,g4,g5,g6⟩:=inn p.1 (by omega) (mu h1)
        rw [if_neg h,g1] at h2
        exact ⟨r,by rw [h2];exact g3,fun _=>g4⟩
    · exact ⟨o,h3,id⟩
    · exact ⟨_,h2,fun h=>by cases h⟩
  · intro l o b hl ho hw hb
    rcases now l o ho with ⟨p,h1,h2,o',h3,h4,h5,h6,h7,h8⟩|⟨h1,⟨h2,h3⟩|⟨e,t,xs,h2,rfl,h3⟩⟩
    · rw [h7] at hb
      rcases cross p o' b h1 h3 (h4.trans hw) hb with h|⟨m,r,k1,k2,k3,k4⟩
      · exact .inl h
      · exact .inr ⟨m,namesD m (inLeave m k1),(hH.ob m r k2).1,r,k2,k3,k4⟩
    · exact absurd (hH.ob l o h3).1 (by omega)
    · cases hw
  · intro s hs'
    obtain ⟨s',h1,h2⟩:=wW (ok:=ok') (w:=w') hren sp.so.sl y hso1 0 s hs'
    obtain ⟨v0,h3,h4⟩:=hXE 0 s' h1
    have:v0=v:=by simpa using h3.symm
    rw [←this]
    exact h2 v0 h4
theorem G8 (hH:dB ρ ok w hp nx) {hp':cp} (hs:∀l o,hp' l=some o→hp l=some o) {si:Sh} {aenv:Env} {tmps:Array Value} (hE:dM ρ ok w nx aenv tmps)
 (hbel:gM si=true) (hnn:si.nn≤1000) {x:TS si} (hx:wy si aenv hp'=some x):
 ∃ρi oki,dB ρi oki w (dL si id x) 1000∧dM ρi oki w 1000 (fO si id x) tmps∧∀w',Df ρi w (dL si id x) w'→∃ρ2 ok2,Eff ρ ok w hp nx (dJ si aenv hp') 0 ρ2 ok2 w':=by
 obtain ⟨ρi,oki,i1,i2,i3⟩:=sL (sp:=⟨0,si,⟨[],[],[],1000,[]⟩,fun _=>none⟩) hH hs hE hbel hnn rfl rfl hx
 refine ⟨ρi,oki,i1,i2,fun w' hp2=>?_⟩
 have hS:fc oki oki w w':=fun b hb=>⟨hb,hp2.same b (i1.okl b hb) fun l o ho hw hbl=>i1.sep l o b ho hw hbl hb⟩
 obtain ⟨ρ2,e,_⟩:=i3 () undef w' ρi oki ⟨fun l o h=>(by cases h),fun b hb=>Nat.lt_of_lt_of_le (i1.okl b hb) hp2.size,fun l o b h=>(by cases h),fun l m o p b h=>(by cases h),i1.gl.move hS⟩
  (fun t s h=>by cases h) ⟨hp2.os,hp2.tape,hp2.output,hp2.size,hp2.same,fun _ h=>h,fun _ h=> .inl h,fun l o h=>(by cases h),fun l o b h=>(by cases h)⟩
 refine ⟨ρ2,oki,?_⟩
 simpa [ld] using e
end
end Lv
end
section
namespace Lv
variable [eR]
open Go Go.RowKit
def nY (P : Program) (g : FuncId) : Prop := ∃ fn, P.funcs[g]? = some fn ∧ fn.body.isSome = true ∧ fn.name ≠ "runtime.NumGoroutine"
structure bM (P:Program) (cx:Cx):Prop where
 tab:eH P cx.tab
 eqs:Fe P cx.eqs
 spec:∀g as hp sp,cx.spec g as hp=some sp→nY P g∧aB P g sp
 specP:∀g as hp sp,cx.specP g as hp=some sp→nY P g∧ie P g cx.pan sp
def jx (P : Program) (pan : Nat) (inl : Inl) : Prop := ∀ (R : Type) (g : Nat) (args : List (Option dU)) (hp : cp) (nx : Nat) (dt : List Nat) (κ : Option dU → cp → Nat → List Nat → Option R) (κp : Int → cp → Nat → List Nat → Option R) (r : R),inl R g args hp nx dt κ κp = some r →
  nY P g∧∀(ρ:Nat→Value) (ok:Nat→Prop) (w:World) (vals:Array Value),dB ρ ok w hp nx→dM ρ ok w nx (fl args) vals→
    Calls P g vals w fun e w'=>(∃v s hp' nx' dt' D ρ' ok',e=.returned v∧κ s hp' nx' dt'=some r∧dt'=D++dt∧dB ρ' ok' w' hp' nx'∧(∀sl,s=some sl→fM ρ' ok' w' nx' sl v)∧fd ρ ok w hp nx D ρ' ok' w' hp' nx')∨
      (∃n hp' nx' dt' D ρ' ok',e=.panicked (Aw pan n)∧κp n hp' nx' dt'=some r∧dt'=D++dt∧dB ρ' ok' w' hp' nx'∧fd ρ ok w hp nx D ρ' ok' w' hp' nx')
theorem fi (P:Program) (pan:Nat):jx P pan lz:=fun R g args hp nx dt κ κp r h=>by cases h
structure Tm (W:List Nat) (a a':Act):Prop where
 size:a'.tmps.size=a.tmps.size
 defers:a'.defers=a.defers
 same:∀t,t∉W→a'.tmps[t]?=a.tmps[t]?
theorem Tm.refl (W:List Nat) (a:Act):Tm W a a:=⟨rfl,rfl,fun _ _=>rfl⟩
theorem Tm.trans {V W U:List Nat} {a b c:Act} (h:Tm V a b) (k:Tm W b c) (hV:∀t∈V,t∈U) (hW:∀t∈W,t∈U):Tm U a c:=
 ⟨k.size.trans h.size,k.defers.trans h.defers,fun t ht=>(k.same t fun h=>ht (hW t h)).trans (h.same t fun h=>ht (hV t h))⟩
theorem Tm.mono {V W:List Nat} {a b:Act} (h:Tm V a b) (hV:∀t∈V,t∈W):Tm W a b:=⟨h.size,h.defers,fun t ht=>h.same t fun h=>ht (hV t h)⟩
theorem Tm.put (a:Act) (o:Oper) (v:Value):Tm (fh o) a (a.put o.dst v):=by
 cases hd:o.dst with
 |none=>exact ⟨rfl,rfl,fun _ _=>rfl⟩
 |some t=>
  refine ⟨by simp [Act.put],rfl,fun i hi=>?_⟩
  simp only [fh,hd,List.mem_singleton] at hi
  simp only [Act.put]
  exact Array.getElem?_setIfInBounds_ne (fun e=>hi e.symm)
def j6 (st:St) (ρ:Nat→Value) (ok:Nat→Prop) (w:World) (a:Act) (W:List Nat) (st':St) (a':Act) (w':World):Prop:=
 ∃ρ' ok' D,st'.dt=D++st.dt∧dB ρ' ok' w' st'.hp st'.nx∧dM ρ' ok' w' st'.nx st'.env a'.tmps∧fd ρ ok w st.hp st.nx D ρ' ok' w' st'.hp st'.nx∧Tm W a a'
section
variable {P:Program} {cx:Cx} {inl:Inl} {R:Type}
theorem mw {ρ ok w nx env} {a:Act} (he:dM ρ ok w nx env a.tmps) {d:Option Nat} {v:Value} {s:Option dU} (hs:∀x,s=some x→fM ρ ok w nx x v) (hd:∀t,d=some t→t<a.tmps.size):
 dM ρ ok w nx (ez env d s) (a.put d v).tmps:=by
 have:=dM.put he hs hd
 cases d<;>exact this
theorem nZ {g:FuncId} (h:nY P g) (args:Array Value) (w:World):(callFunc g args).run P w=.ok (.enter g args) w:=by
 obtain ⟨fn,h1,h2,h3⟩:=h
 have h4:¬(fn.body.isNone=true):=by cases hb:fn.body with|none=>rw [hb] at h2;cases h2|some _=>simp
 simp only [callFunc,Sem.run_bind,run_program,Result.andThen_ok,h1,beq_iff_eq,h3,if_false,h4,Bool.false_eq_true,Sem.run_pure]
theorem rp:∀(l:List (Option dU)) (n:Nat),fl l n=(l[n]?).getD none
 | [],n=>by cases n<;>rfl
 |s::r,0=>rfl
 |s::r,n+1=>by simp only [fl,List.getElem?_cons_succ];exact rp r n
theorem zA {ρ ok w} {st : St} {a : Act} {hp' : cp} (hN : Now P ρ ok w st a hp') {f : Operand} {args : Array Operand} {ts : Array TypeId} {o : Oper} (ho : o.op = .call { callee := .value f,args,argTypes := ts })
    {g:Nat} {as:List (Option dU)} (h:sE hp' (dp (opd st.env f)) (args.toList.map (opd st.env))=some (g,as)):
    ∃vals:Array Value,vals.size=as.length∧dM ρ ok w st.nx (fl as) vals∧(nY P g→(execOp a.eval o).run P w=.ok (.enter g vals) w):=by
  have hargs:∀(n:Nat) (s:dU),(args.toList.map (opd st.env))[n]?=some (some s)→∃v,(args.map a.eval)[n]?=some v∧fM ρ ok w st.nx s v:=by
    intro n s hs
    rw [List.getElem?_map] at hs
    cases hx:args.toList[n]? with
    |none=>rw [hx] at hs;cases hs
    |some x=>
      rw [hx] at hs
      simp at hs
      refine ⟨a.eval x,?_,jg hN.E hs⟩
      have:args[n]?=some x:=by simpa using hx
      simp [this]
  unfold sE at h
  split at h<;>try (cases h;done)
  · rename_i g' hc
    cases h
    have hf:a.eval f=.func (.func g) #[] #[]:=(cG (c:=.val (.func (.func g) #[] #[])) hN.E hc).1
    refine ⟨args.map a.eval,by simp,?_,fun hE=>?_⟩
    · intro t s hs
      rw [rp] at hs
      cases hx:(args.toList.map (opd st.env))[t]? with
      |none=>rw [hx] at hs;cases hs
      |some y=>rw [hx] at hs;simp at hs;subst hs;exact hargs t s hx
    · simp only [execOp,ho,resolve,hf,Deferred.ofValue,Sem.run_bind,Sem.run_pure,Result.andThen_ok,invoke]
      rw [nZ hE]
      simp
  · rename_i l hc
    split at h<;>try (cases h;done)
    rename_i g' first caps hl
    cases h
    obtain ⟨_,fs,cs,h1,h2,h3⟩:=hN.H.ob l _ (hN.sub _ _ hl)
    have hf:a.eval f=.func (.func g) fs.toArray cs.toArray:=(cG (c:=.ref l) hN.E hc).2.1.trans h1
    refine ⟨(fs.toArray++args.map a.eval)++cs.toArray,by simp [h2.len,h3.len],?_,fun hE=>?_⟩
    · intro t s hs
      rw [rp] at hs
      have hlf:=h2.len
      have hlc:=h3.len
      simp only [List.getElem?_append,List.length_append,List.length_map,Array.length_toList,List.getElem?_map] at hs
      simp only [Array.getElem?_append,List.size_toArray,Array.size_append,Array.size_map,List.getElem?_toArray]
      split at hs
      · rename_i ht
        rw [if_pos (by omega)]
        split at hs
        · rename_i ht2
          rw [if_pos (by omega)]
          have hx:first[t]?=some (first[t]'ht2):=List.getElem?_eq_getElem ht2
          rw [hx] at hs
          simp at hs
          subst hs
          obtain ⟨v,hv1,hv2⟩:=h2.get t _ hx
          exact ⟨v,hv1,_,rfl,hv2⟩
        · rename_i ht2
          rw [if_neg (by omega),←hlf]
          have hx:args.toList[t-first.length]?=some (args.toList[t-first.length]'(by simp;omega)):=List.getElem?_eq_getElem _
          rw [hx] at hs
          simp only [Option.map_some,Option.getD_some] at hs
          exact hargs _ s (by rw [List.getElem?_map,hx,Option.map_some,hs])
      · rename_i ht
        rw [if_neg (by omega)]
        cases hx:caps[t-(first.length+args.size)]? with
        |none=>rw [hx] at hs;cases hs
        |some c=>
          rw [hx] at hs
          simp at hs
          subst hs
          obtain ⟨v,hv1,hv2⟩:=h3.get _ _ hx
          exact ⟨v,by rw [←hlf];exact hv1,_,rfl,hv2⟩
    · simp only [execOp,ho,resolve,hf,Deferred.ofValue,Sem.run_bind,Sem.run_pure,Result.andThen_ok,invoke]
      rw [nZ hE]
theorem Eu (hT:eH P cx.tab) {ρ ok w} {st:St} {a:Act} (hE:dM ρ ok w st.nx st.env a.tmps) {t:Nat} {x:Operand} {q e q':Bool} (h:nilX cx t (dp (opd st.env x)) q=some (e,q')):
 q'=q∧∃A n c el,P.underlying t=some (.slice el)∧a.eval x=.slice A n c∧(e=false→A.isNone=false):=by
 unfold nilX at h
 split at h<;>try (cases h;done)
 rename_i e' _ _ _ _ _ f u xs h1 h2
 cases h
 refine ⟨rfl,?_⟩
 obtain ⟨A,cap,k1,k2,k3⟩:=cG (c:=.sl f u xs) hE h2
 cases k1':xs with
 |nil=>
  have:=List.cons.inj k1
  exact ⟨A,_,cap,e',(hT t _ h1).sl rfl,this.1,fun h=>by simp [k1'] at h⟩
 |cons y r=>
  refine ⟨A,_,cap,e',(hT t _ h1).sl rfl,(List.cons.inj k1).1,fun _=>?_⟩
  rcases k3 with k3|⟨b,o,k3,_⟩
  ·rw [k1'] at k3;cases k3
  ·rw [k3];rfl
theorem IZ (hT:eH P cx.tab) {ρ ok w} {st:St} {a:Act} (hE:dM ρ ok w st.nx st.env a.tmps) {o:Oper} {e q:Bool} (h:nilQ cx st.env o.op=some (e,q)):
 ∃b,(execOp a.eval o).run P w=.ok (.value (.bool b)) w∧(e=false→b= !q):=by
 generalize ho:o.op=op at h
 unfold nilQ at h
 split at h<;>try (cases h;done)
 ·rename_i t x u
  obtain ⟨rfl,A,n,c,el,h1,h2,h3⟩:=Eu hT hE h
  refine ⟨A.isNone,?_,fun he=>by rw [h3 he];rfl⟩
  have hy:a.eval (.const (.slice none 0 0))=.slice none 0 0:=rfl
  have hg:(eqGuard .eql t x (.const (.slice none 0 0)) (.slice A n c) (.slice none 0 0)).run P w=.ok () w:=rfl
  have hq:(Op.equal t (.slice A n c) (.slice none 0 0)).run P w=.ok A.isNone w:=run_equal_slice_nil w t el A n c h1
  have hb:(Go.binOp .eql t (.slice A n c) (.slice none 0 0)).run P w=.ok (.bool A.isNone) w:=by
   simp only [Go.binOp,Sem.run_bind,hq,Result.andThen_ok,Sem.run_pure]
  simp only [execOp,ho,h2,hy,Sem.run_bind,hg,Result.andThen_ok,hb,Sem.run_pure]
 ·rename_i t x u
  obtain ⟨rfl,A,n,c,el,h1,h2,h3⟩:=Eu hT hE h
  refine ⟨!A.isNone,?_,fun he=>by rw [h3 he]⟩
  have hy:a.eval (.const (.slice none 0 0))=.slice none 0 0:=rfl
  have hg:(eqGuard .neq t x (.const (.slice none 0 0)) (.slice A n c) (.slice none 0 0)).run P w=.ok () w:=rfl
  have hq:(Op.equal t (.slice A n c) (.slice none 0 0)).run P w=.ok A.isNone w:=run_equal_slice_nil w t el A n c h1
  have hb:(Go.binOp .neq t (.slice A n c) (.slice none 0 0)).run P w=.ok (.bool (!A.isNone)) w:=by
   simp only [Go.binOp,Sem.run_bind,hq,Result.andThen_ok,Sem.run_pure]
  simp only [execOp,ho,h2,hy,Sem.run_bind,hg,Result.andThen_ok,hb,Sem.run_pure]
def iV {R:Type} (pan:Nat) (κp:Int→St→Option R) (r:R) (st:St) (ρ:Nat→Value) (ok:Nat→Prop) (w:World) (a:Act) (W:List Nat) (Q:Exit→Act→World→Prop):Prop:=
 ∀n st' a' w',κp n st'=some r→j6 st ρ ok w a W st' a' w'→Q (.panic (Aw pan n)) a' w'
theorem iV.mono {pan:Nat} {κp:Int→St→Option R} {r:R} {st:St} {ρ ok w a V W Q} (h:iV pan κp r st ρ ok w a W Q) (hV:∀t∈V,t∈W):iV pan κp r st ρ ok w a V Q:=
 fun n st' a' w' h1 ⟨ρ',ok',D,g1,g2,g3,g4,g5⟩=>h n st' a' w' h1 ⟨ρ',ok',D,g1,g2,g3,g4,g5.mono hV⟩
theorem iV.next {pan:Nat} {κp:Int→St→Option R} {r:R} {st:St} {ρ ok w a W Q} (h:iV pan κp r st ρ ok w a W Q) {V U:List Nat} {st1:St} {a1:Act} {w1:World} {ρ1 ok1 D} (hdt:st1.dt=D++st.dt)
 (g:fd ρ ok w st.hp st.nx D ρ1 ok1 w1 st1.hp st1.nx) (ht:Tm V a a1) (hV:∀t∈V,t∈W) (hU:∀t∈U,t∈W):iV pan κp r st1 ρ1 ok1 w1 a1 U Q:=
 fun n st' a' w' h1 ⟨ρ2,ok2,D2,j1,j2,j3,j4,j5⟩=>h n st' a' w' h1 ⟨ρ2,ok2,D2++D,by rw [j1,hdt,List.append_assoc],j2,j3,g.trans j4,ht.trans j5 hV hU⟩
theorem I0 (hcx : bM P cx) (hinl : jx P cx.pan inl) {o : Oper} {st : St} {κ : St → Option R} {κp : Int → St → Option R} {r : R} (h : step cx inl o st κ κp = some r) {ρ ok w} {a : Act}
    (hH:dB ρ ok w st.hp st.nx) (hE:dM ρ ok w st.nx st.env a.tmps) (hd:∀t∈fh o,t<a.tmps.size) (Q:Exit→Act→World→Prop) (hQp:iV cx.pan κp r st ρ ok w a (fh o) Q):
    o.wp P a w (fun a' w'=>∃st',κ st'=some r∧j6 st ρ ok w a (fh o) st' a' w') Q:=by
  have hN:Now P ρ ok w st a st.hp:=⟨hH,hE,fun _ _ h=>h⟩
  have hd':∀t,o.dst=some t→t<a.tmps.size:=fun t ht=>hd t (by simp [fh,ht])
  -- an operation that calls nothing
  have plain:(match nilQ cx st.env o.op with
    |some (e,q)=>bif e then tf (fun b=>κ ⟨ez st.env o.dst (some (.v false [.bool b])),st.hp,st.nx,st.dt⟩)
        else κ ⟨ez st.env o.dst (some (.v false [.bool (!q)])),st.hp,st.nx,st.dt⟩
    |none=>match fa cx st.nx o.op (opd st.env) st.hp with
      |some r=>bif r.c then κ ⟨ez st.env o.dst r.s,ups st.hp r.up,st.nx+r.nw,names r.up++st.dt⟩ else none
      |none=>none)=some r→o.wp P a w (fun a' w'=>∃st',κ st'=some r∧j6 st ρ ok w a (fh o) st' a' w') Q:=by
    intro h
    split at h
    · rename_i e q hq
      obtain ⟨b,h1,h2⟩:=IZ hcx.tab hE hq
      have hk:κ ⟨ez st.env o.dst (some (.v false [.bool b])),st.hp,st.nx,st.dt⟩=some r:=by
        cases e with
        |true=>
          have h:tf (fun b=>κ ⟨ez st.env o.dst (some (.v false [.bool b])),st.hp,st.nx,st.dt⟩)=some r:=h
          exact E9 h b
        |false=>rw [h2 rfl];exact h
      unfold Oper.wp
      rw [h1]
      exact ⟨_,hk,ρ,ok,[],rfl,hH,mw hE (fun x hx=>by cases hx;exact ⟨_,rfl,rfl⟩) hd',fd.refl fun l o ho=>(hH.ob l o ho).1,Tm.put a o _⟩
    split at h<;>try (cases h;done)
    rename_i res hres
    cases hc:res.c with
    |false=>rw [hc] at h;cases h
    |true=>
      rw [hc] at h
      have h:κ ⟨ez st.env o.dst res.s,ups st.hp res.up,st.nx+res.nw,names res.up++st.dt⟩=some r:=h
      obtain ⟨n,w',ρ',ok',h1,h2,h3⟩:=Er cx hcx.tab hcx.eqs hN hres hc
      have hE':=hE.move h2.2 hH
      unfold Oper.wp
      rw [h1]
      rcases h3 with ⟨v,rfl,hs⟩|⟨rfl,hs⟩
      · exact ⟨_,h,ρ',ok',names res.up,rfl,h2.1,mw hE' hs hd',h2.2,Tm.put a o v⟩
      · exact ⟨_,h,ρ',ok',names res.up,rfl,h2.1,mw hE' (fun x hx=>by rw [hs] at hx;cases hx) hd',h2.2,Tm.put a o undef⟩
  unfold step at h
  split at h
  · rename_i f args ts ho
    split at h<;>try (cases h;done)
    rename_i g as hg
    obtain ⟨vals,hsz,hv,hrun⟩:=zA hN ho hg
    split at h
    · rename_i sp hsp
      obtain ⟨hent,hspec⟩:=hcx.spec g _ _ sp hsp
      split at h<;>try (cases h;done)
      rename_i cr hcr
      unfold Ak at hcr
      split at hcr<;>try (cases hcr;done)
      rename_i hn
      split at hcr<;>try (cases hcr;done)
      rename_i hchk
      simp only [Bool.and_eq_true] at hchk
      obtain ⟨c1,c2,c3,c4⟩:=hchk
      split at hcr<;>try (cases hcr;done)
      rename_i x hx
      cases hcr
      obtain ⟨y,hy,hκ⟩:=Option.bind_eq_some_iff.1 h
      obtain ⟨ρi,oki,i1,i2,i3⟩:=sL hH (fun _ _ h=>h) hv c1 (Nat.le_of_ble_eq_true c2) c3 c4 hx
      unfold Oper.wp
      rw [hrun hent]
      rw [Oper.upon_enter]
      refine (hspec x y hy ρi oki w vals (by rw [hsz];exact Nat.eq_of_beq_eq_true hn) i1 i2).mono ?_
      rintro e w' ⟨v,ρ',ok',rfl,e1,e2,e3⟩
      obtain ⟨ρ2,e4,e5⟩:=i3 y v w' ρ' ok' e1 e2 e3
      have hE':=hE.move e4.2 hH
      exact ⟨_,hκ,ρ2,ok',_,rfl,e4.1,mw hE' e5 hd',e4.2,Tm.put a o v⟩
    · split at h
      · rename_i sp hsp
        obtain ⟨hent,hspec⟩:=hcx.specP g _ _ sp hsp
        split at h<;>try (cases h;done)
        rename_i cr hcr
        unfold Ei at hcr
        split at hcr<;>try (cases hcr;done)
        rename_i hn
        split at hcr<;>try (cases hcr;done)
        rename_i hchk
        simp only [Bool.and_eq_true] at hchk
        obtain ⟨c1,c2,c3,c4⟩:=hchk
        split at hcr<;>try (cases hcr;done)
        rename_i x hx
        cases hcr
        obtain ⟨z,hz,hκ⟩:=Option.bind_eq_some_iff.1 h
        cases z with
        |inl y=>
          obtain ⟨ρi,oki,i1,i2,i3⟩:=sL (sp:=⟨sp.n,sp.si,sp.so,fun _=>none⟩) hH (fun _ _ h=>h) hv c1 (Nat.le_of_ble_eq_true c2) c3 c4 hx
          unfold Oper.wp
          rw [hrun hent]
          rw [Oper.upon_enter]
          refine (hspec x _ hz ρi oki w vals (by rw [hsz];exact Nat.eq_of_beq_eq_true hn) i1 i2).mono ?_
          intro e w' he
          obtain ⟨v,ρ',ok',rfl,e1,e2,e3⟩:=he
          obtain ⟨ρ2,e4,e5⟩:=i3 y v w' ρ' ok' e1 e2 e3
          have hE':=hE.move e4.2 hH
          exact ⟨_,hκ,ρ2,ok',_,rfl,e4.1,mw hE' e5 hd',e4.2,Tm.put a o v⟩
        |inr n=>
          obtain ⟨ρi,oki,i1,i2,i4⟩:=G8 hH (fun _ _ h=>h) hv c1 (Nat.le_of_ble_eq_true c2) hx
          unfold Oper.wp
          rw [hrun hent]
          rw [Oper.upon_enter]
          refine (hspec x _ hz ρi oki w vals (by rw [hsz];exact Nat.eq_of_beq_eq_true hn) i1 i2).mono ?_
          intro e w' he
          obtain ⟨rfl,e1⟩:=he
          obtain ⟨ρ2,ok2,e4⟩:=i4 w' e1
          exact hQp n _ a w' hκ ⟨ρ2,ok2,_,rfl,e4.1,hE.move e4.2 hH,e4.2,Tm.refl _ _⟩
      · obtain ⟨hent,hcall⟩:=hinl R g as st.hp st.nx st.dt _ _ r h
        unfold Oper.wp
        rw [hrun hent]
        rw [Oper.upon_enter]
        refine (hcall ρ ok w vals hH hv).mono ?_
        rintro e w' (⟨v,s,hp',nx',dt',D,ρ',ok',rfl,hκ,hdt,e1,e2,e3⟩|⟨n,hp',nx',dt',D,ρ',ok',rfl,hκ,hdt,e1,e3⟩)
        · have hE':=hE.move e3 hH
          exact ⟨_,hκ,ρ',ok',D,hdt,e1,mw hE' e2 hd',e3,Tm.put a o v⟩
        · exact hQp n _ a w' hκ ⟨ρ',ok',D,hdt,e1,hE.move e3 hH,e3,Tm.refl _ _⟩
  · rename_i x ho
    split at h<;>try (cases h;done)
    rename_i t n hx
    split at h<;>try (cases h;done)
    rename_i ht
    have ht:=Nat.eq_of_beq_eq_true ht
    have hv:=(cG hE hx).1
    unfold Oper.wp
    have hrun:(execOp a.eval o).run P w=.halt (.panic (E8 cx.pan n)) w:=by
      simp only [execOp,ho,hv,Instr.panic]
      rw [←ht]
      rfl
    rw [hrun,Oper.upon_panic]
    exact hQp n st a w h ⟨ρ,ok,[],rfl,hH,hE,fd.refl fun l o ho=>(hH.ob l o ho).1,Tm.refl _ _⟩
  · exact plain h
theorem wp_op {o:Oper} {ops:Array Oper} {a:Act} {w:World} {K:Act→World→Prop} {Q:Exit→Act→World→Prop} {i:Nat} (ho:ops[i]?=some o)
 (h:if Region.wanted o (yielded ops a.tmps) then o.wp P a w K Q else K (a.put o.dst undef) w):wpOp P ops Q i K a w:=by
 unfold wpOp
 rw [ho]
 simp only
 split
 ·rename_i hw;rw [if_pos hw] at h;exact .inl h
 ·rename_i hw;rw [if_neg hw] at h;exact h
theorem G9 (hcx : bM P cx) (hinl : jx P cx.pan inl) (ops : Array Oper) {o : Oper} {st : St} {κ : St → Option R} {κp : Int → St → Option R} {r : R} (h : ev1 cx inl ops o st κ κp = some r) {ρ ok w} {a : Act}
    (hH:dB ρ ok w st.hp st.nx) (hE:dM ρ ok w st.nx st.env a.tmps) (hdo:∀t∈fh o,t<a.tmps.size) {K:Act→World→Prop} {Q:Exit→Act→World→Prop}
    (hQ:∀st' a' w',κ st'=some r→j6 st ρ ok w a (fh o) st' a' w'→K a' w') (hQp:iV cx.pan κp r st ρ ok w a (fh o) Q):
    if Region.wanted o (yielded ops a.tmps) then o.wp P a w K Q else K (a.put o.dst undef) w:=by
  -- the operation is done,from a state with the same memory
  have doIt:∀env,dM ρ ok w st.nx env a.tmps→step cx inl o ⟨env,st.hp,st.nx,st.dt⟩ κ κp=some r→o.wp P a w K Q:=by
    intro env hEnv hs
    refine Oper.wp_mono ?_ (I0 hcx hinl hs hH hEnv hdo Q hQp)
    rintro a1 w1 ⟨st1,h1,h2⟩
    exact hQ st1 a1 w1 h1 h2
  -- the operation is left out
  have skipIt:∀env,dM ρ ok w st.nx env a.tmps→κ ⟨ez env o.dst (some (.tup [])),st.hp,st.nx,st.dt⟩=some r→K (a.put o.dst undef) w:=by
    intro env hEnv hs
    have hEn:=mw (v:=undef) (s:=some (.tup [])) hEnv (fun x hx=>by cases hx;exact ⟨[],rfl,.nil⟩) (d:=o.dst) (fun t ht=>hdo t (by simp [fh,ht]))
    exact hQ _ _ _ hs ⟨ρ,ok,[],rfl,hH,hEn,fd.refl fun l o ho=>(hH.ob l o ho).1,Tm.put a o undef⟩
  unfold ev1 at h
  split at h
  · rename_i hg
    rw [if_pos (by simp [Region.wanted,hg])]
    exact doIt st.env hE h
  · rename_i gd want hg
    split at h<;>try (cases h;done)
    rename_i t ht
    split at h
    case h_2=>
      split at h<;>try (cases h;done)
      rename_i hu
      obtain ⟨v,hv1,vs,hv2,hv3⟩:=hE t _ hu
      cases hv3
      subst hv2
      have hy:yielded ops a.tmps gd=none:=by simp [yielded,ht,hv1]
      rw [if_neg (by simp [Region.wanted,hg,hy])]
      exact skipIt _ hE h
    rename_i b hb
    obtain ⟨v,hv1,hv2⟩:=hE t _ (mr hb)
    obtain ⟨c,e,hv2⟩:=hv2
    cases e
    have hv:v=.bool b:=hv2
    subst hv
    have hy:yielded ops a.tmps gd=some b:=by simp [yielded,ht,hv1]
    have hEb:∀b',b=b'→dM ρ ok w st.nx (Lv.put st.env t (some (.v false [.bool b']))) a.tmps:=by
      intro b' e i s hs
      subst e
      simp only [Lv.put] at hs
      split at hs
      · rename_i hi
        cases hs
        rw [Nat.eq_of_beq_eq_true hi]
        exact ⟨_,hv1,_,rfl,rfl⟩
      · exact hE i s hs
    cases b with
    |true=>
      simp only [cond_true] at h
      cases want with
      |true=>
        rw [if_pos (by simp [Region.wanted,hg,hy])]
        exact doIt _ (hEb true rfl) h
      |false=>
        rw [if_neg (by simp [Region.wanted,hg,hy])]
        exact skipIt _ (hEb true rfl) h
    |false=>
      simp only [cond_false] at h
      cases want with
      |false=>
        rw [if_pos (by simp [Region.wanted,hg,hy])]
        exact doIt _ (hEb false rfl) h
      |true=>
        rw [if_neg (by simp [Region.wanted,hg,hy])]
        exact skipIt _ (hEb false rfl) h
theorem BT (hcx:bM P cx) (hinl:jx P cx.pan inl) (ops:Array Oper):∀(l:List Oper) (st:St) (κ:St→Option R) (κp:Int→St→Option R) (r:R),GN cx inl ops l st κ κp=some r→∀ρ ok w (a:Act),
    dB ρ ok w st.hp st.nx→dM ρ ok w st.nx st.env a.tmps→(∀o∈l,∀t∈fh o,t<a.tmps.size)→∀(Q:Exit→Act→World→Prop),
    (∀st' a' w',κ st'=some r→j6 st ρ ok w a (l.flatMap fh) st' a' w'→Q .normal a' w')→iV cx.pan κp r st ρ ok w a (l.flatMap fh) Q→wpList P ops Q l a w
  | [],st,κ,κp,r,h,ρ,ok,w,a,hH,hE,_,Q,hQ,_=>hQ st a w h ⟨ρ,ok,[],rfl,hH,hE,fd.refl fun l o ho=>(hH.ob l o ho).1,Tm.refl _ _⟩
  | o :: l,st,κ,κp,r,h,ρ,ok,w,a,hH,hE,hd,Q,hQ,hQp => by
    have hdo:∀t∈fh o,t<a.tmps.size:=hd o List.mem_cons_self
    have key:=G9 hcx hinl ops (K:=wpList P ops Q l) h hH hE hdo (fun st1 a1 w1 h1 h2=>by
      obtain ⟨ρ1,ok1,D,k1,k2,k3,k4,k5⟩:=h2
      refine BT hcx hinl ops l st1 κ κp r h1 ρ1 ok1 w1 a1 k2 k3 (fun o' ho' t ht=>by rw [k5.size];exact hd o' (List.mem_cons_of_mem _ ho') t ht) Q (fun st2 a2 w2 g1 g2=>hQ st2 a2 w2 g1 ?_) (hQp.next k1 k4 k5 (fun t ht=>by simp [ht]) (fun t ht=>by simp only [List.flatMap_cons,List.mem_append];exact .inr ht))
      obtain ⟨ρ2,ok2,D2,j1,j2,j3,j4,j5⟩:=g2
      exact ⟨ρ2,ok2,D2++D,by rw [j1,k1,List.append_assoc],j2,j3,k4.trans j4,k5.trans j5 (fun t ht=>by simp [ht]) (fun t ht=>by simp only [List.flatMap_cons,List.mem_append];exact .inr ht)⟩) (hQp.mono fun t ht=>by simp [ht])
    unfold wpList
    split
    · rename_i hw;rw [if_pos hw] at key;exact .inl key
    · rename_i hw;rw [if_neg hw] at key;exact key
theorem tl {ls:List Bool}:∀{es:List Edge},wB ls es=true↔∀e∈es,Region.binds .any e=true→ls.getD e.on false=true
 | []=>by simp [wB]
 |e::r=>by
  simp only [wB,Bool.and_eq_true,Bool.or_eq_true,Bool.not_eq_true',tl (es:=r),List.mem_cons,forall_eq_or_imp]
  refine and_congr ?_ Iff.rfl
  cases Region.binds .any e<;>simp
theorem BU {ls : List Bool} {j : Nat} : ∀ {l : List Oper} {i : Nat},j ∈ BE ls i l ↔ i ≤ j ∧ ls.getD j true = false ∧ ∃ o,l[j - i]? = some o ∧ ∀ e ∈ o.after.toList,Region.binds .any e = true → ls.getD e.on false = true
  | [],i=>by simp [BE]
  | o :: r,i => by
    have ih:=BU (ls:=ls) (j:=j) (l:=r) (i:=i+1)
    have tail:(i+1≤j∧ls.getD j true=false∧∃o',r[j-(i+1)]?=some o'∧∀e∈o'.after.toList,Region.binds .any e=true→ls.getD e.on false=true)↔
        (j≠i∧i≤j∧ls.getD j true=false∧∃o',(o::r)[j-i]?=some o'∧∀e∈o'.after.toList,Region.binds .any e=true→ls.getD e.on false=true):=by
      constructor
      · rintro ⟨h1,h2,o',h3,h4⟩
        refine ⟨by omega,by omega,h2,o',?_,h4⟩
        rw [show j-i=(j-(i+1))+1 by omega,List.getElem?_cons_succ];exact h3
      · rintro ⟨h0,h1,h2,o',h3,h4⟩
        refine ⟨by omega,h2,o',?_,h4⟩
        rw [show j-i=(j-(i+1))+1 by omega,List.getElem?_cons_succ] at h3;exact h3
    unfold BE
    cases hb:(!(ls.getD i true)&&wB ls o.after.toList) with
    |true=>
      simp only [cond_true,List.mem_cons,ih,tail]
      simp only [Bool.and_eq_true,Bool.not_eq_true',tl] at hb
      constructor
      · rintro (rfl|⟨_,h⟩)
        · exact ⟨Nat.le_refl _,hb.1,o,by simp,hb.2⟩
        · exact h
      · intro h
        by_cases e:j=i
        · exact .inl e
        · exact .inr ⟨e,h⟩
    |false=>
      simp only [cond_false,ih,tail]
      constructor
      · exact fun h=>h.2
      · intro h
        refine ⟨fun e=>?_,h⟩
        subst e
        obtain ⟨h1,h2,o',h3,h4⟩:=h
        simp at h3
        subst h3
        have:(!(ls.getD j true)&&wB ls o.after.toList)=true:=by
          rw [Bool.and_eq_true,Bool.not_eq_true',tl];exact ⟨h2,h4⟩
        rw [this] at hb;cases hb
theorem BV {ops:Array Oper} {listed:Array Bool} {j:Nat}:j∈Region.ready .any ops listed↔j∈BE listed.toList 0 ops.toList:=by
 rw [mem_ready,BU]
 simp only [Nat.zero_le,true_and,Nat.sub_zero,Array.getElem?_toList,Array.mem_toList_iff]
 simp only [Array.getD_eq_getD_getElem?,List.getD_eq_getElem?_getD,Array.getElem?_toList]
theorem BW:∀(l:List Bool) (i:Nat),l[i]?=some false→(l.set i true).countP (! ·)+1=l.countP (! ·)
 | [],i,h=>by simp at h
 |b::r,0,h=>by simp at h;subst h;simp
 |b::r,i+1,h=>by
  have:=BW r i (by simpa using h)
  simp only [List.set_cons_succ,List.countP_cons]
  omega
theorem Fp:∀(l:List Bool),l.countP (! ·)=0→∀i,i<l.length→l[i]?=some true:=by
 intro l h i hi
 rw [List.countP_eq_zero] at h
 have:=h l[i] (List.getElem_mem hi)
 rw [List.getElem?_eq_getElem hi]
 simpa using this
theorem Ha (hcx : bM P cx) (hinl : jx P cx.pan inl) (ops : Array Oper) {κ : St → Option R} {κp : Int → St → Option R} {r : R} {Q : Exit → Act → World → Prop} : ∀ (fuel : Nat) (listed : Array Bool) (st : St),Ej cx inl ops fuel listed.toList st κ κp = some r →
    listed.toList.countP (! ·)=fuel→listed.size=ops.size→∀ρ ok w (a:Act),dB ρ ok w st.hp st.nx→dM ρ ok w st.nx st.env a.tmps→(∀o∈ops.toList,∀t∈fh o,t<a.tmps.size)→
    (∀st' a' w',κ st'=some r→j6 st ρ ok w a (ops.toList.flatMap fh) st' a' w'→Q .normal a' w')→iV cx.pan κp r st ρ ok w a (ops.toList.flatMap fh) Q→wpAny P .any ops Q fuel listed a w:=by
  intro fuel
  induction fuel with
  |zero=>
    intro listed st h hc hs ρ ok w a hH hE hd hQ hQp
    refine ⟨?_,hQ st a w h ⟨ρ,ok,[],rfl,hH,hE,fd.refl fun l o ho=>(hH.ob l o ho).1,Tm.refl _ _⟩⟩
    cases hr:Region.ready .any ops listed with
    |nil=>rfl
    |cons i l=>
      have hi:i∈Region.ready .any ops listed:=by rw [hr];exact List.mem_cons_self
      obtain ⟨h1,o,h2,_⟩:=mem_ready.1 hi
      have hlt:i<listed.toList.length:=by rw [Array.length_toList,hs];exact (Array.getElem?_eq_some_iff.1 h2).1
      have:=Fp _ hc i hlt
      rw [Array.getElem?_toList] at this
      simp [Array.getD_eq_getD_getElem?,this] at h1
  |succ fuel ih=>
    intro listed st h hc hs ρ ok w a hH hE hd hQ hQp
    simp only [Ej] at h
    have hne:=Fa h
    have hall:=BD h
    refine ⟨fun hr=>?_,fun i hi=>?_⟩
    · exfalso
      apply hne
      have:BE listed.toList 0 ops.toList=[]:=by
        apply List.eq_nil_iff_forall_not_mem.2
        intro j hj
        have:=BV.2 hj
        rw [hr] at this;cases this
      rw [this];rfl
    · obtain ⟨hun,o,ho,hafter⟩:=mem_ready.1 hi
      have h1:=hall _ (List.mem_map.2 ⟨i,BV.1 hi,rfl⟩)
      have hol:ops.toList[i]?=some o:=by simpa using ho
      rw [hol] at h1
      simp only at h1
      have hmem:o∈ops.toList:=List.mem_of_getElem? hol
      have hlt:i<listed.size:=by rw [hs];exact (Array.getElem?_eq_some_iff.1 ho).1
      have hcount:(listed.setIfInBounds i true).toList.countP (! ·)=fuel:=by
        have hf:listed.toList[i]?=some false:=by
          rw [Array.getElem?_toList,Array.getElem?_eq_getElem hlt]
          simp [Array.getD_eq_getD_getElem?,hlt] at hun
          rw [hun]
        have h:=BW listed.toList i hf
        rw [hc] at h
        rw [Array.toList_setIfInBounds]
        omega
      refine wp_op ho (G9 hcx hinl ops h1 hH hE (hd o hmem) (fun st1 a1 w1 k1 k2=>?_) (hQp.mono fun t ht=>List.mem_flatMap.2 ⟨o,hmem,ht⟩))
      obtain ⟨ρ1,ok1,D,g1,g2,g3,g4,g5⟩:=k2
      refine ih (listed.setIfInBounds i true) st1 (by rw [Array.toList_setIfInBounds];exact k1) hcount (by simpa using hs) ρ1 ok1 w1 a1 g2 g3 (fun o' ho' t ht=>by rw [g5.size];exact hd o' ho' t ht) (fun st2 a2 w2 j1 j2=>hQ st2 a2 w2 j1 ?_) (hQp.next g1 g4 g5 (fun t ht=>List.mem_flatMap.2 ⟨o,hmem,ht⟩) (fun t ht=>ht))
      obtain ⟨ρ2,ok2,D2,j1,j2,j3,j4,j5⟩:=j2
      exact ⟨ρ2,ok2,D2++D,by rw [j1,g1,List.append_assoc],j2,j3,g4.trans j4,g5.trans j5 (fun t ht=>List.mem_flatMap.2 ⟨o,hmem,ht⟩) (fun t ht=>ht)⟩
end
end Lv
end
section
namespace Lv
variable [eR]
open Go Go.RowKit
theorem oa {S R:Type} {body:S→Option (S⊕R)} {s:S} {r:R} (h:bE body s=some r):∃n,ky body n s=some r:=by
 unfold bE at h
 split at h
 ·rename_i hx
  cases h
  exact ⟨_,Classical.choose_spec (Classical.choose_spec hx)⟩
 ·cases h
theorem rq {S R:Type} {body:S→Option (S⊕R)}:∀{n m:Nat} {s:S} {r:R},ky body n s=some r→n≤m→ky body m s=some r
  |0,_,_,_,h,_=>by cases h
  |n+1,0,_,_,_,hm=>by omega
  | n + 1,m + 1,s,r,h,hm => by
    simp only [ky] at h ⊢
    split at h<;>first|(cases h;done)|skip
    · rename_i s' hs
      exact rq h (by omega)
    · exact h
theorem wY {S R:Type} {body:S→Option (S⊕R)} {s:S} {r:R} {n:Nat} (h:ky body n s=some r):bE body s=some r:=by
 have hx:∃n r,ky body n s=some r:=⟨n,r,h⟩
 unfold bE
 rw [dif_pos hx]
 congr 1
 have h2:=Classical.choose_spec (Classical.choose_spec hx)
 generalize Classical.choose (Classical.choose_spec hx)=r' at h2 ⊢
 rcases Nat.le_total n (Classical.choose hx) with hle|hle
 ·have:=rq h hle
  rw [this] at h2
  exact (Option.some.inj h2).symm
 ·have:=rq h2 hle
  rw [this] at h
  exact Option.some.inj h
theorem Hb {S R : Type} (body : S → Option (S ⊕ R)) (s : S) : bE body s = match body s with
    |some (.inl s')=>bE body s'
    |some (.inr r)=>some r
    |none=>none:=by
  cases hb:body s with
  |none=>
    cases hl:bE body s with
    |none=>rfl
    |some r=>
      obtain ⟨n,hn⟩:=oa hl
      cases n with
      |zero=>cases hn
      |succ n=>simp [ky,hb] at hn
  |some z=>
    cases z with
    |inr r=>exact wY (n:=1) (by simp [ky,hb])
    | inl s' =>
      simp only
      cases hl:bE body s' with
      |some r=>
        obtain ⟨n,hn⟩:=oa hl
        exact wY (n:=n+1) (by simp [ky,hb,hn])
      |none=>
        cases hl':bE body s with
        |none=>rfl
        |some r=>
          obtain ⟨n,hn⟩:=oa hl'
          cases n with
          |zero=>cases hn
          |succ n=>
            simp only [ky,hb] at hn
            rw [wY hn] at hl
            cases hl
theorem pS {p:Nat→Prop} (h:∃n,p n):∃n,p n∧∀m,p m→n≤m:=by
 obtain ⟨n,hn⟩:=h
 induction n using Nat.strongRecOn with
 |ind n ih=>
  by_cases hx:∃m,m<n∧p m
  ·obtain ⟨m,h1,h2⟩:=hx;exact ih m h1 h2
  ·exact ⟨n,hn,fun m hm=>Nat.le_of_not_lt fun hlt=>hx ⟨m,hlt,hm⟩⟩
open Classical in
noncomputable def to (p:Nat→Prop):Nat:=if h:∃n,p n∧∀m,p m→n≤m then choose h else 0
theorem BX {p:Nat→Prop} (h:∃n,p n):p (to p):=by
 unfold to
 rw [dif_pos (pS h)]
 exact (Classical.choose_spec (pS h)).1
theorem Fq {p:Nat→Prop} {m:Nat} (h:p m):to p≤m:=by
 unfold to
 rw [dif_pos (pS ⟨m,h⟩)]
 exact (Classical.choose_spec (pS ⟨m,h⟩)).2 m h
def Out.st:Out→St
 | .normal st=>st
 | .exit _ st=>st
 | .ret st=>st
 | .pan _ st=>st
def Ke:Out→Exit→Prop
 | .normal _,e=>e=.normal
 | .exit id _,e=>e=.exit id
 | .ret _,e=>e=.ret
 | .pan _ _,_=>False
def ji (P : Program) (cx : Cx) : Prop := P.follows .mixedOrders = true ∧ ∀ (R : Type) (id : Nat) (ops : Array Oper) (st : St) (κ : St → Option R) (r : R),
  (ic cx ops ops.toList st [] fun st tr=>if El ops (ops.toList.zip tr)=true then κ st else none)=some r→∀ρ ok w (a:Act),
    dB ρ ok w st.hp st.nx→dM ρ ok w st.nx st.env a.tmps→(∀o∈ops.toList,∀t∈fh o,t<a.tmps.size)→∀(Q:Exit→Act→World→Prop),
    (∀st' a' w',κ st'=some r→j6 st ρ ok w a (ops.toList.flatMap fh) st' a' w'→Q .normal a' w')→(Code.region id ops true).wp P Q a w
theorem Dg {kp:List Nat} {env:Env} {t:Nat} {s:dU} (h:Bx kp env t=some s):t∈kp∧env t=some s:=by
 unfold Bx at h
 split at h
 ·rename_i hm;exact ⟨gV.1 hm,h⟩
 ·cases h
theorem lh {ren : Ren} {nx : Nat} : ∀ (ob : List (Nat × Bool × OSh)) (l : Nat),fw ren nx ob l = nx + l ∨ (ren l = some (fw ren nx ob l) ∧ ∃ p ∈ ob,p.1 = l ∧ p.2.1 = true)
  | [],l=> .inl rfl
  |(m,k,o)::r,l=>by
    simp only [fw]
    split
    · rename_i hm
      have hm:=Nat.eq_of_beq_eq_true hm
      subst hm
      split
      · split
        · rename_i hr;exact .inr ⟨hr,_,List.mem_cons_self,rfl,rfl⟩
        · exact .inl rfl
      · exact .inl rfl
    · rcases lh r l with h|⟨h1,p,h2,h3⟩
      · exact .inl h
      · exact .inr ⟨h1,p,List.mem_cons_of_mem _ h2,h3⟩
theorem pT {ren : Ren} {f : Nat → Nat} : ∀ {ob : List (Nat × Bool × OSh)},wD ren f ob = true → ∀ p ∈ ob,p.2.1 = true → ren p.1 = some (f p.1)
  |(l,true,o)::r,h,p,hp,hk=>by
    obtain ⟨h1,h2⟩:=Bool.and_eq_true_iff.1 h
    rcases List.mem_cons.1 hp with rfl|hp
    · split at h1
      · rename_i m hm
        simp only
        rw [hm,Nat.eq_of_beq_eq_true h1]
      · cases h1
    · exact pT h2 p hp hk
  |(l,false,o)::r,h,p,hp,hk=>by
    rcases List.mem_cons.1 hp with rfl|hp
    · cases hk
    · exact pT (ob:=r) h p hp hk
theorem tq {nx : Nat} {obs : List Nat} {hp : cp} : ∀ {l : List Nat},dtOk nx obs hp l = true → ∀ d ∈ l,nx ≤ d ∨ d ∈ obs ∨ hp d = none
  | d :: r,h,x,hx => by
    obtain ⟨h1,h2⟩:=Bool.and_eq_true_iff.1 h
    rcases List.mem_cons.1 hx with rfl|hx
    · rcases Bool.or_eq_true_iff.1 h1 with h|h
      · exact .inl (Nat.le_of_ble_eq_true h)
      · rcases Bool.or_eq_true_iff.1 h with h|h
        · exact .inr (.inl (gV.1 h))
        · cases hd:hp x with
          |none=>exact .inr (.inr rfl)
          |some o=>rw [hd] at h;cases h
    · exact tq h2 x hx
theorem va {f:Nat→Nat}:∀{ob:List (Nat×Bool×OSh)} {q:Nat},q∈obN f ob↔∃p∈ob,q=f p.1
  | [],q=>by simp [obN]
  |(l,k,o)::r,q=>by
    simp only [obN,List.mem_cons,va (ob:=r)]
    constructor
    · rintro (h|⟨p,h1,h2⟩)
      · exact ⟨_,.inl rfl,h⟩
      · exact ⟨p,.inr h1,h2⟩
    · rintro ⟨p,rfl|h1,h2⟩
      · exact .inl h2
      · exact .inr ⟨p,h1,h2⟩
section
variable {P:Program} {cx:Cx} {inl:Inl}
theorem Ax {sh:Sh} {c:Code} (hsh:shOk sh c=true) {st:St} {ρ0:Nat→Value} {ok0:Nat→Prop} {w0:World} {a0:Act} (hH0:dB ρ0 ok0 w0 st.hp st.nx) (hE0:dM ρ0 ok0 w0 st.nx st.env a0.tmps)
    {f:Nat→Nat} {H0:cp} {gone:List Nat}
    (hH0':∀q o,H0 q=some o→(st.hp q=some o∨∃e t xs,st.hp q=some (.arr e t xs)∧o=.frz e t xs)) (hgone:∀q,q∉gone→H0 q=st.hp q)
    {st':St} {ρ:Nat→Value} {ok:Nat→Prop} {w:World} {a:Act} (hH:dB ρ ok w st'.hp st'.nx) (hE:dM ρ ok w st'.nx st'.env a.tmps) {D:List Nat} (G:fd ρ0 ok0 w0 st.hp st.nx D ρ ok w st'.hp st'.nx) (hT:Tm (writes c) a0 a)
    (hf:lg f st.nx sh.nn (bL sh st'.env st'.hp)) (hB:∀q o,H0 q=some o→ObR ρ (fp ok ρ (names (fv sh st'.env st'.hp))) w st.nx q o∧ups st'.hp (fv sh st'.env st'.hp) q=some o∧q∉names (ib (bL sh st'.env st'.hp) sh.ob))
    (hC:∀d,d∈names (dJ sh st'.env st'.hp)∨d∈D→d<st.nx→st.hp d≠none→d∈obN f sh.ob++gone) {x:TS sh} (hx:wy sh st'.env st'.hp=some x):
    ∃ ρ2 ok2,dB ρ2 ok2 w (GI sh f H0 st.env x) (st.nx + sh.nn) ∧ dM ρ2 ok2 w (st.nx + sh.nn) (Eg sh f st.env x) a.tmps ∧
      fd ρ0 ok0 w0 st.hp st.nx (obN f sh.ob++gone) ρ2 ok2 w (GI sh f H0 st.env x) (st.nx+sh.nn)∧(∀q o,H0 q=some o→ObR ρ2 ok2 w st.nx q o):=by
  obtain ⟨hap,hbel⟩:=Bool.and_eq_true_iff.1 hsh
  have hap:=io.1 hap
  have hlt:∀q o,H0 q=some o→q<st.nx:=fun q o h=>by
    rcases hH0' q o h with h1|⟨e,t,xs,h1,_⟩
    · exact (hH0.ob q o h1).1
    · exact (hH0.ob q _ h1).1
  have hKE:dM ρ ok w st.nx (Bx sh.kp st.env) a.tmps:=by
    intro t s hs
    obtain ⟨h1,h2⟩:=Dg hs
    obtain ⟨v,h3,h4⟩:=hE0 t s h2
    exact ⟨v,by rw [hT.same t (hap t h1)];exact h3,h4.move (G.sameOk hH0) G.rho (Nat.le_refl _)⟩
  obtain ⟨t1,t2,t3⟩:=De hH hE hbel hx hf (H0:=H0) (fun q o h=>⟨hlt q o h,hB q o h⟩) hKE
  refine ⟨_,_,t1,t2,?_,fun q o h=>(hB q o h).1.move (fc.refl _ _) (fun l hl=>by simp [reρ,hl]) (Nat.le_refl _) (by simp [reρ,hlt q o h]) fun _ _ _=>rfl⟩
  refine BR G hH hf (H0:=H0) t3 (fun q hq=>ns f H0 sh.ob _ q hq) (fun q o h=>⟨hlt q o h,by
    rcases fG (gN sh st'.env st'.hp) q with ⟨_,e,t,xs,k1,k2⟩|⟨_,k2⟩
    · rw [(hB q o h).2.1] at k2;cases k2;exact ⟨_,k1,fun h=>by cases h⟩
    · rw [(hB q o h).2.1] at k2;exact ⟨o,k2.symm,id⟩⟩) (fun q _ hn=>hgone q fun h=>hn (List.mem_append_right _ h)) (fun p hp=>List.mem_append_left _ (va.2 ⟨p,hp,rfl⟩)) hC
theorem Fr (sh:Sh) (env:Env) (hp:cp) (q:Nat) (o:Ob) (h:ups hp (dJ sh env hp) q=some o):
 q∉names (ib (bL sh env hp) sh.ob)∧(hp q=some o∨∃e t xs,hp q=some (.arr e t xs)∧o=.frz e t xs):=by
 rcases BS sh env hp hp (fun _ _ h=>h) q with ⟨h1,h2⟩|⟨_,h2⟩|⟨h0,_,e,t,xs,h1,h2⟩
 ·rw [h2] at h;exact ⟨fun hg=>h1 ((eC sh q).2 (.inr hg)),.inl h⟩
 ·rw [h2] at h;cases h
 ·rw [h2] at h;cases h;exact ⟨h0,.inr ⟨e,t,xs,h1,rfl⟩⟩
theorem I1 {sh:Sh} {st:St} {hp:cp} (hlt:∀l m,bL sh st.env hp l=some m→m<st.nx):lg (fw (bL sh st.env hp) st.nx sh.ob) st.nx sh.nn (bL sh st.env hp):=fun l _=>by
 rcases lh (nx:=st.nx) (ren:=bL sh st.env hp) sh.ob l with h|⟨h,_⟩
 ·exact .inl h
 ·exact .inr ⟨h,hlt _ _ h⟩
theorem qk {ρ:Nat→Value} {ok:Nat→Prop} {w:World} {nx:Nat}:∀{cs:List CSh} {ds:List Cell} {vs:List Value},All2 (cU ρ ok w nx) ds vs→∀p∈ww cs ds,p.2<nx
  | [],[],_,_,p,hp=>by simp [ww] at hp
  | [],_::_,_,_,p,hp=>by simp [ww] at hp
  |c::r,[],_,_,p,hp=>by cases c<;>simp [ww] at hp
  | c :: r,d :: ds,_,.cons hd ht,p,hp => by
    have ih:=qk (cs:=r) ht
    cases c<;>cases d<;>simp only [ww,List.mem_cons] at hp<;>first
      |exact ih p hp
      | (rcases hp with rfl | hp
         · exact hd.1
         · exact ih p hp)
theorem BZ {ρ : Nat → Value} {ok : Nat → Prop} {w : World} {nx : Nat} : ∀ {cs : List (Bool × List CSh)} {ds : List (Bool × List Cell)} {vs : List Value},All2 (fun (p : Bool × List Cell) u => VR ρ ok w nx p.1 p.2 u) ds vs → ∀ p ∈ zj cs ds,p.2 < nx
  | [],_,_,_,p,hp=>by simp [zj] at hp
  |_::_,[],_,_,p,hp=>by simp [zj] at hp
  |(_,cs)::r,(g,ds)::dr,_,.cons hd ht,p,hp=>by
    simp only [zj,List.mem_append] at hp
    rcases hp with hp|hp
    · cases g with
      |true=>obtain ⟨us,_,hus⟩:=hd;exact qk hus p hp
      |false=>
        obtain ⟨c,e,hc⟩:=hd
        have e:ds=[c]:=e
        subst e
        exact qk (.cons hc .nil) p hp
    · exact BZ ht p hp
theorem wZ {ρ : Nat → Value} {ok : Nat → Prop} {w : World} {nx : Nat} {env : Env} {tmps : Array Value} (hE : dM ρ ok w nx env tmps) : ∀ (l : List (Nat × SSh)),∀ p ∈ wx env l,p.2 < nx
  | [],p,hp=>by simp [wx] at hp
  | (t,.v _ cs) :: r,p,hp => by
    simp only [wx,List.mem_append] at hp
    rcases hp with hp|hp
    · split at hp
      · rename_i g ds hd
        obtain ⟨v,_,hv⟩:=hE t _ hd
        cases g with
        |true=>obtain ⟨us,_,hus⟩:=hv;exact qk hus p hp
        |false=>
          obtain ⟨c,e,hc⟩:=hv
          subst e
          exact qk (.cons hc .nil) p hp
      · cases hp
    · exact wZ hE r p hp
  |(t,.tup l)::r,p,hp=>by
    simp only [wx,List.mem_append] at hp
    rcases hp with hp|hp
    · split at hp
      · rename_i ds hd
        obtain ⟨v,_,us,_,hv⟩:=hE t _ hd
        exact BZ hv p hp
      · cases hp
    · exact wZ hE r p hp
theorem vb {ρ : Nat → Value} {ok : Nat → Prop} {w : World} {hp : cp} {nx : Nat} (hH : dB ρ ok w hp nx) : ∀ (l : List (Nat × Bool × OSh)) (acc : List (Nat × Nat)),(∀ p ∈ acc,p.2 < nx) → ∀ p ∈ GH hp l acc,p.2 < nx
  | [],acc,h,p,hp'=>h p hp'
  |(l,_,.box _ cs)::r,acc,h,p,hp'=>by
    simp only [GH] at hp'
    refine vb hH r _ ?_ p hp'
    intro q hq
    split at hq
    · rename_i m hm
      split at hq
      · rename_i e ds hd
        rcases List.mem_append.1 hq with hq|hq
        · exact h q hq
        · obtain ⟨_,b,vs,_,_,hv⟩:=hH.ob m _ hd
          exact qk hv q hq
      · exact h q hq
    · exact h q hq
  |(l,_,.arr _ _)::r,acc,h,p,hp'=>vb hH r acc h p hp'
  |(l,_,.mp _ _)::r,acc,h,p,hp'=>vb hH r acc h p hp'
theorem zC:∀{l:List (Nat×Nat)} {k m:Nat},Bu l k=some m→(k,m)∈l
  |(a,b)::r,k,m,h=>by
    simp only [Bu] at h
    split at h
    · rename_i he;cases h;rw [Nat.eq_of_beq_eq_true he];exact List.mem_cons_self
    · exact List.mem_cons_of_mem _ (zC h)
theorem w5 {ρ:Nat→Value} {ok:Nat→Prop} {w:World} {hp:cp} {nx:Nat} (hH:dB ρ ok w hp nx):∀(l:List (Nat×Nat)),∀p∈Bv hp l,p.2<nx
  | [],p,h=>by cases h
  |(a,m)::r,p,h=>by
    unfold Bv at h
    split at h
    · rename_i o ho
      rcases List.mem_cons.1 h with rfl|h
      · exact (hH.ob m o ho).1
      · exact w5 hH r p h
    · exact w5 hH r p h
theorem Hc {ρ:Nat→Value} {ok:Nat→Prop} {w:World} {hp:cp} {nx:Nat} {env:Env} {tmps:Array Value} (hH:dB ρ ok w hp nx) (hE:dM ρ ok w nx env tmps) (sh:Sh) {l m:Nat} (h:bL sh env hp l=some m):m<nx:=
 vb hH sh.ob _ (fun p hp=>(List.mem_append.1 hp).elim (w5 hH sh.fx p) (wZ hE sh.sl p)) _ (zC h)
theorem w6 {sh:Sh} {st:St} {ρ:Nat→Value} {ok:Nat→Prop} {w:World} {a:Act} (hH:dB ρ ok w st.hp st.nx) (hE:dM ρ ok w st.nx st.env a.tmps) {ren:Ren}
 (hk:wD ren (fw (bL sh st.env st.hp) st.nx sh.ob) sh.ob=true):lg (fw (bL sh st.env st.hp) st.nx sh.ob) st.nx sh.nn ren:=fun l _=>by
 rcases lh (nx:=st.nx) (ren:=bL sh st.env st.hp) sh.ob l with h|⟨h,p,h1,h2,h3⟩
 ·exact .inl h
 ·refine .inr ⟨?_,Hc hH hE sh h⟩
  have:=pT hk p h1 h3
  rwa [h2] at this
theorem Fs {sh:Sh} {env:Env} {hp:cp} {p:Nat×Option Ob} (h:p∈lc sh env hp):p.2=none:=by
 rcases List.mem_append.1 h with h|h
 ·exact tj h
 ·obtain ⟨q,_,rfl⟩:=List.mem_map.1 h;rfl
theorem Ft {sh:Sh} {env:Env} {hp:cp} {p:Nat×Bool×OSh} {m:Nat} (h:p∈sh.ob) (e:bL sh env hp p.1=some m):m∈names (lc sh env hp):=by
 unfold lc names
 rw [List.map_append]
 exact List.mem_append_left _ (ix h e)
def I3 {R:Type} (κ:Out→Option R) (r:R) (st:St) (ρ:Nat→Value) (ok:Nat→Prop) (w:World) (a:Act) (W:List Nat) (Q:Exit→Act→World→Prop):Prop:=
 ∀o e a' w',κ o=some r→Ke o e→j6 st ρ ok w a W o.st a' w'→Q e a' w'
theorem jA (    hcx : bM P cx) (hinl : jx P cx.pan inl) (hdr : ji P cx) : ∀ (c : Code) (R : Type) (h : H) (st : St) (κ : Out → Option R) (r : R),evC cx inl R c h st κ = some r → ∀ ρ ok w (a : Act),
    dB ρ ok w st.hp st.nx→dM ρ ok w st.nx st.env a.tmps→(∀t∈writes c,t<a.tmps.size)→∀(Q:Exit→Act→World→Prop),I3 κ r st ρ ok w a (writes c) Q→iV cx.pan (fun n st=>κ (.pan n st)) r st ρ ok w a (writes c) Q→c.wp P Q a w
  | .skip,R,h,st,κ,r,hc,ρ,ok,w,a,hH,hE,hW,Q,hQ,hQp=>by
    simp only [evC] at hc
    exact wp_skip (hQ _ _ _ _ hc rfl ⟨ρ,ok,[],rfl,hH,hE,fd.refl fun l o ho=>(hH.ob l o ho).1,Tm.refl _ _⟩)
  | .label l,R,h,st,κ,r,hc,ρ,ok,w,a,hH,hE,hW,Q,hQ,hQp=>by
    simp only [evC] at hc
    exact wp_label (hQ _ _ _ _ hc rfl ⟨ρ,ok,[],rfl,hH,hE,fd.refl fun l o ho=>(hH.ob l o ho).1,Tm.refl _ _⟩)
  | .ret,R,h,st,κ,r,hc,ρ,ok,w,a,hH,hE,hW,Q,hQ,hQp=>by
    simp only [evC] at hc
    exact wp_ret (hQ _ _ _ _ hc rfl ⟨ρ,ok,[],rfl,hH,hE,fd.refl fun l o ho=>(hH.ob l o ho).1,Tm.refl _ _⟩)
  | .exit id,R,h,st,κ,r,hc,ρ,ok,w,a,hH,hE,hW,Q,hQ,hQp=>by
    simp only [evC] at hc
    exact wp_exit (hQ _ _ _ _ hc rfl ⟨ρ,ok,[],rfl,hH,hE,fd.refl fun l o ho=>(hH.ob l o ho).1,Tm.refl _ _⟩)
  | .region id ops false,R,h,st,κ,r,hc,ρ,ok,w,a,hH,hE,hW,Q,hQ,hQp=>by
    simp only [evC] at hc
    refine wp_region_list (BT hcx hinl ops ops.toList st _ _ r hc ρ ok w a hH hE (fun o ho t ht=>hW t (List.mem_flatMap.2 ⟨o,ho,ht⟩)) Q (fun st' a' w' h1 h2=>hQ _ _ _ _ h1 rfl h2) hQp)
  | .region id ops true,R,h,st,κ,r,hc,ρ,ok,w,a,hH,hE,hW,Q,hQ,hQp=>by
    simp only [evC] at hc
    have hWo:∀o∈ops.toList,∀t∈fh o,t<a.tmps.size:=fun o ho t ht=>hW t (List.mem_flatMap.2 ⟨o,ho,ht⟩)
    split at hc
    · have hG:fd ρ ok w st.hp st.nx [] ρ ok {w with drawn:=w.drawn+1} st.hp st.nx:=
        ⟨rfl,rfl,⟨rfl,fun _=>Nat.le_succ _⟩,Nat.le_refl _,Nat.le_refl _,fun _ _ _=>rfl,fun _ _=>rfl,fun _ h=>h,fun _ h=> .inl h,fun _ _ _=>rfl,fun _ _ o h=>⟨o,h,fun h=>h⟩,fun l o b hl ho _ _=>absurd (hH.ob l o ho).1 (by omega)⟩
      have hH1:dB ρ ok {w with drawn:=w.drawn+1} st.hp st.nx:=
        ⟨fun l o ho=>⟨(hH.ob l o ho).1,ObR.move (w:=w) (w':={w with drawn:=w.drawn+1}) (ok:=ok) (ok':=ok) (ρ:=ρ) (nx:=st.nx) (fun b hb=>⟨hb,rfl⟩) (fun _ _=>rfl) (Nat.le_refl _) rfl (fun _ _ _=>rfl) (hH.ob l o ho).2⟩,hH.okl,hH.sep,hH.dis,hH.gl.move (fun b hb=>⟨hb,rfl⟩)⟩
      have hl:(Array.replicate ops.size false).toList=List.replicate ops.toList.length false:=by simp
      refine wp_region_any hdr.1 (Ha hcx hinl ops ops.size _ st (by rw [hl];simpa using hc) (by rw [hl];simp [List.countP_replicate]) (by simp) ρ ok _ a hH1 (hE.move hG hH) hWo ?_ ?_)
      rotate_left
      · rintro n st' a' w' h1 ⟨ρ',ok',D,g1,g2,g3,g4,g5⟩
        exact hQp n st' a' w' h1 ⟨ρ',ok',D++ [],by rw [List.append_nil];exact g1,g2,g3,hG.trans g4,g5⟩
      rintro st' a' w' h1 ⟨ρ',ok',D,g1,g2,g3,g4,g5⟩
      exact hQ _ _ _ _ h1 rfl ⟨ρ',ok',D++ [],by rw [List.append_nil];exact g1,g2,g3,hG.trans g4,g5⟩
    · exact hdr.2 R id ops st _ r hc ρ ok w a hH hE hWo Q fun st' a' w' h1 h2=>hQ _ _ _ _ h1 rfl h2
  | .cond c x y,R,h,st,κ,r,hc,ρ,ok,w,a,hH,hE,hW,Q,hQ,hQp=>by
    simp only [evC] at hc
    split at hc<;>try (cases hc;done)
    rename_i v hv
    have he:a.eval c=.bool v:=cG (c:=.bool v) hE hv
    refine wp_cond he ?_
    cases v with
    |true=>exact jA hcx hinl hdr x R _ st κ r hc ρ ok w a hH hE (fun t ht=>hW t (List.mem_append_left _ ht)) Q (fun o e a' w' h1 h2 ⟨ρ',ok',D,g1,g2,g3,g4,g5⟩=>hQ o e a' w' h1 h2 ⟨ρ',ok',D,g1,g2,g3,g4,g5.mono fun t ht=>List.mem_append_left _ ht⟩) (hQp.mono fun t ht=>List.mem_append_left _ ht)
    |false=>exact jA hcx hinl hdr y R _ st κ r hc ρ ok w a hH hE (fun t ht=>hW t (List.mem_append_right _ ht)) Q (fun o e a' w' h1 h2 ⟨ρ',ok',D,g1,g2,g3,g4,g5⟩=>hQ o e a' w' h1 h2 ⟨ρ',ok',D,g1,g2,g3,g4,g5.mono fun t ht=>List.mem_append_right _ ht⟩) (hQp.mono fun t ht=>List.mem_append_right _ ht)
  | .block id c,R,h,st,κ,r,hc,ρ,ok,w,a,hH,hE,hW,Q,hQ,hQp=>by
    simp only [evC] at hc
    refine wp_block (jA hcx hinl hdr c R _ st _ r hc ρ ok w a hH hE hW _ ?_ hQp)
    intro o e a' w' h1 h2 h3
    cases o with
    |pan n st'=>cases h2
    |normal st'=>cases h2;exact hQ _ _ _ _ h1 rfl h3
    |ret st'=>cases h2;exact hQ _ _ _ _ h1 rfl h3
    |exit id' st'=>
      cases h2
      simp only at h1
      by_cases hi:id'=id
      · subst hi
        rw [if_pos (Nat.beq_refl id')] at h1
        simp only [Exit.inBlock,if_true]
        exact hQ _ _ _ _ h1 rfl h3
      · rw [if_neg fun e=>hi (Nat.eq_of_beq_eq_true e)] at h1
        simp only [Exit.inBlock,hi,if_false]
        exact hQ _ _ _ _ h1 rfl h3
  | .seq x y,R,h,st,κ,r,hc,ρ,ok,w,a,hH,hE,hW,Q,hQ,hQp=>by
    have hWx:∀t∈writes x,t<a.tmps.size:=fun t ht=>hW t (List.mem_append_left _ ht)
    have hWy:∀t∈writes y,t<a.tmps.size:=fun t ht=>hW t (List.mem_append_right _ ht)
    have inx:∀t∈writes x,t∈writes (x.seq y):=fun t ht=>List.mem_append_left _ ht
    have iny:∀t∈writes y,t∈writes (x.seq y):=fun t ht=>List.mem_append_right _ ht
    simp only [evC] at hc
    split at hc
    · refine wp_seq (jA hcx hinl hdr x R _ st _ r hc ρ ok w a hH hE hWx _ ?_ (hQp.mono inx))
      intro o e a' w' h1 h2 h3
      have h3':j6 st ρ ok w a (writes (x.seq y)) o.st a' w':=by
        obtain ⟨ρ',ok',D,g1,g2,g3,g4,g5⟩:=h3
        exact ⟨ρ',ok',D,g1,g2,g3,g4,g5.mono inx⟩
      cases o with
      |pan n st'=>cases h2
      |exit id st'=>cases h2;exact hQ _ _ _ _ h1 rfl h3'
      |ret st'=>cases h2;exact hQ _ _ _ _ h1 rfl h3'
      |normal st'=>
        cases h2
        obtain ⟨ρ',ok',D,g1,g2,g3,g4,g5⟩:=h3
        have g1:st'.dt=D++st.dt:=g1
        refine jA hcx hinl hdr y R _ st' κ r h1 ρ' ok' w' a' g2 g3 (fun t ht=>by rw [g5.size];exact hWy t ht) Q ?_ (hQp.next g1 g4 g5 inx iny)
        intro o e a2 w2 k1 k2 ⟨ρ2,ok2,D2,j1,j2,j3,j4,j5⟩
        exact hQ o e a2 w2 k1 k2 ⟨ρ2,ok2,D2++D,by rw [j1,g1,List.append_assoc],j2,j3,g4.trans j4,g5.trans j5 inx iny⟩
    · rename_i sh hj
      split at hc<;>try (cases hc;done)
      rename_i hsh
      obtain ⟨z,hz,hκ⟩:=Option.bind_eq_some_iff.1 hc
      refine wp_seq (jA hcx hinl hdr x (TS sh⊕R) _ ⟨st.env,st.hp,st.nx,[]⟩ _ z hz ρ ok w a hH hE hWx _ ?_ ?_)
      rotate_left
      · rintro n st1 a' w' h1 ⟨ρ',ok',D,g1,g2,g3,g4,g5⟩
        obtain ⟨r',hr',he⟩:=Option.map_eq_some_iff.1 h1
        subst he
        cases hκ
        refine hQp n _ a' w' hr' ⟨ρ',ok',D,?_,g2,g3,g4,g5.mono inx⟩
        simp only at g1 ⊢
        rw [g1,List.append_nil]
      intro o e a' w' h1 h2 h3
      have leaves:∀st1:St,j6 ⟨st.env,st.hp,st.nx,[]⟩ ρ ok w a (writes x) st1 a' w'→j6 st ρ ok w a (writes (x.seq y)) ⟨st1.env,st1.hp,st1.nx,st1.dt++st.dt⟩ a' w':=by
        rintro st1 ⟨ρ',ok',D,g1,g2,g3,g4,g5⟩
        refine ⟨ρ',ok',D,?_,g2,g3,g4,g5.mono inx⟩
        simp only at g1 ⊢
        rw [g1,List.append_nil]
      cases o with
      |pan n st'=>cases h2
      |exit id st'=>
        cases h2
        simp only at h1
        obtain ⟨r',hr',he⟩:=Option.map_eq_some_iff.1 h1
        subst he
        cases hκ
        exact hQ _ _ _ _ hr' rfl (leaves st' h3)
      |ret st'=>
        cases h2
        simp only at h1
        obtain ⟨r',hr',he⟩:=Option.map_eq_some_iff.1 h1
        subst he
        cases hκ
        exact hQ _ _ _ _ hr' rfl (leaves st' h3)
      |normal st'=>
        cases h2
        simp only at h1
        split at h1<;>try (cases h1;done)
        rename_i s hs
        cases h1
        simp only at hκ
        unfold wF at hs
        split at hs<;>try (cases hs;done)
        rename_i hkept
        split at hs<;>try (cases hs;done)
        rename_i hdt
        obtain ⟨ρ',ok',D,g1,g2,g3,g4,g5⟩:=h3
        have g1:st'.dt=D++ []:=g1
        rw [List.append_nil] at g1
        have g4:fd ρ ok w st.hp st.nx D ρ' ok' w' st'.hp st'.nx:=g4
        have g2:dB ρ' ok' w' st'.hp st'.nx:=g2
        have g3:dM ρ' ok' w' st'.nx st'.env a'.tmps:=g3
        have hdt':=tq hdt
        rw [g1] at hdt'
        have hf:=w6 (sh:=sh) hH hE hkept
        have hgm:∀q o,ups st.hp (lc sh st.env st.hp) q=some o→st.hp q=some o∧q∉names (lc sh st.env st.hp):=by
          intro q o h
          rw [fP] at h
          cases hl:je (lc sh st.env st.hp) q with
          |none=>rw [hl] at h;exact ⟨h,eA.1 hl⟩
          |some p=>
            rw [hl] at h
            have:p=none:=Fs (kJ hl)
            rw [this] at h;cases h
        have hnot:∀q o,ups st.hp (lc sh st.env st.hp) q=some o→q∉names (dJ sh st'.env st'.hp)∧q∉D:=by
          intro q o h
          obtain ⟨k1,k2⟩:=hgm q o h
          have hlt:=(hH.ob q o k1).1
          have hnob:q∉obN (fw (bL sh st.env st.hp) st.nx sh.ob) sh.ob:=fun hm=>by
            obtain ⟨p,hp1,hp2⟩:=va.1 hm
            rcases lh (nx:=st.nx) (ren:=bL sh st.env st.hp) sh.ob p.1 with k|⟨k,_⟩
            · rw [←hp2] at k;omega
            · rw [←hp2] at k;exact k2 (Ft hp1 k)
          have:q∉names (dJ sh st'.env st'.hp)++D:=fun hm=>by
            rcases hdt' q hm with k|k|k
            · omega
            · exact hnob k
            · rw [h] at k;cases k
          exact ⟨fun hm=>this (List.mem_append_left _ hm),fun hm=>this (List.mem_append_right _ hm)⟩
        obtain ⟨ρ2,ok2,t1,t2,t3,t4⟩:=Ax hsh hH hE (f:=fw (bL sh st.env st.hp) st.nx sh.ob) (H0:=ups st.hp (lc sh st.env st.hp)) (gone:=names (lc sh st.env st.hp))
          (fun q o h=> .inl (hgm q o h).1) (fun q hq=>by rw [fP,eA.2 hq]) g2 g3 g4 g5 hf
          (by
            intro q o h
            obtain ⟨k1,k2⟩:=hgm q o h
            obtain ⟨k3,k4⟩:=hnot q o h
            have k5:q∉names (fv sh st'.env st'.hp):=fun hm=>k3 ((eC sh q).2 (.inl hm))
            refine ⟨?_,?_,fun hm=>k3 ((eC sh q).2 (.inr hm))⟩
            · obtain ⟨m1,m2⟩:=hH.ob q o k1
              refine m2.move (ok':=fp ok' ρ' (names (fv sh st'.env st'.hp))) (fun b hb=>⟨.inl (g4.okm b hb),(g4.sameOk hH b hb).2⟩) g4.rho (Nat.le_refl _) (g4.rho q m1) fun hw b hb=>?_
              exact g4.same b (hH.lt k1 hw hb) fun l hl hlt p hp hpw hbl=>by
                have:=hH.dis q l o p b k1 hp hw hpw hb hbl
                subst this
                exact k4 hl
            · rcases fG (gN sh st'.env st'.hp) q with ⟨m1,_⟩|⟨_,m1⟩
              · exact absurd m1 k5
              · rw [m1,g4.hps q (hH.ob q o k1).1 k4];exact k1)
          (by
            intro d hd hlt hne
            have hd':d∈names (dJ sh st'.env st'.hp)++D:=by
              rcases hd with hd|hd
              · exact List.mem_append_left _ hd
              · exact List.mem_append_right _ hd
            rcases hdt' d hd' with k|k|k
            · omega
            · exact List.mem_append_left _ k
            · by_cases hm:d∈names (lc sh st.env st.hp)
              · exact List.mem_append_right _ hm
              · rw [fP,eA.2 hm] at k;exact absurd k hne) hs
        refine jA hcx hinl hdr y R _ _ κ r hκ ρ2 ok2 w' a' t1 t2 (fun t ht=>by rw [g5.size];exact hWy t ht) Q ?_ (hQp.next (D:=obN (fw (bL sh st.env st.hp) st.nx sh.ob) sh.ob++names (lc sh st.env st.hp)) (by simp only [List.append_assoc]) t3 g5 inx iny)
        intro o e a2 w2 k1 k2 ⟨ρ3,ok3,D2,j1,j2,j3,j4,j5⟩
        refine hQ o e a2 w2 k1 k2 ⟨ρ3,ok3,D2++(obN (fw (bL sh st.env st.hp) st.nx sh.ob) sh.ob++names (lc sh st.env st.hp)),?_,j2,j3,t3.trans j4,g5.trans j5 inx iny⟩
        rw [j1]
        simp only [List.append_assoc]
  | .loop c,R,h,st,κ,r,hc,ρ,ok,w,a,hH,hE,hW,Q,hQ,hQp => by
    simp only [evC] at hc
    split at hc<;>try (cases hc;done)
    rename_i sh h'
    split at hc<;>try (cases hc;done)
    rename_i hsh
    split at hc<;>try (cases hc;done)
    rename_i s0 hs0
    obtain ⟨n0,hn0⟩:=oa hc
    -- a round's head
    let head:TS sh→St:=fun s=>⟨Eg sh (fw (bL sh st.env st.hp) st.nx sh.ob) st.env s,GI sh (fw (bL sh st.env st.hp) st.nx sh.ob) (ups st.hp (dJ sh st.env st.hp)) st.env s,st.nx+sh.nn,[]⟩
    let D0:List Nat:=obN (fw (bL sh st.env st.hp) st.nx sh.ob) sh.ob++names (dJ sh st.env st.hp)
    let body : TS sh → Option (TS sh ⊕ R) := fun s => evC cx inl (TS sh ⊕ R) c h' (head s) fun o => match o with
        | .normal st'=>(match wF sh (fw (bL sh st.env st.hp) st.nx sh.ob) st.nx (ups st.hp (dJ sh st.env st.hp)) st' with|some x=>some (.inl x)|none=>none)
        | .exit id st'=>(κ (.exit id ⟨st'.env,st'.hp,st'.nx,st'.dt++(obN (fw (bL sh st.env st.hp) st.nx sh.ob) sh.ob++(names (dJ sh st.env st.hp)++st.dt))⟩)).map .inr
        | .ret st'=>(κ (.ret ⟨st'.env,st'.hp,st'.nx,st'.dt++(obN (fw (bL sh st.env st.hp) st.nx sh.ob) sh.ob++(names (dJ sh st.env st.hp)++st.dt))⟩)).map .inr
        | .pan n st'=>(κ (.pan n ⟨st'.env,st'.hp,st'.nx,st'.dt++(obN (fw (bL sh st.env st.hp) st.nx sh.ob) sh.ob++(names (dJ sh st.env st.hp)++st.dt))⟩)).map .inr
    have hn0:ky body n0 s0=some r:=hn0
    let Pn:Nat→Act→World→Prop:=fun n a' w'=>∃s ρ' ok',ky body n s=some r∧dB ρ' ok' w' (head s).hp (head s).nx∧dM ρ' ok' w' (head s).nx (head s).env a'.tmps∧fd ρ ok w st.hp st.nx D0 ρ' ok' w' (head s).hp (head s).nx∧Tm (writes c) a a'∧(∀q o,ups st.hp (dJ sh st.env st.hp) q=some o→ObR ρ' ok' w' st.nx q o)
    have hleave:∀q o,ups st.hp (dJ sh st.env st.hp) q=some o→q∉names (ib (bL sh st.env st.hp) sh.ob)∧(st.hp q=some o∨∃e t xs,st.hp q=some (.arr e t xs)∧o=.frz e t xs):=Fr sh st.env st.hp
    have hlt:∀q o,ups st.hp (dJ sh st.env st.hp) q=some o→q<st.nx:=fun q o h=>by
      rcases (hleave q o h).2 with k|⟨e,t,xs,k,_⟩
      · exact (hH.ob q o k).1
      · exact (hH.ob q _ k).1
    have hfrz:∀q o,ups st.hp (dJ sh st.env st.hp) q=some o→ups st.hp (fv sh st.env st.hp) q=some o:=fun q o h=>by
      have e:ups st.hp (dJ sh st.env st.hp)=ups (ups st.hp (fv sh st.env st.hp)) (ib (bL sh st.env st.hp) sh.ob):=by rw [←nU];rfl
      have hl:=(hleave q o h).1
      rw [e,fP,eA.2 hl] at h
      exact h
    have start:Pn n0 a w:=by
      have e1:=qe hH (gN sh st.env st.hp)
      have hf:=I1 (sh:=sh) (st:=st) (hp:=st.hp) fun l m h=>Hc hH hE sh h
      obtain ⟨ρ2,ok2,t1,t2,t3,t4⟩:=Ax hsh hH hE (f:=fw (bL sh st.env st.hp) st.nx sh.ob) (H0:=ups st.hp (dJ sh st.env st.hp)) (gone:=names (dJ sh st.env st.hp))
        (fun q o h=>(hleave q o h).2) (fun q hq=>by rw [fP,eA.2 hq]) hH hE (fd.refl fun l o ho=>(hH.ob l o ho).1) (Tm.refl (writes c) a) hf
        (fun q o h=>⟨(e1.1.ob q o (hfrz q o h)).2.move (fc.refl _ _) (fun _ _=>rfl) (Nat.le_refl _) rfl fun _ _ _=>rfl,hfrz q o h,(hleave q o h).1⟩)
        (fun d hd _ _=>by
          rcases hd with hd|hd
          · exact List.mem_append_right _ hd
          · cases hd) hs0
      exact ⟨s0,ρ2,ok2,hn0,t1,t2,t3,Tm.refl _ _,t4⟩
    refine wp_loop (fun a' w'=>∃n,Pn n a' w') (fun a' w'=>to fun n=>Pn n a' w') ⟨n0,start⟩ ?_
    intro a1 w1 hI
    obtain ⟨s,ρ1,ok1,i1,i2,i3,i4,i5,i6⟩:=BX hI
    cases hn:to (fun n=>Pn n a1 w1) with
    |zero=>rw [hn] at i1;cases i1
    |succ n=>
      rw [hn] at i1
      simp only [ky] at i1
      -- the round gives z
      have hz:∃z,body s=some z∧match z with| .inl s'=>ky body n s'=some r| .inr r'=>r'=r:=by
        split at i1<;>first|(cases i1;done)|skip
        · rename_i s' hs';exact ⟨_,hs',i1⟩
        · rename_i r' hr';cases i1;exact ⟨_,hr',rfl⟩
      obtain ⟨z,hz,hz2⟩:=hz
      refine jA hcx hinl hdr c (TS sh⊕R) h' (head s) _ z hz ρ1 ok1 w1 a1 i2 i3 (fun t ht=>by rw [i5.size];exact hW t ht) _ ?_ ?_
      rotate_left
      · rintro n' st1 a' w' h1 ⟨ρ',ok',D,g1,g2,g3,g4,g5⟩
        obtain ⟨r',hr',he⟩:=Option.map_eq_some_iff.1 h1
        subst he
        cases hz2
        refine hQp n' _ a' w' hr' ⟨ρ',ok',D++D0,?_,g2,g3,i4.trans g4,i5.trans g5 (fun _ h=>h) (fun _ h=>h)⟩
        have g1:st1.dt=D++ []:=g1
        rw [List.append_nil] at g1
        simp only [g1,D0,List.append_assoc]
      intro o e a' w' h1 h2 h3
      have leaves:∀st1:St,j6 (head s) ρ1 ok1 w1 a1 (writes c) st1 a' w'→j6 st ρ ok w a (writes (.loop c)) ⟨st1.env,st1.hp,st1.nx,st1.dt++(obN (fw (bL sh st.env st.hp) st.nx sh.ob) sh.ob++(names (dJ sh st.env st.hp)++st.dt))⟩ a' w':=by
        rintro st1 ⟨ρ',ok',D,g1,g2,g3,g4,g5⟩
        refine ⟨ρ',ok',D++D0,?_,g2,g3,i4.trans g4,i5.trans g5 (fun _ h=>h) (fun _ h=>h)⟩
        have g1:st1.dt=D++ []:=g1
        rw [List.append_nil] at g1
        simp only [g1,D0,List.append_assoc]
      cases o with
      |pan n st'=>cases h2
      |exit id st'=>
        cases h2
        simp only at h1
        obtain ⟨r',hr',he⟩:=Option.map_eq_some_iff.1 h1
        subst he
        cases hz2
        exact hQ _ _ _ _ hr' rfl (leaves st' h3)
      |ret st'=>
        cases h2
        simp only at h1
        obtain ⟨r',hr',he⟩:=Option.map_eq_some_iff.1 h1
        subst he
        cases hz2
        exact hQ _ _ _ _ hr' rfl (leaves st' h3)
      |normal st'=>
        cases h2
        simp only at h1
        split at h1<;>try (cases h1;done)
        rename_i s' hs'
        cases h1
        simp only at hz2
        unfold wF at hs'
        split at hs'<;>try (cases hs';done)
        rename_i hkept
        split at hs'<;>try (cases hs';done)
        rename_i hdt
        obtain ⟨ρ',ok',D,g1,g2,g3,g4,g5⟩:=h3
        have g1:st'.dt=D++ []:=g1
        rw [List.append_nil] at g1
        have g2:dB ρ' ok' w' st'.hp st'.nx:=g2
        have g3:dM ρ' ok' w' st'.nx st'.env a'.tmps:=g3
        have g4:fd ρ1 ok1 w1 (head s).hp (head s).nx D ρ' ok' w' st'.hp st'.nx:=g4
        have hdt':=tq hdt
        rw [g1] at hdt'
        have hf:=w6 (sh:=sh) hH hE hkept
        have G:=i4.trans g4
        have T:=i5.trans g5 (U:=writes c) (fun _ h=>h) (fun _ h=>h)
        have hnob:∀q o,ups st.hp (dJ sh st.env st.hp) q=some o→∀p∈sh.ob,q≠fw (bL sh st.env st.hp) st.nx sh.ob p.1:=by
          intro q o h p hp e
          rcases lh (nx:=st.nx) (ren:=bL sh st.env st.hp) sh.ob p.1 with k|⟨k,_⟩
          · have:=hlt q o h;omega
          · rw [←e] at k;exact (hleave q o h).1 (ix hp k)
        have hnot:∀q o,ups st.hp (dJ sh st.env st.hp) q=some o→q∉names (dJ sh st'.env st'.hp)∧q∉D:=by
          intro q o h
          have:q∉names (dJ sh st'.env st'.hp)++D:=fun hm=>by
            rcases hdt' q hm with k|k|k
            · have:=hlt q o h;omega
            · obtain ⟨p,hp1,hp2⟩:=va.1 k
              exact hnob q o h p hp1 hp2
            · rw [h] at k;cases k
          exact ⟨fun hm=>this (List.mem_append_left _ hm),fun hm=>this (List.mem_append_right _ hm)⟩
        have hhead:∀q o,ups st.hp (dJ sh st.env st.hp) q=some o→(head s).hp q=some o:=fun q o h=>by
          show ofO _ _ sh.ob _ q=some o
          rw [ns _ _ _ _ _ (hnob q o h)];exact h
        obtain ⟨ρ2,ok2,t1,t2,t3,t4⟩:=Ax hsh hH hE (f:=fw (bL sh st.env st.hp) st.nx sh.ob) (H0:=ups st.hp (dJ sh st.env st.hp)) (gone:=names (dJ sh st.env st.hp))
          (fun q o h=>(hleave q o h).2) (fun q hq=>by rw [fP,eA.2 hq]) g2 g3 G T hf
          (by
            intro q o h
            obtain ⟨k3,k4⟩:=hnot q o h
            have k1:=hhead q o h
            have k5:q∉names (fv sh st'.env st'.hp):=fun hm=>k3 ((eC sh q).2 (.inl hm))
            refine ⟨?_,?_,fun hm=>k3 ((eC sh q).2 (.inr hm))⟩
            · have hqn:=hlt q o h
              refine (i6 q o h).move (ok':=fp ok' ρ' (names (fv sh st'.env st'.hp))) (fun b hb=>⟨.inl (g4.okm b hb),(g4.sameOk i2 b hb).2⟩)
                (fun l hl=>g4.rho l (by show l<st.nx+sh.nn;omega)) (Nat.le_refl _) (g4.rho q (by show q<st.nx+sh.nn;omega)) fun hw b hb=>?_
              exact g4.same b (i2.lt k1 hw hb) fun l hl hlt p hp hpw hbl=>by
                have:=i2.dis q l o p b k1 hp hw hpw hb hbl
                subst this
                exact k4 hl
            · rcases fG (gN sh st'.env st'.hp) q with ⟨m1,_⟩|⟨_,m1⟩
              · exact absurd m1 k5
              · rw [m1,g4.hps q (i2.ob q o k1).1 k4];exact k1)
          (by
            intro d hd hlt' hne
            rcases hd with hd|hd
            · rcases hdt' d (List.mem_append_left _ hd) with k|k|k
              · omega
              · exact List.mem_append_left _ k
              · refine List.mem_append_right _ ?_
                by_cases hm:d∈names (dJ sh st.env st.hp)
                · exact hm
                · rw [fP,eA.2 hm] at k;exact absurd k hne
            · rcases List.mem_append.1 hd with hd|hd
              · rcases hdt' d (List.mem_append_right _ hd) with k|k|k
                · omega
                · exact List.mem_append_left _ k
                · refine List.mem_append_right _ ?_
                  by_cases hm:d∈names (dJ sh st.env st.hp)
                  · exact hm
                  · rw [fP,eA.2 hm] at k;exact absurd k hne
              · exact hd) hs'
        have hP:Pn n a' w':=⟨s',ρ2,ok2,hz2,t1,t2,t3,T,t4⟩
        refine ⟨⟨n,hP⟩,?_⟩
        exact Nat.lt_succ_of_le (Fq hP)
  | .rangeFunc _ _ _ _,R,h,st,κ,r,hc,ρ,ok,w,a,hH,hE,hW,Q,hQ,hQp=>by simp only [evC] at hc;cases hc
  | .scope _,R,h,st,κ,r,hc,ρ,ok,w,a,hH,hE,hW,Q,hQ,hQp=>by simp only [evC] at hc;cases hc
  | .goto _,R,h,st,κ,r,hc,ρ,ok,w,a,hH,hE,hW,Q,hQ,hQp=>by simp only [evC] at hc;cases hc
  | .refuse _,R,h,st,κ,r,hc,ρ,ok,w,a,hH,hE,hW,Q,hQ,hQp=>by simp only [evC] at hc;cases hc
end
end Lv
end
section
namespace Lv
variable [eR]
open Go Go.RowKit
theorem pU (c:Cell) (r:List Cell):dc (c::r)=dc [c]++dc r:=by cases c<;>rfl
section
variable {ρ ρ':Nat→Value} {ok ok':Nat→Prop} {w w':World} {nx nx':Nat}
theorem cU.names:∀{c:Cell} {v:Value},cU ρ ok w nx c v→∀l∈dc [c],l<nx
 | .int _ _,_,_,l,hl=>by cases hl
 | .bool _,_,_,l,hl=>by cases hl
 | .str _,_,_,l,hl=>by cases hl
 | .val _,_,_,l,hl=>by cases hl
 | .sl _ _ _,_,_,l,hl=>by cases hl
 | .rdp _ _ _,_,_,l,hl=>by cases hl
 | .ref _,_,h,l,hl=>by cases List.mem_singleton.1 hl;exact h.1
 | .sub _ _ _ _,_,h,l,hl=>by cases List.mem_singleton.1 hl;exact h.1
 | .ptr _ _,_,h,l,hl=>by cases List.mem_singleton.1 hl;exact h.1
 | .ifc _,_,_,l,hl=>by cases hl
 | .np _,_,h,l,hl=>by cases List.mem_singleton.1 hl;exact h.1
 | .elp _ _ _ _,_,h,l,hl=>by cases List.mem_singleton.1 hl;exact h.1
theorem cU.moveM (hs:fc ok ok' w w'):∀{c:Cell} {v:Value},(∀l∈dc [c],ρ' l=ρ l∧l<nx')→cU ρ ok w nx c v→cU ρ' ok' w' nx' c v
 | .int _ _,_,_,h=>h
 | .bool _,_,_,h=>h
 | .str _,_,_,h=>h
 | .val _,_,_,h=>h
 | .sl _ _ _,v,_,h=>jd hs h
 | .ref l,_,hr,⟨_,e,o⟩=>⟨(hr l (by simp [dc])).2,e.trans (hr l (by simp [dc])).1.symm,o⟩
 | .sub l _ _ _,_,hr,⟨_,A,cap,e,hl,hx⟩=>⟨(hr l (by simp [dc])).2,A,cap,e,hl,hx.imp id fun ⟨b,L,C,h1,h2⟩=>⟨b,L,C,(hr l (by simp [dc])).1.trans h1,h2⟩⟩
 | .ptr l _,_,hr,⟨_,b,e,hv⟩=>⟨(hr l (by simp [dc])).2,b,(hr l (by simp [dc])).1.trans e,hv⟩
 | .ifc _,_,_,h=>h
 | .np l,_,hr,⟨_,g⟩=>⟨(hr l (by simp [dc])).2,g.imp (fun h=>h) fun ⟨b,e,hv⟩=>⟨b,(hr l (by simp [dc])).1.trans e,hv⟩⟩
 | .elp l _ _ _,_,hr,⟨_,b,L,C,e,hv⟩=>⟨(hr l (by simp [dc])).2,b,L,C,(hr l (by simp [dc])).1.trans e,hv⟩
 | .rdp _ _ _,_,_,⟨b,o,vs,e,hb,hk,hc⟩=>⟨b,o,vs,e,(hs b hb).1,jd hs hk,fun j u hj=>(hs.cell hb).trans (hc j u hj)⟩
theorem j7:∀{cs:List Cell} {vs:List Value},All2 (cU ρ ok w nx) cs vs→∀l∈dc cs,l<nx
 |_,_,.nil,l,hl=>by cases hl
 |c::r,_,.cons h t,l,hl=>by
  rw [pU] at hl
  rcases List.mem_append.1 hl with hl|hl
  ·exact h.names l hl
  ·exact j7 t l hl
theorem j8 (hs:fc ok ok' w w'):∀{cs:List Cell} {vs:List Value},(∀l∈dc cs,ρ' l=ρ l∧l<nx')→All2 (cU ρ ok w nx) cs vs→All2 (cU ρ' ok' w' nx') cs vs
 |_,_,_,.nil=> .nil
 |c::r,_,hr,.cons h t=>by
  rw [pU] at hr
  exact .cons (h.moveM hs fun l hl=>hr l (List.mem_append_left _ hl)) (j8 hs (fun l hl=>hr l (List.mem_append_right _ hl)) t)
theorem VR.names {g:Bool} {cs:List Cell} {v:Value} (h:VR ρ ok w nx g cs v):∀l∈dc cs,l<nx:=by
 cases g with
 |true=>obtain ⟨vs,_,h⟩:=h;exact j7 h
 |false=>obtain ⟨c,e,h⟩:=h;subst e;exact h.names
theorem VR.moveM (hs:fc ok ok' w w') {g:Bool} {cs:List Cell} {v:Value} (hr:∀l∈dc cs,ρ' l=ρ l∧l<nx') (h:VR ρ ok w nx g cs v):VR ρ' ok' w' nx' g cs v:=by
 cases g with
 |true=>obtain ⟨vs,e,h⟩:=h;exact ⟨vs,e,j8 hs hr h⟩
 |false=>obtain ⟨c,e,h⟩:=h;subst e;exact ⟨c,rfl,h.moveM hs hr⟩
theorem zD:∀{cs:List (Bool×List Cell)} {vs:List Value},All2 (fun (p:Bool×List Cell) u=>VR ρ ok w nx p.1 p.2 u) cs vs→∀l∈sF cs,l<nx
  |_,_,.nil,l,hl=>by cases hl
  |(g,c)::r,_,.cons h t,l,hl=>by
    rcases List.mem_append.1 hl with hl|hl
    · exact VR.names h l hl
    · exact zD t l hl
theorem zE (hs:fc ok ok' w w'):∀{cs:List (Bool×List Cell)} {vs:List Value},(∀l∈sF cs,ρ' l=ρ l∧l<nx')→All2 (fun (p:Bool×List Cell) u=>VR ρ ok w nx p.1 p.2 u) cs vs→
    All2 (fun (p:Bool×List Cell) u=>VR ρ' ok' w' nx' p.1 p.2 u) cs vs
  |_,_,_,.nil=> .nil
  |(g,c)::r,_,hr,.cons h t=>
    .cons (VR.moveM hs (fun l hl=>hr l (List.mem_append_left _ hl)) h) (zE hs (fun l hl=>hr l (List.mem_append_right _ hl)) t)
theorem fM.names:∀{s:dU} {v:Value},fM ρ ok w nx s v→∀l∈fg (some s),l<nx
 | .v _ _,_,h=>VR.names h
 | .tup _,_,⟨vs,_,h⟩=>zD h
theorem fM.moveM (hs:fc ok ok' w w'):∀{s:dU} {v:Value},(∀l∈fg (some s),ρ' l=ρ l∧l<nx')→fM ρ ok w nx s v→fM ρ' ok' w' nx' s v
 | .v _ _,_,hr,h=>VR.moveM hs hr h
 | .tup _,_,hr,⟨vs,e,h⟩=>⟨vs,e,zE hs hr h⟩
theorem ObR.names {l:Nat}:∀{o:Ob},ObR ρ ok w nx l o→∀m∈gU (some o),m<nx
 | .box _ _,⟨_,_,_,_,h⟩,m,hm=>j7 h m hm
 | .arr _ _ _,_,m,hm=>by cases hm
 | .frz _ _ _,_,m,hm=>by cases hm
 | .mp _ _ _,_,m,hm=>by cases hm
 | .clo _ _ _,⟨_,_,_,h,k⟩,m,hm=>by
  rcases List.mem_append.1 hm with hm|hm
  ·exact j7 h m hm
  ·exact j7 k m hm
theorem ObR.moveM (hs:fc ok ok' w w') {l:Nat} (hl:ρ' l=ρ l):∀{o:Ob},(∀m∈gU (some o),ρ' m=ρ m∧m<nx')→
 (o.own=true→∀b,blk (ρ l)=some b→w'.heap[b]?=w.heap[b]?)→ObR ρ ok w nx l o→ObR ρ' ok' w' nx' l o
 | .box e cs,hr,hb,⟨b,vs,h1,h2,h3⟩=>⟨b,vs,hl.trans h1,(hb rfl b (by rw [h1];rfl)).trans h2,j8 hs hr h3⟩
 | .arr e t xs,hr,hb,⟨cE,h1,h2⟩=>⟨cE,by rw [hl];exact nT h1 (hb rfl),h2.move hs⟩
 | .frz e t xs,hr,hb,h=>by show K ok' w' (.sl e t) xs [ρ' l];rw [hl];exact jd hs h
 | .mp g t kvs,hr,hb,⟨rr,es,clock,h1,h2,h3,h4⟩=>⟨rr,es,clock,hl.trans h1,(hb rfl rr (by rw [h1];rfl)).trans h2,h3.imp fun _ _=>uU.move hs,h4⟩
 | .clo f a b,hr,hb,⟨as,bs,h1,h2,h3⟩=>⟨as,bs,hl.trans h1,j8 hs (fun m hm=>hr m (List.mem_append_left _ hm)) h2,j8 hs (fun m hm=>hr m (List.mem_append_right _ hm)) h3⟩
end
section
variable {ρ:Nat→Value} {ok:Nat→Prop} {w:World} {hp hpL:cp} {nx nm nw:Nat} {up:Ups} {ρ':Nat→Value} {ok':Nat→Prop} {w':World}
def my (ρ ρ':Nat→Value) (nm nw:Nat):Nat→Value:=fun l=>if nm≤l∧l<nm+nw then ρ' l else ρ l
theorem li (hs:∀l o,hpL l=some o→hp l=some o) {q:Nat} {o:Ob} (h:ups hp up q=some o):ups hpL up q=some o∨(q∉names up∧hp q=some o∧hpL q=none):=by
 rw [fP] at h
 cases hl:je up q with
 |some x=>
  rw [hl] at h
  exact .inl (by rw [fP,hl];exact h)
 |none=>
  rw [hl] at h
  cases hq:hpL q with
  |none=>exact .inr ⟨eA.1 hl,h,rfl⟩
  |some p=>
   have:=hs q p hq
   have h:hp q=some o:=h
   rw [h] at this
   cases this
   exact .inl (by rw [fP,hl];exact hq)
theorem Fu (hH : dB ρ ok w hp nx) (hs : ∀ l o,hpL l = some o → hp l = some o) (hL : dB ρ ok w hpL nm) (E : Eff ρ ok w hpL nm up nw ρ' ok' w') (hnx : nm + nw ≤ nx)
    (hno:∀l o,hp l=some o→(l<nm∨nm+nw≤l)∧∀m∈gU (some o),m<nm∨nm+nw≤m):dB (my ρ ρ' nm nw) ok' w' (ups hp up) nx:=by
  obtain ⟨R,g⟩:=E
  have old:∀l,(l<nm∨nm+nw≤l)→my ρ ρ' nm nw l=ρ l:=fun l h=>by unfold my;rw [if_neg (by omega)]
  have new:∀l,l<nm+nw→my ρ ρ' nm nw l=ρ' l:=fun l h=>by
    unfold my
    by_cases hl:nm≤l
    · rw [if_pos ⟨hl,h⟩]
    · rw [if_neg (by omega)];exact (g.rho l (by omega)).symm
  have hS:=g.sameOk hL
  refine ⟨?_,R.okl,?_,?_,R.gl⟩
  · intro q o h
    rcases li hs h with h|⟨h1,h2,_⟩
    · obtain ⟨k1,k2⟩:=R.ob q o h
      exact ⟨by omega,k2.move (fc.refl _ _) new hnx (new q k1) fun _ _ _=>rfl⟩
    · obtain ⟨k1,k2⟩:=hH.ob q o h2
      obtain ⟨n1,n2⟩:=hno q o h2
      refine ⟨k1,k2.moveM hS (old q n1) (fun m hm=>⟨old m (n2 m hm),k2.names m hm⟩) fun hw b hb=>?_⟩
      refine g.same b (hH.lt h2 hw hb) fun l hl hlt p hp hpw hbl=>h1 ?_
      rwa [hH.dis q l o p b h2 (hs l p hp) hw hpw hb hbl]
  · intro q o b h hw hb hok
    rcases li hs h with h|⟨h1,h2,_⟩
    · rw [new q (R.ob q o h).1] at hb
      exact R.sep q o b h hw hb hok
    · rw [old q (hno q o h2).1] at hb
      rcases g.okn b hok with k|k|⟨m,hm,hlt,p,hp,hpw,hbl⟩
      · exact hH.sep q o b h2 hw hb k
      · have:=hH.lt h2 hw hb;omega
      · exact h1 (by rwa [hH.dis q m o p b h2 (hs m p hp) hw hpw hb hbl])
  · have mix:∀l m o p b,ups hpL up l=some o→m∉names up→hp m=some p→o.own=true→p.own=true→blk (ρ' l)=some b→blk (ρ m)=some b→l=m:=by
      intro l m o p b h1 h2 h3 ho hpw hb1 hb2
      by_cases hl:l<nm
      · obtain ⟨q,k1,k2⟩:=g.stay l hl o h1
        rw [g.rho l hl] at hb1
        exact hH.dis l m q p b (hs l q k1) h3 (k2 ho) hpw hb1 hb2
      · rcases g.nb l o b (by omega) h1 ho hb1 with k|⟨m',hm',hlt,q,hq,hqw,hbq⟩
        · have:=hH.lt h3 hpw hb2;omega
        · have:=hH.dis m' m q p b (hs m' q hq) h3 hqw hpw hbq hb2
          subst this
          exact absurd hm' h2
    intro q q' o o' b h h' hw hw' hb hb'
    rcases li hs h with h|⟨h1,h2,_⟩
    · rw [new q (R.ob q o h).1] at hb
      rcases li hs h' with h'|⟨h1',h2',_⟩
      · rw [new q' (R.ob q' o' h').1] at hb'
        exact R.dis q q' o o' b h h' hw hw' hb hb'
      · rw [old q' (hno q' o' h2').1] at hb'
        exact mix q q' o o' b h h1' h2' hw hw' hb hb'
    · rw [old q (hno q o h2).1] at hb
      rcases li hs h' with h'|⟨h1',h2',_⟩
      · rw [new q' (R.ob q' o' h').1] at hb'
        exact (mix q' q o' o b h' h1 h2 hw' hw hb' hb).symm
      · rw [old q' (hno q' o' h2').1] at hb'
        exact hH.dis q q' o o' b h2 h2' hw hw' hb hb'
theorem Fv {ρ0 : Nat → Value} {ok0 : Nat → Prop} {w0 : World} {hp0 : cp} {nx0 : Nat} {D : List Nat} (G : fd ρ0 ok0 w0 hp0 nx0 D ρ ok w hp nx) (hH : dB ρ ok w hp nx)
    (hs:∀l o,hpL l=some o→hp l=some o) (E:Eff ρ ok w hpL nm up nw ρ' ok' w') (h0:nx0≤nm) (hD:∀l∈names up,l∈D)
    (hno:∀l o,hp l=some o→l<nm∨nm+nw≤l):fd ρ0 ok0 w0 hp0 nx0 D (my ρ ρ' nm nw) ok' w' (ups hp up) nx:=by
  obtain ⟨R,g⟩:=E
  have old:∀l,(l<nm∨nm+nw≤l)→my ρ ρ' nm nw l=ρ l:=fun l h=>by unfold my;rw [if_neg (by omega)]
  have new:∀l,l<nm+nw→my ρ ρ' nm nw l=ρ' l:=fun l h=>by
    unfold my
    by_cases hl:nm≤l
    · rw [if_pos ⟨hl,h⟩]
    · rw [if_neg (by omega)];exact (g.rho l (by omega)).symm
  have mid:∀l o b,hp l=some o→o.own=true→blk (ρ l)=some b→(l<nx0∧∃p,hp0 l=some p∧p.own=true∧blk (ρ0 l)=some b)∨
      (nx0≤l∧(w0.heap.size≤b∨∃m∈D,m<nx0∧∃p,hp0 m=some p∧p.own=true∧blk (ρ0 m)=some b)):=by
    intro l o b ho hw hb
    by_cases hl:l<nx0
    · obtain ⟨p,hp',hpw⟩:=G.stay l hl o ho
      exact .inl ⟨hl,p,hp',hpw hw,by rw [←G.rho l hl];exact hb⟩
    · exact .inr ⟨by omega,G.nb l o b (by omega) ho hw hb⟩
  refine ⟨g.os.trans G.os,g.tape.trans G.tape,g.output.trans G.output,Nat.le_trans G.size g.size,G.nxl,?_,?_,fun b hb=>g.okm b (G.okm b hb),?_,?_,?_,?_⟩
  · intro b hb hne
    have e1:w.heap[b]?=w0.heap[b]?:=G.same b hb hne
    refine (g.same b (Nat.lt_of_lt_of_le hb G.size) ?_).trans e1
    intro l hl hlt o ho hw hbl
    rcases mid l o b (hs l o ho) hw hbl with ⟨h1,p,h2,h3,h4⟩|⟨h1,h2|⟨m,hm,h3,p,h4,h5,h6⟩⟩
    · exact hne l (hD l hl) h1 p h2 h3 h4
    · omega
    · exact hne m hm h3 p h4 h5 h6
  · intro l hl
    rw [old l (by omega)]
    exact G.rho l hl
  · intro b hb
    rcases g.okn b hb with h1|h1|⟨l,hl,hlt,o,ho,hw,hbl⟩
    · exact G.okn b h1
    · exact .inr (.inl (Nat.le_trans G.size h1))
    · rcases mid l o b (hs l o ho) hw hbl with ⟨h1,p,h2,h3,h4⟩|⟨h1,h2|⟨m,hm,h3,p,h4,h5,h6⟩⟩
      · exact .inr (.inr ⟨l,hD l hl,h1,p,h2,h3,h4⟩)
      · exact .inr (.inl h2)
      · exact .inr (.inr ⟨m,hm,h3,p,h4,h5,h6⟩)
  · intro l hl hn
    rw [fP,eA.2 fun h=>hn (hD l h)]
    exact G.hps l hl hn
  · intro l hl o ho
    rcases li hs ho with h|⟨_,h,_⟩
    · obtain ⟨p,h1,h2⟩:=g.stay l (by omega) o h
      obtain ⟨q,h3,h4⟩:=G.stay l hl p (hs l p h1)
      exact ⟨q,h3,fun hw=>h4 (h2 hw)⟩
    · exact G.stay l hl o h
  · intro l o b hl ho hw hb
    rcases li hs ho with h|⟨_,h,_⟩
    · rw [new l (R.ob l o h).1] at hb
      by_cases hl1:nm≤l
      · rcases g.nb l o b hl1 h hw hb with h1|⟨m,hm,h2,p,h3,h4,h5⟩
        · exact .inl (Nat.le_trans G.size h1)
        · rcases mid m p b (hs m p h3) h4 h5 with ⟨g1,q,g2,g3,g4⟩|⟨g1,g2⟩
          · exact .inr ⟨m,hD m hm,g1,q,g2,g3,g4⟩
          · exact g2
      · obtain ⟨p,h1,h2⟩:=g.stay l (by omega) o h
        rw [g.rho l (by omega)] at hb
        exact G.nb l p b hl (hs l p h1) (h2 hw) hb
    · rw [old l (hno l o h)] at hb
      exact G.nb l o b hl h hw hb
end
end Lv
end
section
namespace Lv
variable [eR]
open Go Go.RowKit
def Hd (P:Program) (o:Oper) (st:St) (s:Option dU) (t:Tr):Prop:=∀ρ ok w (a:Act),dB ρ ok w (jY t.looks st.hp) st.nx→dM ρ ok w st.nx (mq (iH o) st.env) a.tmps→(∀d∈fh o,d<a.tmps.size)→
 ∀Q:Exit→Act→World→Prop,o.wp P a w (fun a' w'=>∃v ρ' ok',a'=a.put o.dst v∧Eff ρ ok w (jY t.looks st.hp) st.nx t.up t.nw ρ' ok' w'∧∀x,s=some x→fM ρ' ok' w' (st.nx+t.nw) x v) Q
structure E where
 o:Oper
 yes:Bool
 s:Option dU
 t:Tr
def E.go (e:E) (st:St):St:=⟨ez st.env e.o.dst e.s,ups st.hp e.t.up,st.nx+e.t.nw,names e.t.up++st.dt⟩
def goAll (st:St):List E→St
 | []=>st
 |e::r=>goAll (e.go st) r
structure tu (P:Program) (ops:Array Oper) (st:St) (e:E):Prop where
 nm:e.t.nm=st.nx
 guard:match e.o.guard with
  |none=>e.yes=true
  |some (g,want)=>∃t,(ops[g]?).bind (·.dst)=some t∧((∃b,st.env t=some (.v false [.bool b])∧e.yes=(b==want))∨(st.env t=some (.tup [])∧e.yes=false))
 no:e.yes=false→e.s=some (.tup [])∧e.t.up=[]∧e.t.nw=0
 says:∀l,l∈fg e.s∨l∈kD e.t.up→l∈e.t.says
 looks:e.yes=true→(∀t∈iH e.o,∀l∈fg (st.env t),l∈e.t.looks)∧(∀l∈e.t.looks,l<st.nx)∧(∀l∈e.t.looks,∀m∈gU (st.hp l),m<st.nx)
 loc:e.yes=true→Hd P e.o st e.s e.t
theorem iY {nx:Nat}:∀{l:List Nat},iX nx l=true↔∀x∈l,x<nx
 | []=>by simp [iX]
 |x::r=>by
  simp only [iX,Bool.and_eq_true,iY (l:=r),List.mem_cons,forall_eq_or_imp]
  refine and_congr ?_ Iff.rfl
  exact ⟨fun h=>Nat.le_of_ble_eq_true h,fun h=>Nat.ble_eq_true_of_le h⟩
theorem pV:∀{l:List (Option dU)} {s:Option dU} {n:Nat},s∈l→n∈fg s→n∈lf l
 |s::r,t,n,h,hn=>by
  rcases List.mem_cons.1 h with rfl|h
  ·exact List.mem_append_left _ hn
  ·exact List.mem_append_right _ (pV h hn)
theorem Dh {o:Oper} {t:Nat}:t∈iH o↔Operand.tmp t∈o.op.operands.toList:=by
 unfold iH
 rw [List.mem_filterMap]
 constructor
 ·rintro ⟨x,hx,h⟩
  cases x<;>simp at h
  subst h;exact hx
 ·intro h
  exact ⟨_,h,rfl⟩
theorem He {st:St} {o:Oper} {l:Nat} (h:l∈lf (Al (mq (iH o) st.env) o)):l∈kh st o:=by
 unfold kh
 split<;>first|exact h|exact List.mem_append_left _ h
theorem Fw {st:St} {o:Oper} (h:lkOk st (kh st o)=true):
 (∀t∈iH o,∀l∈fg (st.env t),l∈kh st o)∧(∀l∈kh st o,l<st.nx)∧(∀l∈kh st o,∀m∈gU (st.hp l),m<st.nx):=by
 obtain ⟨h1,h2⟩:=Bool.and_eq_true_iff.1 h
 refine ⟨fun t ht l hl=>?_,iY.1 h1,fun l hl m hm=>iY.1 h2 m (List.mem_flatMap.2 ⟨l,hl,hm⟩)⟩
 refine He (pV (s:=st.env t) (List.mem_map.2 ⟨.tmp t,Dh.1 ht,?_⟩) hl)
 show mq (iH o) st.env t=_
 unfold mq
 rw [if_pos (gV.2 ht)]
theorem zF (l:List Nat) (hp:cp):∀n o,jY l hp n=some o→hp n=some o:=fun n o h=>by
 unfold jY at h
 split at h
 ·exact h
 ·cases h
theorem tv {l:List Nat} {hp:cp} {n:Nat} {o:Ob} (h:jY l hp n=some o):n∈l:=by
 unfold jY at h
 split at h
 ·rename_i hm;exact gV.1 hm
 ·cases h
section
variable {P:Program} {cx:Cx} {R:Type}
theorem Fx (hcx:bM P cx) {o:Oper} {st:St} {κ:St→Tr→Option R} {r:R} (h:zk cx o st κ=some r):
 ∃s t,κ ⟨ez st.env o.dst s,ups st.hp t.up,st.nx+t.nw,names t.up++st.dt⟩ t=some r∧t.nm=st.nx∧(∀l,l∈fg s∨l∈kD t.up→l∈t.says)∧t.looks=kh st o∧lkOk st (kh st o)=true∧Hd P o st s t:=by
 unfold zk at h
 split at h<;>try (cases h;done)
 rename_i hlk
 have plain:(match fa cx st.nx o.op (opd (mq (iH o) st.env)) (jY (kh st o) st.hp) with
  |some r=>bif r.c then κ ⟨ez st.env o.dst r.s,ups st.hp r.up,st.nx+r.nw,names r.up++st.dt⟩
   ⟨r.up,kh st o,fg r.s++kD r.up,st.nx,r.nw⟩ else none
  |none=>none)=some r→∃s t,κ ⟨ez st.env o.dst s,ups st.hp t.up,st.nx+t.nw,names t.up++st.dt⟩ t=some r∧t.nm=st.nx∧(∀l,l∈fg s∨l∈kD t.up→l∈t.says)∧t.looks=kh st o∧lkOk st (kh st o)=true∧Hd P o st s t:=by
  intro h
  split at h<;>try (cases h;done)
  rename_i res hres
  cases hc:res.c with
  |false=>rw [hc] at h;cases h
  |true=>
   rw [hc] at h
   refine ⟨res.s,⟨res.up,kh st o,fg res.s++kD res.up,st.nx,res.nw⟩,h,rfl,fun l hl=>List.mem_append.2 hl,rfl,hlk,?_⟩
   intro ρ ok w a hH hE hd Q
   have hN:Now P ρ ok w ⟨mq (iH o) st.env,jY (kh st o) st.hp,st.nx,[]⟩ a (jY (kh st o) st.hp):=⟨hH,hE,fun _ _ h=>h⟩
   obtain ⟨n,w',ρ',ok',h1,h2,h3⟩:=Er cx hcx.tab hcx.eqs hN hres hc
   unfold Oper.wp
   rw [h1]
   rcases h3 with ⟨v,rfl,hs⟩|⟨rfl,hs⟩
   ·exact ⟨v,ρ',ok',rfl,h2,hs⟩
   ·exact ⟨undef,ρ',ok',rfl,h2,fun x hx=>by rw [hs] at hx;cases hx⟩
 split at h
 ·rename_i f args ts ho
  split at h<;>try (cases h;done)
  rename_i g as hg
  split at h<;>try (cases h;done)
  rename_i sp hsp
  obtain ⟨hent,hspec⟩:=hcx.spec g _ _ sp hsp
  split at h<;>try (cases h;done)
  rename_i cr hcr
  unfold Ak at hcr
  split at hcr<;>try (cases hcr;done)
  rename_i hn
  split at hcr<;>try (cases hcr;done)
  rename_i hchk
  simp only [Bool.and_eq_true] at hchk
  obtain ⟨c1,c2,c3,c4⟩:=hchk
  split at hcr<;>try (cases hcr;done)
  rename_i x hx
  cases hcr
  obtain ⟨y,hy,hκ⟩:=Option.bind_eq_some_iff.1 h
  refine ⟨_,⟨_,kh st o,_,st.nx,_⟩,hκ,rfl,fun l hl=>List.mem_append.2 hl,rfl,hlk,?_⟩
  intro ρ ok w a hH hE hd Q
  have hN:Now P ρ ok w ⟨mq (iH o) st.env,jY (kh st o) st.hp,st.nx,[]⟩ a (jY (kh st o) st.hp):=⟨hH,hE,fun _ _ h=>h⟩
  obtain ⟨vals,hsz,hv,hrun⟩:=zA hN ho hg
  obtain ⟨ρi,oki,i1,i2,i3⟩:=sL hH (fun _ _ h=>h) hv c1 (Nat.le_of_ble_eq_true c2) c3 c4 hx
  unfold Oper.wp
  rw [hrun hent]
  rw [Oper.upon_enter]
  refine (hspec x y hy ρi oki w vals (by rw [hsz];exact Nat.eq_of_beq_eq_true hn) i1 i2).mono ?_
  rintro e w' ⟨v,ρ',ok',rfl,e1,e2,e3⟩
  obtain ⟨ρ2,e4,e5⟩:=i3 y v w' ρ' ok' e1 e2 e3
  exact ⟨v,ρ2,ok',rfl,e4,e5⟩
 ·exact plain h
theorem B0 {env:Env} {t:Nat} {s:Option dU} (h:env t=s):Lv.put env t s=env:=by
 funext i
 simp only [Lv.put]
 split
 ·rename_i hi;rw [Nat.eq_of_beq_eq_true hi,h]
 ·rfl
theorem w7 (hcx : bM P cx) (ops : Array Oper) : ∀ (l : List Oper) (st : St) (tr : List Tr) (κ : St → List Tr → Option R) (r : R),ic cx ops l st tr κ = some r →
    ∃es:List E,es.map (·.o)=l∧κ (goAll st es) (tr++es.map (·.t))=some r∧∀i e,es[i]?=some e→tu P ops (goAll st (es.take i)) e
  | [],st,tr,κ,r,h=>⟨[],rfl,by simpa [ic,goAll] using h,fun i e he=>by simp at he⟩
  | o :: l,st,tr,κ,r,h => by
    have add:∀(e:E),e.o=o→tu P ops st e→ic cx ops l (e.go st) (tr++ [e.t]) κ=some r→
        ∃es:List E,es.map (·.o)=o::l∧κ (goAll st es) (tr++es.map (·.t))=some r∧∀i e,es[i]?=some e→tu P ops (goAll st (es.take i)) e:=by
      intro e he hc h
      obtain ⟨es,h1,h2,h3⟩:=w7 hcx ops l (e.go st) (tr++ [e.t]) κ r h
      refine ⟨e::es,by simp [he,h1],by simpa [goAll] using h2,fun i x hx=>?_⟩
      cases i with
      |zero=>simp at hx;subst hx;exact hc
      |succ i=>exact h3 i x (by simpa using hx)
    have doIt:zk cx o st (fun st t=>ic cx ops l st (tr++ [t]) κ)=some r→
        (match o.guard with
          |none=>True
          |some (g,want)=>∃t,(ops[g]?).bind (·.dst)=some t∧((∃b,st.env t=some (.v false [.bool b])∧true=(b==want))∨(st.env t=some (.tup [])∧true=false)))→
        ∃es:List E,es.map (·.o)=o::l∧κ (goAll st es) (tr++es.map (·.t))=some r∧∀i e,es[i]?=some e→tu P ops (goAll st (es.take i)) e:=by
      intro hs hg
      obtain ⟨s,t,h1,h2,h3,h4,h5,h6⟩:=Fx hcx hs
      refine add ⟨o,true,s,t⟩ rfl ⟨h2,?_,(fun h=>by cases h),h3,(fun _=>?_),fun _=>h6⟩ h1
      · simp only
        revert hg
        cases o.guard with
        |none=>exact fun _=>trivial
        |some p=>exact id
      · simp only [h4];exact Fw h5
    have skipIt:ic cx ops l ⟨ez st.env o.dst (some (.tup [])),st.hp,st.nx,st.dt⟩ (tr++ [⟨[],[],[],st.nx,0⟩]) κ=some r→
        (∃g want,o.guard=some (g,want)∧∃t,(ops[g]?).bind (·.dst)=some t∧((∃b,st.env t=some (.v false [.bool b])∧false=(b==want))∨(st.env t=some (.tup [])∧false=false)))→
        ∃es:List E,es.map (·.o)=o::l∧κ (goAll st es) (tr++es.map (·.t))=some r∧∀i e,es[i]?=some e→tu P ops (goAll st (es.take i)) e:=by
      rintro hs ⟨g,want,hg,ht⟩
      refine add ⟨o,false,some (.tup []),⟨[],[],[],st.nx,0⟩⟩ rfl ⟨rfl,?_,(fun _=>⟨rfl,rfl,rfl⟩),?_,(fun h=>by cases h),(fun h=>by cases h)⟩ hs
      · simp only [hg];simpa using ht
      · rintro l (hl|hl)<;>cases hl
    simp only [ic] at h
    split at h
    · rename_i hg
      exact doIt h (by rw [hg];trivial)
    · rename_i g want hg
      split at h<;>try (cases h;done)
      rename_i t ht
      split at h
      case h_2=>
        split at h<;>try (cases h;done)
        rename_i hu
        exact skipIt h ⟨g,want,hg,t,ht,.inr ⟨hu,rfl⟩⟩
      rename_i b hb
      have hb:=mr hb
      cases b with
      |true=>
        rw [B0 hb] at h
        simp only [cond_true] at h
        cases want with
        |true=>exact doIt h (by rw [hg];exact ⟨t,ht,.inl ⟨true,hb,rfl⟩⟩)
        |false=>exact skipIt h ⟨g,false,hg,t,ht,.inl ⟨true,hb,rfl⟩⟩
      |false=>
        rw [B0 hb] at h
        simp only [cond_false] at h
        cases want with
        |false=>exact doIt h (by rw [hg];exact ⟨t,ht,.inl ⟨false,hb,rfl⟩⟩)
        |true=>exact skipIt h ⟨g,true,hg,t,ht,.inl ⟨false,hb,rfl⟩⟩
end
section
variable {α:Type} {n:Nat} {val:Nat→Nat→α} {wr:Nat→Nat→Option α} {rd:Nat→Nat→Prop} {ord:Nat→Nat→Prop}
structure oO (n:Nat) (val:Nat→Nat→α) (wr:Nat→Nat→Option α) (rd:Nat→Nat→Prop) (ord:Nat→Nat→Prop):Prop where
 step:∀i,i<n→∀k,val (i+1) k=(wr i k).getD (val i k)
 free:∀i j,i<j→j<n→¬ord i j→∀k,(wr i k≠none→¬rd j k∧wr j k=none)∧(wr j k≠none→¬rd i k)
def Di (n:Nat) (val:Nat→Nat→α) (wr:Nat→Nat→Option α) (rd:Nat→Nat→Prop) (ls:Nat→Prop) (cur:Nat→α):Prop:=
 ∀k,(k=n∨(k<n∧¬ls k))→∀key,(k=n∨rd k key)→(∀j,j<k→¬ls j→wr j key=none)→cur key=val k key
theorem oO.keep (h:oO n val wr rd ord) {i k:Nat} (hik:i≤k) (hk:k≤n) {key:Nat} (hn:∀j,i≤j→j<k→wr j key=none):val k key=val i key:=by
 induction k with
 |zero=>cases Nat.le_zero.1 hik;rfl
 |succ k ih=>
  by_cases hk':i=k+1
  ·subst hk';rfl
  ·rw [h.step k (by omega),hn k (by omega) (by omega),Option.getD_none]
   exact ih (by omega) (by omega) fun j h1 h2=>hn j h1 (by omega)
theorem oO.start (h:oO n val wr rd ord):Di n val wr rd (fun _=>False) (val 0):=fun k hk key _ hn=>
 (h.keep (Nat.zero_le k) (by omega) fun j _ hj=>hn j hj id).symm
theorem oO.reads (h:oO n val wr rd ord) {ls:Nat→Prop} {cur:Nat→α} (hs:Di n val wr rd ls cur) {i:Nat} (hi:i<n) (hn:¬ls i) (hr:∀j,ord j i→ls j) {key:Nat} (hk:rd i key):cur key=val i key:=by
 refine hs i (.inr ⟨hi,hn⟩) key (.inr hk) fun j hj hjn=>?_
 cases hw:wr j key with
 |none=>rfl
 |some x=>exact absurd hk ((h.free j i hj hi fun ho=>hjn (hr j ho)) key|>.1 (by rw [hw];simp)).1
theorem oO.next (h : oO n val wr rd ord) {ls : Nat → Prop} {cur : Nat → α} (hs : Di n val wr rd ls cur) {i : Nat} (hi : i < n) (hn : ¬ ls i) (hr : ∀ j,ord j i → ls j) (hdown : ∀ j,j < n → ls j → ∀ m,ord m j → ls m)
    {cur':Nat→α} (hc:∀key,cur' key=(wr i key).getD (cur key)):Di n val wr rd (fun j=>ls j∨j=i) cur':=by
  intro k hk key hkr hnw
  have hk2:k=n∨(k<n∧¬ls k):=hk.imp id fun ⟨a,b⟩=>⟨a,fun hl=>b (.inl hl)⟩
  rw [hc]
  cases hw:wr i key with
  |none=>
    rw [Option.getD_none]
    refine hs k hk2 key hkr fun j hj hjn=>?_
    by_cases hji:j=i
    · subst hji;exact hw
    · exact hnw j hj fun hx=>hx.elim hjn hji
  |some v=>
    rw [Option.getD_some]
    have hik:i<k:=by
      rcases hk with rfl|⟨hk1,hk2⟩
      · exact hi
      · rcases hkr with rfl|hkr
        · exact hi
        · rcases Nat.lt_trichotomy i k with hlt|heq|hgt
          · exact hlt
          · exact absurd (.inr heq.symm) hk2
          · exact absurd hkr ((h.free k i hgt hi fun ho=>hk2 (.inl (hr k ho))) key|>.2 (by rw [hw];simp))
    have hkn:k≤n:=by omega
    rw [h.keep (i:=i+1) hik hkn fun j hj1 hj2=>?_,h.step i hi,hw,Option.getD_some]
    by_cases hjl:ls j
    · exact ((h.free i j hj1 (by omega) fun ho=>hn (hdown j (by omega) hjl i ho)) key|>.1 (by rw [hw];simp)).2
    · exact hnw j hj2 fun hx=>hx.elim hjl (by omega)
theorem oO.last (h:oO n val wr rd ord) {ls:Nat→Prop} {cur:Nat→α} (hs:Di n val wr rd ls cur) (hall:∀i,i<n→ls i) (key:Nat):cur key=val n key:=
 hs n (.inl rfl) key (.inl rfl) fun j hj hn=>absurd (hall j hj) hn
end
end Lv
end
section
namespace Lv
variable [eR]
open Go Go.RowKit
theorem ru {acc : List Nat} {i : Nat} : ∀ {es : List Edge},(nS acc es).testBit i = true → ∃ e ∈ es,Region.binds .any e = true ∧ (e.on = i ∨ (acc.getD e.on 0).testBit i = true)
  | [],h=>by simp [nS] at h
  | e :: r,h => by
    simp only [nS] at h
    cases hb:Region.binds .any e with
    |false=>
      rw [hb] at h
      obtain ⟨e',h1,h2⟩:=ru (es:=r) h
      exact ⟨e',List.mem_cons_of_mem _ h1,h2⟩
    |true=>
      rw [hb] at h
      have h:((2^e.on|||acc.getD e.on 0)|||nS acc r).testBit i=true:=h
      rw [Nat.testBit_or,Nat.testBit_or,Nat.testBit_two_pow] at h
      simp only [Bool.or_eq_true,decide_eq_true_eq] at h
      rcases h with (h|h)|h
      · exact ⟨e,List.mem_cons_self,hb,.inl h⟩
      · exact ⟨e,List.mem_cons_self,hb,.inr h⟩
      · obtain ⟨e',h1,h2⟩:=ru (es:=r) h
        exact ⟨e',List.mem_cons_of_mem _ h1,h2⟩
theorem tx {α:Type} (n:Nat) (k:Nat→α):GO n k=k n:=by cases n<;>rfl
theorem tz:∀(l:List Oper) (acc:List Nat) (j:Nat),j<acc.length→(pH l acc).getD j 0=acc.getD j 0
 | [],acc,j,h=>rfl
 |o::r,acc,j,h=>by
  rw [pH,tx,tz r _ j (by simp;omega)]
  simp [List.getElem?_append_left h]
theorem B1:∀(l:List Oper) (acc:List Nat) (k:Nat) (o:Oper),l[k]?=some o→∃acc':List Nat,(∀m,m<acc.length+k→acc'.getD m 0=(pH l acc).getD m 0)∧(∀m,acc.length+k≤m→acc'.getD m 0=0)∧
    (pH l acc).getD (acc.length+k) 0=nS acc' o.after.toList
  | [],_,k,o,h=>by simp at h
  | p :: r,acc,0,o,h => by
    simp at h;subst h
    refine ⟨acc,fun m hm=>?_,fun m hm=>?_,?_⟩
    · exact (tz (p::r) acc m (by omega)).symm
    · simp only [List.getD_eq_getElem?_getD]
      rw [List.getElem?_eq_none (by omega)];rfl
    · rw [pH,tx,tz r _ _ (by simp)]
      simp
  |p::r,acc,k+1,o,h=>by
    rw [pH,tx]
    obtain ⟨acc',h1,h2,h3⟩:=B1 r (acc++ [nS acc p.after.toList]) k o (by simpa using h)
    simp only [List.length_append,List.length_singleton] at h1 h2 h3
    exact ⟨acc',fun m hm=>h1 m (by omega),fun m hm=>h2 m (by omega),by rw [←h3];congr 1;omega⟩
theorem Ev {ops:Array Oper} {i j:Nat} {o:Oper} (ho:ops[j]?=some o) (h:((pH ops.toList []).getD j 0).testBit i=true):
 ∃e∈o.after,Region.binds .any e=true∧(e.on=i∨(e.on<j∧((pH ops.toList []).getD e.on 0).testBit i=true)):=by
 obtain ⟨acc,h1,h2,h3⟩:=B1 ops.toList [] j o (by simpa using ho)
 simp only [List.length_nil,Nat.zero_add] at h1 h2 h3
 rw [h3] at h
 obtain ⟨e,g1,g2,g3⟩:=ru h
 refine ⟨e,by simpa using g1,g2,g3.imp id fun g=>?_⟩
 by_cases hlt:e.on<j
 ·exact ⟨hlt,by rw [←h1 e.on hlt];exact g⟩
 ·rw [h2 e.on (by omega)] at g;simp at g
theorem pW:∀{l:List Oper} {i:Nat},tg i l=true→∀(k:Nat) (o:Oper),l[k]?=some o→∀e∈o.after,Region.binds .any e=true→e.on<i+k
  | [],i,_,k,o,h,_,_,_=>by simp at h
  | p :: r,i,hb,k,o,h,e,he,hbd => by
    obtain ⟨h1,h2⟩:=Bool.and_eq_true_iff.1 hb
    cases k with
    |zero=>
      simp at h;subst h
      have:=List.all_eq_true.1 h1 e (by simpa using he)
      rw [hbd] at this
      simpa [Nat.blt_eq] using this
    |succ k=>
      have:=pW h2 k o (by simpa using h) e he hbd
      omega
theorem w8 {ops:Array Oper} {bs:List Nat} {i:Nat} {o:Oper} {t:Tr}:∀{l:List (Oper×Tr)} {j:Nat},GP ops bs i o t j l=true→∀(k:Nat) (p:Oper) (u:Tr),l[k]?=some (p,u)→
    (bs.getD (j+k) 0).testBit i=true∨wC ops o p t u=true
  | [],j,_,k,p,u,h=>by simp at h
  |(q,v)::r,j,hb,k,p,u,h=>by
    obtain ⟨h1,h2⟩:=Bool.and_eq_true_iff.1 hb
    cases k with
    |zero=>simp at h;obtain ⟨rfl,rfl⟩:=h;exact Bool.or_eq_true_iff.1 h1
    |succ k=>
      have:=w8 h2 k p u (by simpa using h)
      rwa [show j+1+k=j+(k+1) by omega] at this
theorem sM {ops:Array Oper} {bs:List Nat}:∀{l:List (Oper×Tr)} {i0:Nat},Am ops bs i0 l=true→∀(i j:Nat) (o p:Oper) (t u:Tr),i<j→l[i]?=some (o,t)→l[j]?=some (p,u)→
    (bs.getD (i0+j) 0).testBit (i0+i)=true∨wC ops o p t u=true
  | [],i0,_,i,j,o,p,t,u,_,h,_=>by simp at h
  |(q,v)::r,i0,hb,i,j,o,p,t,u,hij,h,k=>by
    obtain ⟨h1,h2⟩:=Bool.and_eq_true_iff.1 hb
    obtain ⟨j,rfl⟩:∃j',j=j'+1:=⟨j-1,by omega⟩
    have k:r[j]?=some (p,u):=by simpa using k
    cases i with
    |zero=>
      simp at h;obtain ⟨rfl,rfl⟩:=h
      have:=w8 h1 j p u k
      rwa [show i0+1+j=i0+(j+1) by omega] at this
    |succ i=>
      have:=sM h2 i j o p t u (by omega) (by simpa using h) k
      rwa [show i0+1+j=i0+(j+1) by omega,show i0+1+i=i0+(i+1) by omega] at this
theorem w9 (st:St):∀(l:List E) (e:E),goAll st (l++ [e])=e.go (goAll st l)
 | [],e=>rfl
 |a::r,e=>w9 (a.go st) r e
theorem rx {st:St} {es:List E} {i:Nat} {e:E} (h:es[i]?=some e):goAll st (es.take (i+1))=e.go (goAll st (es.take i)):=by
 rw [←w9]
 congr 1
 rw [List.take_add_one,h]
 rfl
theorem B2 (st:St):∀(es:List E),∃D,(goAll st es).dt=D++st.dt∧∀e∈es,∀l∈names e.t.up,l∈D
 | []=>⟨[],rfl,fun e he=>by cases he⟩
 |e::r=>by
  obtain ⟨D,h1,h2⟩:=B2 (e.go st) r
  refine ⟨D++names e.t.up,by rw [goAll,h1];simp [E.go],fun x hx l hl=>?_⟩
  rcases List.mem_cons.1 hx with rfl|hx
  ·exact List.mem_append_right _ hl
  ·exact List.mem_append_left _ (h2 x hx l hl)
theorem uK:∀{u:Ups} {l:Nat} {o:Option Ob} {m:Nat},(l,o)∈u→m∈gU o→m∈kD u
  |(a,b)::r,l,o,m,h,hm=>by
    rcases List.mem_cons.1 h with h|h
    · cases h;exact List.mem_append_left _ hm
    · exact List.mem_append_right _ (uK h hm)
theorem dB.heap {ρ:Nat→Value} {ok:Nat→Prop} {w w':World} {hp:cp} {nx:Nat} (h:dB ρ ok w hp nx) (e:w'.heap=w.heap):dB ρ ok w' hp nx:=
 have hS:fc ok ok w w':=fun b hb=>⟨hb,by rw [e]⟩
 ⟨fun l o ho=>⟨(h.ob l o ho).1,(h.ob l o ho).2.move hS (fun _ _=>rfl) (Nat.le_refl _) rfl fun _ _ _=>by rw [e]⟩,fun b hb=>by rw [e];exact h.okl b hb,h.sep,h.dis,h.gl.move hS⟩
theorem dM.heap {ρ:Nat→Value} {ok:Nat→Prop} {w w':World} {env:Env} {tmps:Array Value} {nx:Nat} (h:dM ρ ok w nx env tmps) (e:w'.heap=w.heap):dM ρ ok w' nx env tmps:=
 fun t s hs=>let ⟨v,h1,h2⟩:=h t s hs
 ⟨v,h1,h2.move (fun b hb=>⟨hb,by rw [e]⟩) (fun _ _=>rfl) (Nat.le_refl _)⟩
theorem zG:∀(l:List Bool) (i:Nat),l[i]?=some false→(l.set i true).countP (! ·)+1=l.countP (! ·)
 | [],i,h=>by simp at h
 |b::r,0,h=>by simp at h;subst h;simp
 |b::r,i+1,h=>by
  have:=zG r i (by simpa using h)
  simp only [List.set_cons_succ,List.countP_cons]
  omega
theorem xa:∀(l:List Bool),l.countP (! ·)=0→∀i,i<l.length→l[i]?=some true
  | [],_,i,h=>by simp at h
  | b :: r,h,i,hi => by
    simp only [List.countP_cons] at h
    cases b with
    |false=>simp at h
    |true=>
      cases i with
      |zero=>rfl
      |succ i=>simpa using xa r (by simpa using h) i (by simpa using hi)
theorem B3 (l:Array Bool):(∀i,i<l.size→l.getD i false=true)∨∃i,i<l.size∧l.getD i false=false∧∀j,j<i→l.getD j false=true:=by
 by_cases h:∃i,i<l.size∧l.getD i false=false
 ·obtain ⟨i,⟨h1,h2⟩,h3⟩:=pS h
  refine .inr ⟨i,h1,h2,fun j hj=>?_⟩
  cases hl:l.getD j false with
  |true=>rfl
  |false=>have:=h3 j ⟨by omega,hl⟩;omega
 ·refine .inl fun i hi=>?_
  cases hl:l.getD i false with
  |true=>rfl
  |false=>exact absurd ⟨i,hi,hl⟩ h
end Lv
end
section
namespace Lv
variable [eR]
open Go Go.RowKit
section
variable (P:Program) (ops:Array Oper) (es:List E) (st:St)
def vE (i t:Nat):Option dU:=(goAll st (es.take i)).env t
def wE (i t:Nat):Option (Option dU):=match es[i]? with|some e=>if e.o.dst=some t then some e.s else none|none=>none
def rE (i t:Nat):Prop:=∃e,es[i]?=some e∧t∈rk ops e.o
def vH (i l:Nat):Option Ob:=(goAll st (es.take i)).hp l
def wH (i l:Nat):Option (Option Ob):=match es[i]? with|some e=>je e.t.up l|none=>none
def rH (i l:Nat):Prop:=∃e,es[i]?=some e∧l∈e.t.looks
def nmAt (i:Nat):Nat:=(goAll st (es.take i)).nx
def Hf (i j:Nat):Prop:=((pH ops.toList []).getD j 0).testBit i=true
structure Ok:Prop where
 all:es.map (·.o)=ops.toList
 cond:∀i e,es[i]?=some e→tu P ops (goAll st (es.take i)) e
 back:∀(k:Nat) (o:Oper),ops[k]?=some o→∀e∈o.after,Region.binds .any e=true→e.on<k
 free:∀i j a b,i<j→es[i]?=some a→es[j]?=some b→¬Hf ops i j→wC ops a.o b.o a.t b.t=true
end
section
variable {P:Program} {ops:Array Oper} {es:List E} {st:St}
theorem tA (env:Env) (d:Option Nat) (s:Option dU) (t:Nat):ez env d s t=(if d=some t then some s else none).getD (env t):=by
 cases d with
 |none=>rfl
 |some u=>
  simp only [ez,Lv.put]
  by_cases h:u=t
  ·subst h;simp
  ·rw [if_neg fun e=>h (Nat.eq_of_beq_eq_true e).symm,if_neg (by simpa using h)];rfl
theorem Ok.canonE (K:Ok P ops es st):oO es.length (vE es st) (wE es) (rE ops es) (Hf ops):=by
 refine ⟨fun i hi k=>?_,fun i j hij hj hn k=>?_⟩
 ·have he:es[i]?=some es[i]:=List.getElem?_eq_getElem hi
  simp only [vE,wE,he,rx he,E.go]
  exact tA _ _ _ _
 ·have h1:es[i]?=some es[i]:=List.getElem?_eq_getElem (by omega)
  have h2:es[j]?=some es[j]:=List.getElem?_eq_getElem hj
  have hf:=K.free i j _ _ hij h1 h2 hn
  simp only [wC,Bool.and_eq_true,io] at hf
  obtain ⟨⟨⟨⟨⟨⟨⟨⟨⟨f1,f2⟩,f3⟩,f4⟩,f5⟩,f6⟩,f7⟩,f8⟩,f9⟩,f10⟩:=hf
  have dst:∀i (hi:i<es.length),wE es i k≠none→k∈fh es[i].o:=fun i hi h=>by
   have he:es[i]?=some es[i]:=List.getElem?_eq_getElem hi
   simp only [wE,he] at h
   split at h
   ·rename_i hd;simp [fh,hd]
   ·exact absurd rfl h
  refine ⟨fun h=>⟨?_,?_⟩,fun h=>?_⟩
  ·rintro ⟨e,he,ht⟩
   rw [h2] at he;cases he
   exact f1 k (dst i (by omega) h) ht
  ·cases hw:wE es j k with
   |none=>rfl
   |some x=>exact absurd (dst j hj (by rw [hw];simp)) (f3 k (dst i (by omega) h))
  ·rintro ⟨e,he,ht⟩
   rw [h1] at he;cases he
   exact f2 k (dst j hj h) ht
theorem Ok.canonH (K:Ok P ops es st):oO es.length (vH es st) (wH es) (rH es) (Hf ops):=by
 refine ⟨fun i hi k=>?_,fun i j hij hj hn k=>?_⟩
 ·have he:es[i]?=some es[i]:=List.getElem?_eq_getElem hi
  simp only [vH,wH,he,rx he,E.go,fP]
  cases je es[i].t.up k<;>rfl
 ·have h1:es[i]?=some es[i]:=List.getElem?_eq_getElem (by omega)
  have h2:es[j]?=some es[j]:=List.getElem?_eq_getElem hj
  have hf:=K.free i j _ _ hij h1 h2 hn
  simp only [wC,Bool.and_eq_true,io] at hf
  obtain ⟨⟨⟨⟨⟨⟨⟨⟨⟨f1,f2⟩,f3⟩,f4⟩,f5⟩,f6⟩,f7⟩,f8⟩,f9⟩,f10⟩:=hf
  have dst:∀i (hi:i<es.length),wH es i k≠none→k∈names es[i].t.up:=fun i hi h=>by
   have he:es[i]?=some es[i]:=List.getElem?_eq_getElem hi
   simp only [wH,he] at h
   cases hl:je es[i].t.up k with
   |none=>exact absurd hl h
   |some x=>exact List.mem_map.2 ⟨_,kJ hl,rfl⟩
  refine ⟨fun h=>⟨?_,?_⟩,fun h=>?_⟩
  ·rintro ⟨e,he,ht⟩
   rw [h2] at he;cases he
   exact f5 k (dst i (by omega) h) ht
  ·cases hw:wH es j k with
   |none=>rfl
   |some x=>exact absurd (dst j hj (by rw [hw];simp)) (f4 k (dst i (by omega) h))
  ·rintro ⟨e,he,ht⟩
   rw [h1] at he;cases he
   exact f6 k (dst j hj h) ht
theorem ql {i:Nat} {e:E} (h:es[i]?=some e):nmAt es st (i+1)=nmAt es st i+e.t.nw:=by
 simp only [nmAt,rx h,E.go]
theorem qm : ∀ {i j : Nat},i ≤ j → nmAt es st i ≤ nmAt es st j
  |i,0,h=>by cases Nat.le_zero.1 h;exact Nat.le_refl _
  | i,j + 1,h => by
    by_cases e:i=j+1
    · subst e;exact Nat.le_refl _
    · refine Nat.le_trans (qm (i:=i) (j:=j) (by omega)) ?_
      cases hj:es[j]? with
      |some x=>rw [ql hj];omega
      |none=>
        have:=List.getElem?_eq_none_iff.1 hj
        simp only [nmAt]
        rw [List.take_of_length_le (by omega),List.take_of_length_le (by omega)]
        exact Nat.le_refl _
theorem Ew : ∀ {i : Nat} {m : Nat},m < nmAt es st i → m < st.nx ∨ ∃ j e,j < i ∧ es[j]? = some e ∧ nmAt es st j ≤ m ∧ m < nmAt es st j + e.t.nw
  |0,m,h=>by simp [nmAt,goAll] at h;exact .inl h
  | i + 1,m,h => by
    by_cases hm:m<nmAt es st i
    · rcases Ew hm with h|⟨j,e,h1,h2⟩
      · exact .inl h
      · exact .inr ⟨j,e,by omega,h2⟩
    · cases hi:es[i]? with
      |some e=>
        rw [ql hi] at h
        exact .inr ⟨i,e,by omega,hi,by omega,h⟩
      |none=>
        have:=List.getElem?_eq_none_iff.1 hi
        simp only [nmAt] at h hm
        rw [List.take_of_length_le (by omega)] at h hm
        omega
def Use (es:List E) (st:St) (ls:Nat→Prop) (m:Nat):Prop:=m<st.nx∨∃j e,ls j∧es[j]?=some e∧nmAt es st j≤m∧m<nmAt es st j+e.t.nw
structure Inv (ops:Array Oper) (es:List E) (st:St) (D W:List Nat) (ρ0:Nat→Value) (ok0:Nat→Prop) (w0:World) (a0:Act) (listed:Array Bool) (env:Env) (hp:cp) (ρ:Nat→Value) (ok:Nat→Prop) (w:World) (a:Act):Prop where
 size:listed.size=es.length
 closed:∀j o,listed.getD j false=true→ops[j]?=some o→∀e∈o.after,Region.binds .any e=true→listed.getD e.on false=true
 seenE:Di es.length (vE es st) (wE es) (rE ops es) (fun j=>listed.getD j false=true) env
 seenH:Di es.length (vH es st) (wH es) (rH es) (fun j=>listed.getD j false=true) hp
 H:dB ρ ok w hp (nmAt es st es.length)
 envR:dM ρ ok w (nmAt es st es.length) env a.tmps
 useH:∀l o,hp l=some o→Use es st (fun j=>listed.getD j false=true) l∧∀m∈gU (some o),Use es st (fun j=>listed.getD j false=true) m
 useE:∀t,∀m∈fg (env t),Use es st (fun j=>listed.getD j false=true) m
 G:fd ρ0 ok0 w0 st.hp st.nx D ρ ok w hp (nmAt es st es.length)
 T:Tm W a0 a
theorem Ok.down (K:Ok P ops es st) {listed:Array Bool} (hc:∀j o,listed.getD j false=true→ops[j]?=some o→∀e∈o.after,Region.binds .any e=true→listed.getD e.on false=true) (hsz:listed.size=es.length):
 ∀(j:Nat),listed.getD j false=true→∀i,Hf ops i j→listed.getD i false=true:=by
 have hlen:ops.size=es.length:=by rw [←Array.length_toList,←K.all,List.length_map]
 intro j
 induction j using Nat.strongRecOn with
 |ind j ih=>
  intro hj i ho
  have hlt:j<ops.size:=by
   rw [hlen,←hsz]
   rcases Nat.lt_or_ge j listed.size with h|h
   ·exact h
   ·simp [Array.getElem?_eq_none h] at hj
  have hop:ops[j]?=some ops[j]:=Array.getElem?_eq_getElem hlt
  obtain ⟨e,h1,h2,h3⟩:=Ev hop ho
  have h4:=hc j _ hj hop e h1 h2
  rcases h3 with rfl|⟨h5,h6⟩
  ·exact h4
  ·exact ih e.on h5 h4 i h6
section
variable {D W:List Nat} {ρ0:Nat→Value} {ok0:Nat→Prop} {w0:World} {a0:Act} {listed:Array Bool} {env:Env} {hp:cp} {ρ:Nat→Value} {ok:Nat→Prop} {w:World} {a:Act}
theorem Inv.before (K:Ok P ops es st) (I:Inv ops es st D W ρ0 ok0 w0 a0 listed env hp ρ ok w a) {i:Nat} (hr:i∈Region.ready .any ops listed):∀j,Hf ops j i→listed.getD j false=true:=by
 intro j ho
 obtain ⟨_,o,hop,hall⟩:=mem_ready.1 hr
 obtain ⟨e,h1,h2,h3⟩:=Ev hop ho
 have h4:=hall e h1 h2
 rcases h3 with rfl|⟨_,h6⟩
 ·exact h4
 ·exact K.down I.closed I.size _ h4 j h6
theorem Hg (l:Array Bool) (i j:Nat) (hi:i<l.size):(l.setIfInBounds i true).getD j false=true↔(l.getD j false=true∨j=i):=by
 by_cases h:i=j
 ·subst h;simp [hi]
 ·rw [getD_set_ne false h];exact ⟨.inl,fun hx=>hx.elim id fun e=>absurd e.symm h⟩
theorem Inv.next (K : Ok P ops es st) (hD : ∀ e ∈ es,∀ l ∈ names e.t.up,l ∈ D) (hW : ∀ e ∈ es,∀ t ∈ fh e.o,t ∈ W ∧ t < a0.tmps.size) (I : Inv ops es st D W ρ0 ok0 w0 a0 listed env hp ρ ok w a)
    {i:Nat} {e:Lv.E} (he:es[i]?=some e) (hr:i∈Region.ready .any ops listed) {hpL:cp} (hs:∀l o,hpL l=some o→hp l=some o) (hL:dB ρ ok w hpL (nmAt es st i)) {ρ':Nat→Value} {ok':Nat→Prop} {w':World}
    (F:Eff ρ ok w hpL (nmAt es st i) e.t.up e.t.nw ρ' ok' w') {v:Value} (hv:∀x,e.s=some x→fM ρ' ok' w' (nmAt es st i+e.t.nw) x v):
    ∃ρ2,Inv ops es st D W ρ0 ok0 w0 a0 (listed.setIfInBounds i true) (ez env e.o.dst e.s) (ups hp e.t.up) ρ2 ok' w' (a.put e.o.dst v):=by
  have hi:i<es.length:=(List.getElem?_eq_some_iff.1 he).1
  have hem:e∈es:=List.mem_of_getElem? he
  obtain ⟨hun,o,hop,hall⟩:=mem_ready.1 hr
  have hunl:¬listed.getD i false=true:=by
    have:i<listed.size:=by rw [I.size];exact hi
    simp [Array.getD,this] at hun ⊢;exact hun
  have hbef:=I.before K hr
  have hset:=Hg listed i (hi:=by rw [I.size];exact hi)
  have hn1:nmAt es st i+e.t.nw≤nmAt es st es.length:=by rw [←ql he];exact qm hi
  have hn0:st.nx≤nmAt es st i:=qm (es:=es) (st:=st) (i:=0) (Nat.zero_le i)
  -- what is in use is not new
  have old:∀m,Use es st (fun j=>listed.getD j false=true) m→m<nmAt es st i∨nmAt es st i+e.t.nw≤m:=by
    rintro m (h|⟨j,x,h1,h2,h3,h4⟩)
    · exact .inl (by omega)
    · rcases Nat.lt_trichotomy j i with hlt|heq|hgt
      · have:=qm (es:=es) (st:=st) (i:=j+1) (j:=i) hlt
        rw [ql h2] at this
        exact .inl (by omega)
      · exact absurd (heq▸h1) hunl
      · have:=qm (es:=es) (st:=st) (i:=i+1) (j:=j) hgt
        rw [ql he] at this
        exact .inr (by omega)
  have more:∀m,Use es st (fun j=>listed.getD j false=true) m→Use es st (fun j=>(listed.setIfInBounds i true).getD j false=true) m:=fun m h=>h.imp id fun ⟨j,x,h1,h2⟩=>⟨j,x,(hset j).2 (.inl h1),h2⟩
  have hc:=K.cond i e he
  have hnm:e.t.nm=nmAt es st i:=hc.nm
  -- what the operation made
  have made:∀m,m<nmAt es st i+e.t.nw→m∈e.t.says→Use es st (fun j=>(listed.setIfInBounds i true).getD j false=true) m:=by
    intro m hm hsay
    rw [←ql he] at hm
    rcases Ew hm with h|⟨j,x,h1,h2,h3,h4⟩
    · exact .inl h
    · refine .inr ⟨j,x,(hset j).2 ?_,h2,h3,h4⟩
      by_cases hji:j=i
      · exact .inr hji
      · left
        cases hl:listed.getD j false with
        |true=>rfl
        |false=>
          exfalso
          have hf:=K.free j i x e (by omega) h2 he fun ho=>by rw [hbef j ho] at hl;cases hl
          simp only [wC,Bool.and_eq_true,io] at hf
          have hxn:x.t.nm=nmAt es st j:=(K.cond j x h2).nm
          refine hf.1.1.1.2 m (List.mem_map.2 ⟨m-x.t.nm,?_,?_⟩) hsay
          · rw [List.mem_range];omega
          · omega
  refine ⟨my ρ ρ' (nmAt es st i) e.t.nw,?_,?_,?_,?_,?_,?_,?_,?_,?_,?_⟩
  · rw [Array.size_setIfInBounds];exact I.size
  · intro j o' hj ho' ed hed hb
    rw [hset] at hj
    refine (hset _).2 (.inl ?_)
    rcases hj with hj|rfl
    · exact I.closed j o' hj ho' ed hed hb
    · rw [hop] at ho';cases ho'
      exact hall ed hed hb
  · have:=K.canonE.next I.seenE hi hunl hbef (fun j hj hl m hm=>K.down I.closed I.size j hl m hm) (cur':=ez env e.o.dst e.s) fun key=>by
      rw [tA];simp only [wE,he]
    intro k hk key hkr hnw
    exact this k (hk.imp id fun ⟨a,b⟩=>⟨a,fun h=>b ((hset k).2 h)⟩) key hkr fun j hj hjn=>hnw j hj fun h=>hjn ((hset j).1 h)
  · have:=K.canonH.next I.seenH hi hunl hbef (fun j hj hl m hm=>K.down I.closed I.size j hl m hm) (cur':=ups hp e.t.up) fun key=>by
      rw [fP];simp only [wH,he];cases je e.t.up key<;>rfl
    intro k hk key hkr hnw
    exact this k (hk.imp id fun ⟨a,b⟩=>⟨a,fun h=>b ((hset k).2 h)⟩) key hkr fun j hj hjn=>hnw j hj fun h=>hjn ((hset j).1 h)
  · exact Fu I.H hs hL F hn1 fun l o ho=>⟨old l (I.useH l o ho).1,fun m hm=>old m ((I.useH l o ho).2 m hm)⟩
  · have hE:dM (my ρ ρ' (nmAt es st i) e.t.nw) ok' w' (nmAt es st es.length) env a.tmps:=by
      intro t s hts
      obtain ⟨u,h1,h2⟩:=I.envR t s hts
      refine ⟨u,h1,h2.moveM (F.2.sameOk hL) fun m hm=>⟨?_,h2.names m hm⟩⟩
      have:=old m (I.useE t m (by rw [hts];exact hm))
      unfold my
      rw [if_neg (by omega)]
    refine mw hE (fun x hx=>(hv x hx).move (fc.refl _ _) (fun l hl=>?_) hn1) fun t ht=>?_
    · unfold my
      by_cases h:nmAt es st i≤l
      · rw [if_pos ⟨h,hl⟩]
      · rw [if_neg (by omega)];exact (F.2.rho l (by omega)).symm
    · rw [I.T.size];exact (hW e hem t (by simp [fh,ht])).2
  · intro l o' h
    rw [fP] at h
    cases hl:je e.t.up l with
    |none=>
      rw [hl] at h
      obtain ⟨h1,h2⟩:=I.useH l o' h
      exact ⟨more l h1,fun m hm=>more m (h2 m hm)⟩
    |some x=>
      rw [hl] at h
      have h:x=some o':=h
      subst h
      have hL':ups hpL e.t.up l=some o':=by rw [fP,hl]
      obtain ⟨k1,k2⟩:=F.1.ob l o' hL'
      refine ⟨?_,fun m hm=>made m (k2.names m hm) (hc.says m (.inr (uK (kJ hl) hm)))⟩
      by_cases hlt:l<nmAt es st i
      · obtain ⟨p,g1,_⟩:=F.2.stay l hlt o' hL'
        exact more l (I.useH l p (hs l p g1)).1
      · exact .inr ⟨i,e,(hset i).2 (.inr rfl),he,by omega,k1⟩
  · intro t m hm
    rw [tA] at hm
    by_cases hd:e.o.dst=some t
    · rw [if_pos hd,Option.getD_some] at hm
      cases hes:e.s with
      |none=>rw [hes] at hm;cases hm
      |some x=>
        refine made m ((hv x hes).names m (by rw [←hes];exact hm)) (hc.says m (.inl hm))
    · rw [if_neg hd,Option.getD_none] at hm
      exact more m (I.useE t m hm)
  · exact Fv I.G I.H hs F hn0 (hD e hem) fun l o ho=>old l (I.useH l o ho).1
  · exact I.T.trans (Tm.put a e.o v) (fun _ h=>h) fun t ht=>(hW e hem t ht).1
end
end
end Lv
end
section
namespace Lv
variable [eR]
open Go Go.RowKit
section
variable {P:Program} {ops:Array Oper} {es:List E} {st:St}
theorem Hh (K : Ok P ops es st) {Q : Exit → Act → World → Prop} {D W : List Nat} {ρ0 : Nat → Value} {ok0 : Nat → Prop} {w0 : World} {a0 : Act} (hD : ∀ e ∈ es,∀ l ∈ names e.t.up,l ∈ D) (hW : ∀ e ∈ es,∀ t ∈ fh e.o,t ∈ W ∧ t < a0.tmps.size)
    (hQ:∀a w,(∃ρ ok,dB ρ ok w (goAll st es).hp (goAll st es).nx∧dM ρ ok w (goAll st es).nx (goAll st es).env a.tmps∧fd ρ0 ok0 w0 st.hp st.nx D ρ ok w (goAll st es).hp (goAll st es).nx∧Tm W a0 a)→Q .normal a w):
    ∀(fuel:Nat) (listed:Array Bool) (a:Act) (w:World),listed.toList.countP (! ·)=fuel→(∃env hp ρ ok,Inv ops es st D W ρ0 ok0 w0 a0 listed env hp ρ ok w a)→wpAny P .any ops Q fuel listed a w:=by
  have hlen:ops.size=es.length:=by rw [←Array.length_toList,←K.all,List.length_map]
  have hop:∀(i:Nat) (e:E),es[i]?=some e→ops[i]?=some e.o:=fun i e h=>by
    have:ops.toList[i]?=some e.o:=by rw [←K.all,List.getElem?_map,h];rfl
    simpa using this
  have hall:nmAt es st es.length=(goAll st es).nx:=by simp [nmAt]
  intro fuel
  induction fuel with
  |zero=>
    rintro listed a w hc ⟨env,hp,ρ,ok,I⟩
    have full:∀i,i<es.length→listed.getD i false=true:=fun i hi=>by
      have:=xa listed.toList hc i (by simpa [I.size] using hi)
      simp at this
      simp [this]
    refine ⟨?_,?_⟩
    · cases hr:Region.ready .any ops listed with
      |nil=>rfl
      |cons i r=>
        have hi:i∈Region.ready .any ops listed:=by rw [hr];exact List.mem_cons_self
        obtain ⟨h1,o,h2,_⟩:=mem_ready.1 hi
        have hlt:i<es.length:=by rw [←hlen];exact (Array.getElem?_eq_some_iff.1 h2).1
        have:=full i hlt
        have hs:i<listed.size:=by rw [I.size];exact hlt
        simp [hs] at h1 this
        rw [h1] at this;cases this
    · have e1:env=(goAll st es).env:=funext fun t=>by
        have:=K.canonE.last I.seenE full t
        simpa [vE] using this
      have e2:hp=(goAll st es).hp:=funext fun t=>by
        have:=K.canonH.last I.seenH full t
        simpa [vH] using this
      have H:=I.H
      have HE:=I.envR
      have G:=I.G
      rw [hall,e2] at H G
      rw [hall,e1] at HE
      exact hQ a w ⟨ρ,ok,H,HE,G,I.T⟩
  |succ fuel ih=>
    rintro listed a w hc ⟨env,hp,ρ,ok,I⟩
    refine ⟨fun hr=>?_,fun i hi=>?_⟩
    · exfalso
      rcases B3 listed with h|⟨i,h1,h2,h3⟩
      · have:listed.toList.countP (! ·)=0:=by
          rw [List.countP_eq_zero]
          intro b hb
          obtain ⟨i,hi,e⟩:=List.mem_iff_getElem.1 hb
          have:=h i (by simpa using hi)
          simp at hi
          simp [hi] at this
          subst e
          simp [this]
        omega
      · have hlt:i<ops.size:=by rw [hlen,←I.size];exact h1
        have:i∈Region.ready .any ops listed:=by
          refine mem_ready.2 ⟨?_,ops[i],Array.getElem?_eq_getElem hlt,fun e he hb=>h3 _ (K.back i ops[i] (Array.getElem?_eq_getElem hlt) e he hb)⟩
          simp [h1] at h2 ⊢;exact h2
        rw [hr] at this
        cases this
    · obtain ⟨hun,o,ho,hafter⟩:=mem_ready.1 hi
      have hlt:i<es.length:=by rw [←hlen];exact (Array.getElem?_eq_some_iff.1 ho).1
      have he:es[i]?=some es[i]:=List.getElem?_eq_getElem hlt
      generalize hee:es[i]=e at he
      have hoo:=hop i e he
      have hcond:=K.cond i e he
      have hls:i<listed.size:=by rw [I.size];exact hlt
      have hunf:¬listed.getD i false=true:=by simp [hls] at hun ⊢;exact hun
      have hbef:=I.before K hi
      have readE:∀t∈rk ops e.o,env t=(goAll st (es.take i)).env t:=fun t ht=>K.canonE.reads I.seenE hlt hunf hbef ⟨e,he,ht⟩
      have readH:∀l∈e.t.looks,hp l=(goAll st (es.take i)).hp l:=fun l hl=>K.canonH.reads I.seenH hlt hunf hbef ⟨e,he,hl⟩
      have hcount:(listed.setIfInBounds i true).toList.countP (! ·)=fuel:=by
        have h:=zG listed.toList i (by simp [hls] at hun ⊢;exact hun)
        rw [hc] at h
        rw [Array.toList_setIfInBounds]
        omega
      have hdb:∀t∈fh e.o,t<a.tmps.size:=fun t ht=>by rw [I.T.size];exact (hW e (List.mem_of_getElem? he) t ht).2
      -- the operation is wanted or not,as it was
      have hwant:Region.wanted e.o (yielded ops a.tmps)=e.yes:=by
        have hg:=hcond.guard
        cases hgd:e.o.guard with
        |none=>rw [hgd] at hg;simp only at hg;rw [hg];simp [Region.wanted,hgd]
        |some p=>
          obtain ⟨g,want⟩:=p
          rw [hgd] at hg
          obtain ⟨t,h1,hg⟩:=hg
          have ht:t∈rk ops e.o:=by
            simp only [rk,hgd,h1]
            exact List.mem_append_right _ List.mem_cons_self
          rcases hg with ⟨b,h2,h3⟩|⟨h2,h3⟩
          case inr=>
            obtain ⟨v,hv1,vs,hv2,hv3⟩:=I.envR t _ ((readE t ht).trans h2)
            cases hv3
            subst hv2
            have hy:yielded ops a.tmps g=none:=by simp [yielded,h1,hv1]
            rw [h3]
            simp [Region.wanted,hgd,hy]
          obtain ⟨v,hv1,hv2⟩:=I.envR t _ ((readE t ht).trans h2)
          obtain ⟨c,ec,hv2⟩:=hv2
          cases ec
          have hv:v=.bool b:=hv2
          subst hv
          have hy:yielded ops a.tmps g=some b:=by simp [yielded,h1,hv1]
          rw [h3]
          cases b<;>cases want<;>simp [Region.wanted,hgd,hy]
      unfold wpOp
      rw [hoo]
      simp only
      cases hyes:e.yes with
      |false=>
        rw [hwant,hyes,if_neg (by simp)]
        obtain ⟨n1,n2,n3⟩:=hcond.no hyes
        have hL:dB ρ ok w (fun _=>none) (nmAt es st i):=⟨fun l o h=>(by cases h),I.H.okl,fun l o b h=>(by cases h),fun l m o p b h=>(by cases h),I.H.gl⟩
        obtain ⟨ρ2,I2⟩:=I.next K hD hW he hi (hpL:=fun _=>none) (fun l o h=>by cases h) hL (ρ':=ρ) (ok':=ok) (w':=w) (by rw [n2,n3];exact Eff.refl hL) (v:=undef) (fun x hx=>by rw [n1] at hx;cases hx;exact ⟨[],rfl,.nil⟩)
        exact ih _ _ _ hcount ⟨_,_,_,_,I2⟩
      |true=>
        rw [hwant,hyes,if_pos rfl]
        obtain ⟨lk1,lk2,lk3⟩:=hcond.looks hyes
        have hs:∀l o,jY e.t.looks (goAll st (es.take i)).hp l=some o→hp l=some o:=fun l o h=>by
          rw [readH l (tv h)];exact zF _ _ _ _ h
        have hL:dB ρ ok w (jY e.t.looks (goAll st (es.take i)).hp) (nmAt es st i):=by
          refine ⟨fun l o h=>?_,I.H.okl,fun l o b h=>I.H.sep l o b (hs l o h),fun l m o p b h h'=>I.H.dis l m o p b (hs l o h) (hs m p h'),I.H.gl⟩
          refine ⟨lk2 l (tv h),(I.H.ob l o (hs l o h)).2.moveM (fc.refl _ _) rfl (fun m hm=>⟨rfl,lk3 l (tv h) m ?_⟩) fun _ _ _=>rfl⟩
          rw [zF _ _ _ _ h];exact hm
        have hE:dM ρ ok w (nmAt es st i) (mq (iH e.o) (goAll st (es.take i)).env) a.tmps:=by
          intro t s hts
          unfold mq at hts
          split at hts<;>try (cases hts;done)
          rename_i hm
          have hm:=gV.1 hm
          have htt:t∈rk ops e.o:=List.mem_append_left _ hm
          obtain ⟨v,h1,h2⟩:=I.envR t s ((readE t htt).trans hts)
          exact ⟨v,h1,h2.moveM (fc.refl _ _) fun m hm'=>⟨rfl,lk2 m (lk1 t hm m (by rw [hts];exact hm'))⟩⟩
        refine .inl (Oper.wp_mono ?_ (hcond.loc hyes ρ ok w a hL hE hdb Q))
        rintro a' w' ⟨v,ρ',ok',rfl,F,hv⟩
        obtain ⟨ρ2,I2⟩:=I.next K hD hW he hi hs hL F hv
        exact ih _ _ _ hcount ⟨_,_,_,_,I2⟩
theorem eo {cx : Cx} (hcx : bM P cx) (hm : P.follows .mixedOrders = true) : ji P cx := by
  refine ⟨hm,?_⟩
  intro R rid ops st κ r h ρ ok w a hH hE hW Q hQ
  obtain ⟨es,h1,h2,h3⟩:=w7 hcx ops ops.toList st [] _ r h
  split at h2<;>try (cases h2;done)
  rename_i hfree
  obtain ⟨f1,f2⟩:=Bool.and_eq_true_iff.1 hfree
  have hz:ops.toList.zip ([]++es.map (·.t))=es.map fun e=>(e.o,e.t):=by
    rw [List.nil_append,←h1,List.zip_map']
  rw [hz] at f2
  have K:Ok P ops es st:=by
    refine ⟨h1,h3,fun k o ho e he hb=>?_,fun i j x y hij hx hy hn=>?_⟩
    · have:=pW f1 k o (by simpa using ho) e he hb
      omega
    · rcases sM f2 i j x.o y.o x.t y.t hij (by rw [List.getElem?_map,hx];rfl) (by rw [List.getElem?_map,hy];rfl) with g|g
      · rw [Nat.zero_add,Nat.zero_add] at g
        exact absurd g hn
      · exact g
  obtain ⟨D,hD1,hD2⟩:=B2 st es
  have hlen:ops.size=es.length:=by rw [←Array.length_toList,←h1,List.length_map]
  have hme:∀e∈es,e.o∈ops.toList:=fun e he=>by rw [←h1];exact List.mem_map.2 ⟨e,he,rfl⟩
  have hle:st.nx≤nmAt es st es.length:=qm (es:=es) (st:=st) (i:=0) (Nat.zero_le _)
  refine wp_region_any hm (Hh K (D:=D) (W:=ops.toList.flatMap fh) (ρ0:=ρ) (ok0:=ok) (w0:=w) (a0:=a) hD2
    (fun e he t ht=>⟨List.mem_flatMap.2 ⟨e.o,hme e he,ht⟩,hW e.o (hme e he) t ht⟩) ?_ ops.size _ a _ (by simp [List.countP_replicate]) ?_)
  · rintro a' w' ⟨ρ',ok',k1,k2,k3,k4⟩
    exact hQ _ a' w' h2 ⟨ρ',ok',D,hD1,k1,k2,k3,k4⟩
  · have emp:∀j,(Array.replicate ops.size false).getD j false=true→False:=fun j h=>by
      rw [Array.getD_eq_getD_getElem?,Array.getElem?_replicate] at h
      split at h<;>simp at h
    refine ⟨st.env,st.hp,ρ,ok,by simp [hlen],fun j o h=>(emp j h).elim,?_,?_,?_,?_,?_,?_,?_,Tm.refl _ _⟩
    · intro k hk key hkr hn
      exact K.canonE.start k (hk.imp id fun ⟨a,b⟩=>⟨a,id⟩) key hkr fun j hj _=>hn j hj fun h=>emp j h
    · intro k hk key hkr hn
      exact K.canonH.start k (hk.imp id fun ⟨a,b⟩=>⟨a,id⟩) key hkr fun j hj _=>hn j hj fun h=>emp j h
    · exact (hH.heap (w':={w with drawn:=w.drawn+1}) rfl).more hle
    · exact (hE.heap (w':={w with drawn:=w.drawn+1}) rfl).more hle
    · intro l o ho
      obtain ⟨g1,g2⟩:=hH.ob l o ho
      exact ⟨.inl g1,fun m hm=> .inl (g2.names m hm)⟩
    · intro t m hm'
      cases hs:st.env t with
      |none=>rw [hs] at hm';cases hm'
      |some s=>
        rw [hs] at hm'
        obtain ⟨v,_,hv⟩:=hE t s hs
        exact .inl (hv.names m hm')
    · have G:=fd.refl (ρ:=ρ) (ok:=ok) (w:=w) (hp:=st.hp) (nx:=st.nx) fun l o ho=>(hH.ob l o ho).1
      exact ⟨rfl,rfl,⟨rfl,fun _=>Nat.le_succ _⟩,Nat.le_refl _,hle,fun _ _ _=>rfl,fun _ _=>rfl,fun _ h=>h,fun _ h=> .inl h,fun _ _ _=>rfl,fun _ _ o h=>⟨o,h,id⟩,fun l o b hl ho _ _=>absurd (hH.ob l o ho).1 (by omega)⟩
end
end Lv
end
section
namespace Lv
variable [eR]
open Go Go.RowKit
section
variable {P:Program} {cx:Cx}
theorem uL (hT : eH P cx.tab) {ρ : Nat → Value} {ok : Nat → Prop} {w : World} {hp : cp} {nx : Nat} {env : Env} {tmps : Array Value} (hH : dB ρ ok w hp nx) (hE : dM ρ ok w nx env tmps) (f : ResultVar → Sem Value) (hf : ∀ t,f (.tmp t) = pure (tmps.getD t undef))
    (hc:∀a t,f (.cell a t)=(do loadVar t (←asAddr (tmps.getD a undef)))) {v:ResultVar} {p:Bool×List Cell} (h:sG cx env hp v=some p):∃u,(f v).run P w=.ok u w∧VR ρ ok w nx p.1 p.2 u:=by
  cases v with
  |tmp t=>
    simp only [sG] at h
    split at h<;>try (cases h;done)
    rename_i a cs ht
    cases h
    obtain ⟨v,hv1,hv2⟩:=hE t _ ht
    have:tmps.getD t undef=v:=by simp [Array.getD_eq_getD_getElem?,hv1]
    exact ⟨v,by rw [hf,this];simp,hv2⟩
  |cell a t=>
    simp only [sG] at h
    split at h<;>try (cases h;done)
    rename_i i l off hi ha
    split at h<;>try (cases h;done)
    rename_i e cs hl
    split at h<;>try (cases h;done)
    rename_i hb
    cases h
    obtain ⟨v,hv1,hv2⟩:=hE a _ (mr ha)
    obtain ⟨c,ec,hv2⟩:=hv2
    cases ec
    obtain ⟨_,b,k1,k2⟩:=hv2
    obtain ⟨_,b',vs,g1,g2,g3⟩:=hH.ob l _ hl
    rw [k1] at g1
    cases g1
    have hle:=Nat.le_of_ble_eq_true hb
    have hlen0:=g3.len
    have hc':=(g3.drop off).take i.size
    have hlen:((vs.drop off).take i.size).length=i.size:=by simp;omega
    have hTI:=hT t i hi
    have hrun:=zo (w:=w) hTI (b:=b) (off:=off) hlen (fun j v hj=>by
      rw [List.getElem?_take] at hj
      split at hj
      · rw [List.getElem?_drop] at hj
        simpa [World.cell?,g2] using hj
      · cases hj)
    have:tmps.getD a undef=v:=by simp [Array.getD_eq_getD_getElem?,hv1]
    refine ⟨_,by rw [hc,this,k2];simp only [asAddr,Sem.run_bind,Sem.run_pure,Result.andThen_ok,hrun];rfl,?_⟩
    by_cases hag:i.agg=true
    · simp only [hag,if_true]
      exact ⟨_,rfl,hc'⟩
    · have hag:i.agg=false:=by simpa using hag
      simp only [hag,Bool.false_eq_true,if_false]
      have h1:i.size=1:=hTI.one.resolve_left (by simp [hag])
      rw [h1] at hc' hlen ⊢
      have hl2:=hc'.len
      match hcs:(cs.drop off).take 1,hvs:(vs.drop off).take 1,hlen with
      | [],[v],_=>rw [hcs,hvs] at hl2;simp at hl2
      | [c],[v],_=>
        rw [hcs,hvs] at hc'
        obtain ⟨u,e,hu⟩:=hc'.one
        cases e
        exact ⟨c,rfl,hu⟩
      |_::_::_,[v],_=>rw [hcs,hvs] at hl2;simp at hl2
theorem zH (hT:eH P cx.tab) {ρ:Nat→Value} {ok:Nat→Prop} {w:World} {hp:cp} {nx:Nat} {env:Env} {tmps:Array Value} (hH:dB ρ ok w hp nx) (hE:dM ρ ok w nx env tmps) (f:ResultVar→Sem Value) (hf:∀t,f (.tmp t)=pure (tmps.getD t undef))
 (hc:∀a t,f (.cell a t)=(do loadVar t (←asAddr (tmps.getD a undef)))):∀(rs:List ResultVar) (l:List (Bool×List Cell)),zm cx env hp rs=some l→
 ∃us,(rs.mapM f).run P w=.ok us w∧All2 (fun (p:Bool×List Cell) u=>VR ρ ok w nx p.1 p.2 u) l us
 | [],l,h=>by cases h;exact ⟨[],by simp,.nil⟩
 |v::r,l,h=>by
  simp only [zm] at h
  split at h<;>try (cases h;done)
  rename_i p l' h1 h2
  cases h
  obtain ⟨u,k1,k2⟩:=uL hT hH hE f hf hc h1
  obtain ⟨us,g1,g2⟩:=zH hT hH hE f hf hc r l' h2
  exact ⟨u::us,by simp only [List.mapM_cons,Sem.run_bind,k1,Result.andThen_ok,g1,Sem.run_pure],.cons k2 g2⟩
theorem Dj (hT : eH P cx.tab) {fn : Func} {ρ : Nat → Value} {ok : Nat → Prop} {w : World} {hp : cp} {nx : Nat} {env : Env} {tmps : Array Value} (hH : dB ρ ok w hp nx) (hE : dM ρ ok w nx env tmps) {s : dU} (h : iw cx env hp fn.results.toList = some s) :
    ∃v,(results fn tmps).run P w=.ok v w∧fM ρ ok w nx s v:=by
  unfold results
  rw [Array.mapM_eq_mapM_toList]
  simp only [Sem.run_bind,Sem.run_map,map_eq_pure_bind]
  generalize fn.results.toList=rs at h ⊢
  generalize hF:(fun x=>match x with
    |ResultVar.tmp t=>pure (tmps.getD t undef)
    |ResultVar.cell a t=>do loadVar t (←asAddr (tmps.getD a undef)):ResultVar→Sem Value)=F
  have f1:∀t,F (.tmp t)=pure (tmps.getD t undef):=fun t=>by rw [←hF]
  have f2:∀a t,F (.cell a t)=(do loadVar t (←asAddr (tmps.getD a undef))):=fun a t=>by rw [←hF]
  unfold iw at h
  split at h
  · rename_i v
    split at h<;>try (cases h;done)
    rename_i a cs hv
    cases h
    obtain ⟨u,k1,k2⟩:=uL hT hH hE F f1 f2 hv
    refine ⟨u,?_,k2⟩
    simp only [List.mapM_cons,List.mapM_nil,Sem.run_bind,k1,Result.andThen_ok,Sem.run_pure]
    rfl
  · rename_i hne
    split at h<;>try (cases h;done)
    rename_i l hl
    cases h
    obtain ⟨us,k1,k2⟩:=zH hT hH hE F f1 f2 rs l hl
    have hlen:us.length≠1:=by
      rw [←k2.len]
      have:∀(rs:List ResultVar) l,zm cx env hp rs=some l→l.length=rs.length:=by
        intro rs
        induction rs with
        |nil=>intro l h;cases h;rfl
        |cons v r ih=>
          intro l h
          simp only [zm] at h
          split at h<;>try (cases h;done)
          rename_i p l' h1 h2
          cases h
          simp [ih l' h2]
      rw [this rs l hl]
      intro e
      match rs,e with
      | [v],_=>exact hne v rfl
    refine ⟨.tuple us.toArray,?_,us,rfl,k2⟩
    rw [k1]
    simp only [Result.andThen_ok,Sem.run_pure]
    simp [hlen]
end
theorem zI {ren : Ren} : ∀ {l : List (Nat × Bool × OSh)},inOk ren l = true → ∀ p ∈ l,(∀ m,ren p.1 = some m → p.1 < 1000 → m = p.1) ∧ (ren p.1 = none → 1000 ≤ p.1)
  |(k,r)::l,h,p,hp=>by
    obtain ⟨h1,h2⟩:=Bool.and_eq_true_iff.1 h
    rcases List.mem_cons.1 hp with rfl|hp
    · refine ⟨fun m hm hk=>?_,fun hm=>?_⟩
      · simp only at hm hk
        rw [hm] at h1
        simp only at h1
        rw [if_pos (show Nat.blt k 1000=true from Nat.ble_eq_true_of_le hk)] at h1
        exact Nat.eq_of_beq_eq_true h1
      · simp only at hm ⊢
        rw [hm] at h1
        exact Nat.le_of_ble_eq_true h1
    · exact zI h2 p hp
section
variable {P:Program}
structure oc (P:Program) (g:FuncId) (code:Code) (res:List ResultVar) (nt:Nat):Prop where
 ex : ∃ fn, P.funcs[g]? = some fn ∧ fn.body = some code ∧ fn.results.toList = res ∧ fn.ntmps = nt ∧ fn.name ≠ "runtime.NumGoroutine"
 wr:iX nt (writes code)=true
theorem oc.enters {g code res nt} (h:oc P g code res nt):nY P g:=by
 obtain ⟨fn,h1,h2,_,_,h5⟩:=h.ex
 exact ⟨fn,h1,by rw [h2];rfl,h5⟩
variable {cx:Cx} {inl:Inl}
theorem Ay (hcx:bM P cx) (hinl:jx P cx.pan inl) (hdr:ji P cx) {g:FuncId} {code:Code} {res:List ResultVar} {nt:Nat} (hfn:oc P g code res nt) {R:Type} {h:H} {st:St} {κ:St→Option R} {κp:Int→St→Option R} {r:R}
 (hev:evC cx inl R code h st (fun o=>match o with| .normal st=>κ st| .ret st=>κ st| .exit _ _=>none| .pan n st=>κp n st)=some r) (hres:∀st',κ st'=some r→∃s,iw cx st'.env st'.hp res=some s) {ρ ok w} {args:Array Value} (hH:dB ρ ok w st.hp st.nx) (hE:dM ρ ok w st.nx st.env args):
 Calls P g args w fun e w'=>(∃v st' ρ' ok' D,e=.returned v∧κ st'=some r∧st'.dt=D++st.dt∧dB ρ' ok' w' st'.hp st'.nx∧(∀s,iw cx st'.env st'.hp res=some s→fM ρ' ok' w' st'.nx s v)∧fd ρ ok w st.hp st.nx D ρ' ok' w' st'.hp st'.nx)∨
  (∃n st' ρ' ok' D,e=.panicked (Aw cx.pan n)∧κp n st'=some r∧st'.dt=D++st.dt∧dB ρ' ok' w' st'.hp st'.nx∧fd ρ ok w st.hp st.nx D ρ' ok' w' st'.hp st'.nx):=by
 obtain ⟨fn,h1,h2,h3,h4,h5⟩:=hfn.ex
 have fin:∀(st':St) (a':Act) (w':World),κ st'=some r→j6 st ρ ok w {tmps:=args++Array.replicate (fn.ntmps-args.size) undef,defers:=[]} (writes code) st' a' w'→
  a'.defers=[]∧∃v,(results fn a'.tmps).run P w'=.ok v w'∧((∃v_1 st' ρ' ok' D,Ending.returned v=.returned v_1∧κ st'=some r∧st'.dt=D++st.dt∧dB ρ' ok' w' st'.hp st'.nx∧(∀s,iw cx st'.env st'.hp res=some s→fM ρ' ok' w' st'.nx s v_1)∧fd ρ ok w st.hp st.nx D ρ' ok' w' st'.hp st'.nx)∨
  (∃n st' ρ' ok' D,Ending.returned v=.panicked (Aw cx.pan n)∧κp n st'=some r∧st'.dt=D++st.dt∧dB ρ' ok' w' st'.hp st'.nx∧fd ρ ok w st.hp st.nx D ρ' ok' w' st'.hp st'.nx)):=by
  rintro st' a' w' hκ ⟨ρ',ok',D,g1,g2,g3,g4,g5⟩
  obtain ⟨s,hs⟩:=hres st' hκ
  obtain ⟨v,k1,k2⟩:=Dj (P:=P) (fn:=fn) hcx.tab g2 g3 (s:=s) (by rw [h3];exact hs)
  exact ⟨g5.defers,v,k1,.inl ⟨v,st',ρ',ok',D,rfl,hκ,g1,g2,fun s' hs'=>by rw [hs] at hs';cases hs';exact k2,g4⟩⟩
 refine calls_of_wp h1 h2 (jA hcx hinl hdr code R h st _ r hev ρ ok w _ hH ?_ ?_ _ ?_ ?_)
 ·intro t s hs
  obtain ⟨v,k1,k2⟩:=hE t s hs
  refine ⟨v,?_,k2⟩
  rw [Array.getElem?_append_left (Array.getElem?_eq_some_iff.1 k1).1]
  exact k1
 ·intro t ht
  have:=iY.1 hfn.wr t ht
  simp only [Array.size_append,Array.size_replicate]
  omega
 ·intro o e a' w' k1 k2 k3
  cases o with
  |normal st'=>
   cases k2
   exact fin st' a' w' k1 k3
  |ret st'=>
   cases k2
   exact fin st' a' w' k1 k3
  |exit id st'=>cases k1
  |pan n st'=>cases k2
 ·rintro n st' a' w' k1 ⟨ρ',ok',D,g1,g2,g3,g4,g5⟩
  exact ⟨g5.defers,.inr ⟨n,st',ρ',ok',D,rfl,k1,g1,g2,g4⟩⟩
theorem Az {cx : Cx} {res : List ResultVar} {si so : Sh} (hso : gM so = true) {x : TS si} {y : TS so} {st' : St} {ρ ok w ρ1 ok1 w'} {v : Value} {D : List Nat} (hκ : evF.fin cx res so st' = some y)
    (R1:dB ρ1 ok1 w' st'.hp st'.nx) (S1:∀s,iw cx st'.env st'.hp res=some s→fM ρ1 ok1 w' st'.nx s v) (G:fd ρ ok w (dL si id x) 1000 D ρ1 ok1 w' st'.hp st'.nx):
    ∃u ρ' ok',Ending.returned v=.returned u∧dB ρ' ok' w' (dL so id y) so.nn∧dM ρ' ok' w' so.nn (fO so id y) #[u]∧pR (dL si id x) ρ ok w (dL so id y) ρ' ok' w':=by
  unfold evF.fin at hκ
  split at hκ<;>try (cases hκ;done)
  rename_i sl hsl
  split at hκ<;>try (cases hκ;done)
  rename_i hin
  rw [←hsl] at hin hκ
  have hin:=zI hin
  have hE1:dM ρ1 ok1 w' st'.nx (Lv.put (fun _=>none) 0 (iw cx st'.env st'.hp res)) #[v]:=by
    intro t s hs
    simp only [Lv.put] at hs
    split at hs
    · rename_i ht
      have:=Nat.eq_of_beq_eq_true ht
      subst this
      exact ⟨v,rfl,S1 s hs⟩
    · cases hs
  generalize hen:Lv.put (fun _=>none) 0 (iw cx st'.env st'.hp res)=env1 at hE1 hκ hin
  have hf0:lg id 0 so.nn (bL so env1 st'.hp):=fun l _=> .inl (by simp)
  obtain ⟨t1,t2,t3⟩:=De R1 hE1 hso hκ (f:=id) (nx0:=0) hf0 (H0:=fun _=>none) (fun q o h=>by cases h) (E0:=fun _=>none) (fun t s h=>by cases h)
  have hρ:∀q,reρ ρ1 0 (bL so env1 st'.hp) q=match bL so env1 st'.hp q with|some m=>ρ1 m|none=> .slice none 0 0:=fun q=>by unfold reρ;rw [if_neg (by omega)];rfl
  refine ⟨v,_,_,rfl,t1.more (by simp),t2.more (by simp),⟨G.os,G.tape,G.output,G.size,?_,fun b hb=> .inl (G.okm b hb),?_,?_,?_⟩⟩
  · intro b hb hne
    exact G.same b hb fun l _ _ o ho hw=>hne l o ho hw
  · rintro b (hb|⟨l,hl,hb⟩)
    · rcases G.okn b hb with k|k|⟨l,_,_,o,ho,hw,hbl⟩
      · exact .inl k
      · exact .inr (.inl k)
      · exact .inr (.inr ⟨l,o,ho,hw,hbl⟩)
    · rcases fG (gN so env1 st'.hp) l with ⟨_,e,t,xs,k1,_⟩|⟨k1,_⟩
      · by_cases hlt:l<1000
        · obtain ⟨p,g1,g2⟩:=G.stay l hlt _ k1
          rw [G.rho l hlt] at hb
          exact .inr (.inr ⟨l,p,g1,g2 rfl,hb⟩)
        · rcases G.nb l _ b (by omega) k1 rfl hb with g|⟨m,_,_,p,g1,g2,g3⟩
          · exact .inr (.inl g)
          · exact .inr (.inr ⟨m,p,g1,g2,g3⟩)
      · exact absurd hl k1
  · intro l o ho hlt
    rcases t3 l o ho with ⟨p,hp1,hp2,hp3,hp4⟩|⟨hp1,_⟩
    · have hp2:l=p.1:=hp2
      subst hp2
      obtain ⟨i1,i2⟩:=hin p hp1
      rcases hp4.src with ⟨m,q,g1,g2,g3⟩|g1
      · have:=i1 m g1 hlt
        subst this
        obtain ⟨s,k1,k2⟩:=G.stay _ hlt q g2
        refine ⟨?_,s,k1,fun _=>k2 g3⟩
        rw [hρ,g1]
        exact G.rho _ hlt
      · have:=i2 g1;omega
    · cases hp1
  · intro l o b ho hge hw hb
    rcases t3 l o ho with ⟨p,hp1,hp2,hp3,hp4⟩|⟨hp1,_⟩
    · have hp2:l=p.1:=hp2
      subst hp2
      obtain ⟨i1,i2⟩:=hin p hp1
      rcases hp4.src with ⟨m,q,g1,g2,g3⟩|g1
      · rw [hρ,g1] at hb
        by_cases hm:m<1000
        · obtain ⟨s,k1,k2⟩:=G.stay m hm q g2
          have hb:blk (ρ1 m)=some b:=hb
          rw [G.rho m hm] at hb
          exact .inr ⟨m,s,k1,k2 g3,hb⟩
        · rcases G.nb m q b (by simpa using hm) g2 g3 hb with k|⟨m',_,_,s,k1,k2,k3⟩
          · exact .inl k
          · exact .inr ⟨m',s,k1,k2,k3⟩
      · rw [hρ,g1] at hb;cases hb
    · cases hp1
theorem vc {cx:Cx} {res:List ResultVar} {so:Sh} {y:TS so} {st':St} (h:evF.fin cx res so st'=some y):∃s,iw cx st'.env st'.hp res=some s:=by
 unfold evF.fin at h
 split at h
 ·exact ⟨_,by assumption⟩
 ·cases h
theorem Kz (hcx:bM P cx) (hinl:jx P cx.pan inl) (hdr:ji P cx) {g:FuncId} {code:Code} {res:List ResultVar} {nt:Nat} (hfn:oc P g code res nt) (h:H) {n:Nat} {si so:Sh} (hso:gM so=true)
 {F:TS si→Option (TS so)} (hF:∀x y,F x=some y→evF cx inl code res h si so x=some y):aB P g ⟨n,si,so,F⟩:=by
 intro x y hxy ρ ok w args _ hH hE
 have hev:=hF x y hxy
 unfold evF at hev
 refine (Ay hcx hinl hdr hfn (st:=⟨fO si id x,dL si id x,1000,[]⟩) (κ:=evF.fin cx res so) (κp:=fun _ _=>none) hev (fun st' h=>vc h) hH hE).mono ?_
 rintro e w' (⟨v,st',ρ1,ok1,D,rfl,hκ,hD,R1,S1,G⟩|⟨n,_,_,_,_,_,hn,_⟩)
 ·exact Az hso hκ R1 S1 G
 ·cases hn
theorem I4 (hcx:bM P cx) (hinl:jx P cx.pan inl) (hdr:ji P cx) {g:FuncId} {code:Code} {res:List ResultVar} {nt:Nat} (hfn:oc P g code res nt) (h:H) {n:Nat} {si so:Sh} (hso:gM so=true)
 {F:TS si→Option (TS so⊕Int)} (hF:∀x y,F x=some y→qC cx inl code res h si so x=some y):ie P g cx.pan ⟨n,si,so,F⟩:=by
 intro x z hxz ρ ok w args _ hH hE
 have hev:=hF x z hxz
 unfold qC at hev
 refine (Ay hcx hinl hdr hfn (st:=⟨fO si id x,dL si id x,1000,[]⟩) (κ:=qC.finP cx res so) (κp:=fun n _=>some (.inr n)) hev (fun st' h=>by
  unfold qC.finP at h
  split at h
  ·rename_i y hy;exact vc hy
  ·cases h) hH hE).mono ?_
 rintro e w' (⟨v,st',ρ1,ok1,D,rfl,hκ,hD,R1,S1,G⟩|⟨n,st',ρ1,ok1,D,rfl,hn,hD,R1,G⟩)
 ·unfold qC.finP at hκ
  split at hκ
  ·rename_i y hy
   cases hκ
   exact Az hso hy R1 S1 G
  ·cases hκ
 ·cases hn
  exact ⟨rfl,G.pan (Df.refl _ _ _)⟩
theorem eJ (hcx:bM P cx) (hinl:jx P cx.pan inl) (hdr:ji P cx) {fn:Nat→List (Option dU)→cp→Option (Code×List ResultVar×H)} (hfn:∀g as hp code res h,fn g as hp=some (code,res,h)→∃nt,oc P g code res nt):jx P cx.pan (jZ cx fn inl):=by
 intro R g args hp nx dt κ κp r h
 unfold jZ at h
 split at h<;>try (cases h;done)
 rename_i code res hh hg
 obtain ⟨nt,hF⟩:=hfn g _ _ code res hh hg
 refine ⟨hF.enters,fun ρ ok w vals hH hE=>?_⟩
 refine (Ay hcx hinl hdr hF (st:=⟨fl args,hp,nx,dt⟩) (κ:=fun st=>match iw cx st.env st.hp res with|some s=>κ (some s) st.hp st.nx st.dt|none=>none) (κp:=fun n st=>κp n st.hp st.nx st.dt) h (fun st' h=>by
  split at h<;>first|exact ⟨_,by assumption⟩|cases h) hH hE).mono ?_
 rintro e w' (⟨v,st',ρ1,ok1,D,rfl,hκ,hD,R1,S1,G⟩|⟨n,st',ρ1,ok1,D,rfl,hn,hD,R1,G⟩)
 ·split at hκ<;>try (cases hκ;done)
  rename_i s hs
  exact .inl ⟨v,some s,_,_,_,D,ρ1,ok1,rfl,hκ,hD,R1,fun x hx=>by cases hx;exact S1 _ hs,G⟩
 ·exact .inr ⟨n,_,_,_,D,ρ1,ok1,rfl,hn,hD,R1,G⟩
end
end Lv
end
section
namespace Lv
variable [eR]
open Go Go.RowKit
section
variable (P:Program) (tab:Nat→Option TI)
def AA (rec:TypeId→Ty→Bool) (f:Field) (off:Nat) (ty:Ty):Bool:=
 !(f.name == "_") && (Nat.beq f.offset off && ((match tab f.type with | some i => Nat.beq i.size ty.n | none => false) && rec f.type ty))
def xb (rec:TypeId→Ty→Bool):List Field→Nat→Ty→Bool
 | [f],off,ty=>AA tab rec f off ty
 |f::g::r,off,.pair a b=>AA tab rec f off a&&xb rec (g::r) (off+a.n) b
 |_,_,_=>false
def elB (e:Nat) (n:Nat):Bool:=match tab e with|some i=>Nat.beq i.size n|none=>false
def B4 (rec:TypeId→Ty→Bool) (e:Nat):Nat→Ty→Bool
 |1,ty=>elB tab e ty.n&&rec e ty
 |n+2,.pair a b=>(elB tab e a.n&&rec e a)&&B4 rec e (n+1) b
 |_,_=>false
def eqB : Nat → TypeId → Ty → Bool
  |0,_,_=>false
  |d+1,t,ty=>match P.underlying t with
    |some .bool=>ty.b .bool
    |some (.int _)=>(match ty with| .int _=>true|_=>false)
    |some .string=>ty.b .str
    |some (.struct fs)=> !P.stoodInHeld t&&xb tab (eqB d) fs.toList 0 ty
    |some (.array n e)=>B4 tab (eqB d) e n ty
    |_=>false
end
section
variable {P:Program} {tab:Nat→Option TI}
def gF (P:Program) (t:TypeId) (vs:List Value):Value:=match P.underlying t with
 |some (.struct _)=> .agg vs.toArray
 |some (.array _ _)=> .agg vs.toArray
 |_=>vs.getD 0 undef
theorem sN (hT : eH P tab) {w : World} {t : TypeId} {i : TI} (hi : tab t = some i) {pre vs rest : List Value} (hl : vs.length = i.size) (hu : (∃ fs,P.underlying t = some (.struct fs)) ∨ (∃ n e,P.underlying t = some (.array n e)) ∨ P.underlying t = some .bool ∨ (∃ k,P.underlying t = some (.int k)) ∨ P.underlying t = some .string) :
    (part t (pre++vs++rest).toArray pre.length).run P w=.ok (gF P t vs) w:=by
  have hTI:=hT t i hi
  have hagg:=u6 w hTI
  have hsz:=mH w hTI
  have scalar:i.agg=false→(∀fs,P.underlying t≠some (.struct fs))→(∀n e,P.underlying t≠some (.array n e))→(part t (pre++vs++rest).toArray pre.length).run P w=.ok (gF P t vs) w:=by
    intro ha hn hn'
    have h1:i.size=1:=hTI.one.resolve_left (by simp [ha])
    rw [h1] at hl
    match vs,hl with
    | [v],_=>
      have hg:((pre++ [v]++rest).toArray)[pre.length]?=some v:=by simp
      have hv:gF P t [v]=v:=by
        unfold gF
        split
        · rename_i fs h;exact absurd h (hn fs)
        · rename_i n e h;exact absurd h (hn' n e)
        · rfl
      unfold part
      simp only [Sem.run_bind,hagg,ha,Result.andThen_ok,Bool.false_eq_true,if_false,hg,hv,Sem.run_pure]
  obtain ⟨info,d,z,_,h2,h3,_⟩:=hTI.ex
  have hd:i.agg=aggD d:=zn h3
  have aggr:i.agg=true→gF P t vs=.agg vs.toArray→(part t (pre++vs++rest).toArray pre.length).run P w=.ok (gF P t vs) w:=by
    intro ha hv
    unfold part
    simp only [Sem.run_bind,hagg,ha,Result.andThen_ok,if_true,hsz,Sem.run_pure,hv]
    congr 2
    rw [←hl]
    apply Array.toList_inj.1
    simp [List.extract_eq_take_drop,List.drop_append_of_le_length,List.append_assoc]
  rcases hu with ⟨fs,h⟩|⟨n,e,h⟩|h|⟨k,h⟩|h
  · rw [h] at h2;cases h2
    exact aggr hd (by unfold gF;rw [h])
  · rw [h] at h2;cases h2
    exact aggr hd (by unfold gF;rw [h])
  · rw [h] at h2;cases h2
    exact scalar hd (fun fs e=>by rw [h] at e;cases e) fun n f e=>by rw [h] at e;cases e
  · rw [h] at h2;cases h2
    exact scalar hd (fun fs e=>by rw [h] at e;cases e) fun n f e=>by rw [h] at e;cases e
  · rw [h] at h2;cases h2
    exact scalar hd (fun fs e=>by rw [h] at e;cases e) fun n f e=>by rw [h] at e;cases e
theorem zJ {d:Nat} {t:TypeId} {ty:Ty} (h:eqB P tab d t ty=true):(∃fs,P.underlying t=some (.struct fs))∨(∃n e,P.underlying t=some (.array n e))∨P.underlying t=some .bool∨(∃k,P.underlying t=some (.int k))∨P.underlying t=some .string:=by
 cases d with
 |zero=>cases h
 |succ d=>
  simp only [eqB] at h
  split at h
  ·rename_i h';exact .inr (.inr (.inl h'))
  ·rename_i k h';exact .inr (.inr (.inr (.inl ⟨k,h'⟩)))
  ·rename_i h';exact .inr (.inr (.inr (.inr h')))
  ·rename_i fs h';exact .inl ⟨fs,h'⟩
  ·rename_i n e h';exact .inr (.inl ⟨n,e,h'⟩)
  ·cases h
theorem KA (hT : eH P tab) {ok : Nat → Prop} {w : World} : ∀ (d : Nat) (t : TypeId) (ty : Ty),eqB P tab d t ty = true → ∀ (x y : ty.T) (vs us : List Value),K ok w ty x vs → K ok w ty y us → ∀ k,
    (Op.equalIn (d+k) t (gF P t vs) (gF P t us)).run P w=.ok (ty.eq x y) w:=by
  intro d
  induction d with
  |zero=>intro t ty h;cases h
  |succ d ih=>
    intro t ty h x y vs us hx hy k
    rw [show d+1+k=(d+k)+1 by omega]
    have field:∀(f:Field) (off:Nat) (a:Ty),AA tab (eqB P tab d) f off a=true→∀(x y:a.T) (pre pre' vs us rest rest':List Value),pre.length=off→pre'.length=off→K ok w a x vs→K ok w a y us→
        (f.name == "_") = false ∧ (part f.type (pre ++ vs ++ rest).toArray f.offset).run P w = .ok (gF P f.type vs) w ∧ (part f.type (pre' ++ us ++ rest').toArray f.offset).run P w = .ok (gF P f.type us) w ∧
          (Op.equalIn (d+k) f.type (gF P f.type vs) (gF P f.type us)).run P w=.ok (a.eq x y) w:=by
      intro f off a hf x y pre pre' vs us rest rest' h1 h2 hx hy
      simp only [AA,Bool.and_eq_true] at hf
      obtain ⟨g1,g2,g3,g4⟩:=hf
      have g2:=Nat.eq_of_beq_eq_true g2
      split at g3
      · rename_i i hi
        have g3:=Nat.eq_of_beq_eq_true g3
        have hu:=zJ g4
        refine ⟨by simpa using g1,?_,?_,ih f.type a g4 x y vs us hx hy k⟩
        · rw [g2,←h1];exact sN hT hi (by rw [iO hx,g3]) hu
        · rw [g2,←h2];exact sN hT hi (by rw [iO hy,g3]) hu
      · cases g3
    have fields:∀(fs:List Field) (off:Nat) (a:Ty),xb tab (eqB P tab d) fs off a=true→∀(x y:a.T) (pre pre' vs us:List Value),pre.length=off→pre'.length=off→K ok w a x vs→K ok w a y us→
        (Op.eqFields (d+k) (pre++vs).toArray (pre'++us).toArray fs).run P w=.ok (a.eq x y) w:=by
      intro fs
      induction fs with
      |nil=>intro off a hf;simp [xb] at hf
      |cons f r ihr=>
        intro off a hf x y pre pre' vs us h1 h2 hx hy
        cases r with
        |nil=>
          simp only [xb] at hf
          obtain ⟨g1,g2,g3,g4⟩:=field f off a hf x y pre pre' vs us [] [] h1 h2 hx hy
          rw [List.append_nil] at g2 g3
          have hn' : f.name ≠ "_" := by simpa using g1
          simp only [Op.eqFields,if_pos hn',Sem.run_bind,g2,g3,g4,Result.andThen_ok]
          cases a.eq x y<;>simp
        |cons g r=>
          cases a with
          |pair a b=>
            simp only [xb,Bool.and_eq_true] at hf
            obtain ⟨c,e,rfl,hc,he⟩:=hx
            obtain ⟨c',e',rfl,hc',he'⟩:=hy
            obtain ⟨g1,g2,g3,g4⟩:=field f off a hf.1 x.1 y.1 pre pre' c c' e e' h1 h2 hc hc'
            have hr:=ihr (off+a.n) b hf.2 x.2 y.2 (pre++c) (pre'++c') e e' (by rw [List.length_append,h1,iO hc]) (by rw [List.length_append,h2,iO hc']) he he'
            have hn' : f.name ≠ "_" := by simpa using g1
            rw [←List.append_assoc,←List.append_assoc,Op.eqFields]
            simp only [if_pos hn',Sem.run_bind,g2,g3,g4,Result.andThen_ok]
            show _=Result.ok (a.eq x.1 y.1&&b.eq x.2 y.2) w
            cases a.eq x.1 y.1
            · simp
            · simpa using hr
          |_=>simp [xb] at hf
    have items:∀(e:Nat) (n:Nat) (a:Ty),B4 tab (eqB P tab d) e n a=true→∀(x y:a.T) (c:Nat) (pre pre' vs us:List Value),pre.length=c*P.cellsOf e→pre'.length=c*P.cellsOf e→K ok w a x vs→K ok w a y us→
        (Op.eqItems (d+k) e (P.cellsOf e) (pre++vs).toArray (pre'++us).toArray (List.range' c n)).run P w=.ok (a.eq x y) w:=by
      intro e n
      have one:∀{a:Ty},(elB tab e a.n&&eqB P tab d e a)=true→∀(x y:a.T) (c:Nat) (pre pre' vs us rest rest':List Value),pre.length=c*P.cellsOf e→pre'.length=c*P.cellsOf e→K ok w a x vs→K ok w a y us→
          (part e (pre++vs++rest).toArray (c*P.cellsOf e)).run P w=.ok (gF P e vs) w∧(part e (pre'++us++rest').toArray (c*P.cellsOf e)).run P w=.ok (gF P e us) w∧a.n=P.cellsOf e∧
            (Op.equalIn (d+k) e (gF P e vs) (gF P e us)).run P w=.ok (a.eq x y) w:=by
        intro a h x y c pre pre' vs us rest rest' h1 h2 hx hy
        obtain ⟨g1,g2⟩:=Bool.and_eq_true_iff.1 h
        unfold elB at g1
        split at g1
        · rename_i i hi
          have g1:=Nat.eq_of_beq_eq_true g1
          have hu:=zJ g2
          refine ⟨?_,?_,by rw [rm (hT e i hi),g1],ih e a g2 x y vs us hx hy k⟩
          · rw [←h1];exact sN hT hi (by rw [iO hx,g1]) hu
          · rw [←h2];exact sN hT hi (by rw [iO hy,g1]) hu
        · cases g1
      induction n with
      |zero=>intro a h;simp [B4] at h
      |succ n ihn=>
        intro a h x y c pre pre' vs us h1 h2 hx hy
        cases n with
        |zero=>
          obtain ⟨g2,g3,_,g4⟩:=one (a:=a) h x y c pre pre' vs us [] [] h1 h2 hx hy
          rw [List.append_nil] at g2 g3
          show (Op.eqItems (d+k) e (P.cellsOf e) (pre++vs).toArray (pre'++us).toArray [c]).run P w=_
          rw [Op.eqItems]
          simp only [Sem.run_bind,g2,g3,g4,Result.andThen_ok]
          cases a.eq x y<;>rfl
        |succ n=>
          cases a with
          |pair a b=>
            obtain ⟨q1,q2⟩:=Bool.and_eq_true_iff.1 h
            obtain ⟨c',e',rfl,hc,he⟩:=hx
            obtain ⟨c'',e'',rfl,hc',he'⟩:=hy
            obtain ⟨g2,g3,g5,g4⟩:=one q1 x.1 y.1 c pre pre' c' c'' e' e'' h1 h2 hc hc'
            have hr:=ihn b q2 x.2 y.2 (c+1) (pre++c') (pre'++c'') e' e'' (by rw [List.length_append,h1,iO hc,g5,Nat.add_mul,Nat.one_mul]) (by rw [List.length_append,h2,iO hc',g5,Nat.add_mul,Nat.one_mul]) he he'
            rw [←List.append_assoc,←List.append_assoc,List.range'_succ,Op.eqItems]
            simp only [Sem.run_bind,g2,g3,g4,Result.andThen_ok]
            show _=Result.ok (a.eq x.1 y.1&&b.eq x.2 y.2) w
            cases a.eq x.1 y.1
            · simp
            · simpa using hr
          |_=>simp [B4] at h
    simp only [eqB] at h
    split at h
    · rename_i hu
      obtain rfl:=Ty.b_eq h
      cases hx;cases hy
      simp only [gF,hu,List.getD_cons_zero]
      exact sI (d+k) hu x y
    · rename_i kk hu
      split at h
      · rename_i k2
        cases hx;cases hy
        simp only [gF,hu,List.getD_cons_zero]
        simp only [Op.equalIn,Sem.run_bind,run_underlying hu,Result.andThen_ok,Sem.run_pure,if_true]
        rfl
      · cases h
    · rename_i hu
      obtain rfl:=Ty.b_eq h
      cases hx;cases hy
      simp only [gF,hu,List.getD_cons_zero]
      simp only [Op.equalIn,Sem.run_bind,run_underlying hu,Result.andThen_ok,Sem.run_pure]
      rfl
    · rename_i fs hu
      simp only [Bool.and_eq_true,Bool.not_eq_true'] at h
      have hv:∀l,gF P t l=.agg l.toArray:=fun l=>by unfold gF;rw [hu]
      have hf:P.fieldsOf t=fs:=by simp [Program.fieldsOf,hu]
      rw [hv,hv,run_equalIn_struct (P:=P) w (d+k) t _ _ (by rw [hf];exact hu) h.1,hf]
      have:=fields fs.toList 0 ty h.2 x y [] [] vs us rfl rfl hx hy
      simpa using this
    · rename_i n e hu
      have hv:∀l,gF P t l=.agg l.toArray:=fun l=>by unfold gF;rw [hu]
      have hi:∃i,P.info? e=some i:=by
        have:∃i,tab e=some i:=by
          have el:∀m,elB tab e m=true→∃i,tab e=some i:=fun m hm=>by
            unfold elB at hm
            split at hm
            · exact ⟨_,by assumption⟩
            · cases hm
          match n,ty,h with
          |1,ty,h=>exact el _ (Bool.and_eq_true_iff.1 h).1
          |n+2,.pair a b,h=>exact el _ (Bool.and_eq_true_iff.1 (Bool.and_eq_true_iff.1 h).1).1
        obtain ⟨i,hi⟩:=this
        obtain ⟨info,_,h1,_⟩:=(hT e i hi).info
        exact ⟨info,h1⟩
      obtain ⟨i,hi⟩:=hi
      rw [hv,hv,run_equalIn_array (P:=P) w (d+k) _ _ hu hi,List.range_eq_range']
      have:=items e n ty h x y 0 [] [] vs us (by simp) (by simp) hx hy
      simpa using this
    · cases h
def AC:List (Nat×Ty)→Nat→Option Ty
 | [],_=>none
 |(u,ty)::r,t=>if Nat.beq u t=true then some ty else AC r t
def eqsB (P:Program) (tab:Nat→Option TI):List (Nat×Ty)→Bool
 | []=>true
 |(t,ty)::r=>(eqB P tab 50 t ty&&((match P.underlying t with|some (.struct _)=>true|some (.array _ _)=>true|_=>false)&& !P.eqGuardType P.depth t))&&eqsB P tab r
theorem B5:∀{l:List (Nat×Ty)} {t:Nat} {ty:Ty},AC l t=some ty→(t,ty)∈l
  |(u,v)::r,t,ty,h=>by
    unfold AC at h
    split at h
    · rename_i e;cases h;rw [Nat.eq_of_beq_eq_true e];exact List.mem_cons_self
    · exact List.mem_cons_of_mem _ (B5 h)
theorem B6:∀{l:List (Nat×Ty)},eqsB P tab l=true→∀p∈l,eqB P tab 50 p.1 p.2=true∧(∀l,gF P p.1 l=.agg l.toArray)∧P.eqGuardType P.depth p.1=false
  |(t,ty)::r,h,p,hp=>by
    obtain ⟨h1,h2⟩:=Bool.and_eq_true_iff.1 h
    rcases List.mem_cons.1 hp with rfl|hp
    · simp only [Bool.and_eq_true,Bool.not_eq_true'] at h1
      obtain ⟨a,b,c⟩:=h1
      refine ⟨a,fun l=>?_,c⟩
      unfold gF
      split at b
      · rename_i fs e;rw [e]
      · rename_i fs f e;rw [e]
      · cases b
    · exact B6 h2 p hp
theorem I5 (hT:eH P tab) {l:List (Nat×Ty)} (h:eqsB P tab l=true):Fe P (AC l):=by
 intro t ty ht op X Y ok w x y vs us hx hy hop
 obtain ⟨h1,hv,h3⟩:=B6 h _ (B5 ht)
 have he:=KA hT 50 t ty h1 x y vs us hx hy 9950
 rw [hv,hv] at he
 have he:(Op.equal t (.agg vs.toArray) (.agg us.toArray)).run P w=.ok (ty.eq x y) w:=he
 have hg:(eqGuard op t X Y (.agg vs.toArray) (.agg us.toArray)).run P w=.ok () w:=by
  cases op<;>simp [eqGuard,run_program,h3]
 simp only [Sem.run_bind,hg,Result.andThen_ok]
 rcases hop with rfl|rfl
 ·simp only [Go.binOp,Sem.run_bind,he,Result.andThen_ok,Sem.run_pure]
 ·simp only [Go.binOp,Sem.run_bind,he,Result.andThen_ok,Sem.run_pure]
end
inductive AK where
 |fn (f:Nat)|own
def akOk (hp:cp) (s:Option dU):AK→Bool
 | .fn f=>match s with|some (.v false [.val (.func (.func g) ⟨[]⟩ ⟨[]⟩)])=>Nat.beq f g|_=>false
 | .own=>match s with|some (.v false [.ref l])=>(match hp l with|some (.arr _ _ _)=>true|_=>false)|_=>false
def Hi (hp:cp) (as:List (Option dU)):List (Nat×AK)→Bool
 | []=>true
 |(i,k)::r=>akOk hp (as.getD i none) k&&Hi hp as r
def nu (as:List (Option dU)) (hp:cp) (i f:Nat):Bool:=match as.getD i none with
 |some (.v false [.ref l])=>(match hp l with|some (.clo g _ _)=>Nat.beq g f|_=>false)
 |_=>false
def jj:List (Nat×List (Nat×AK)×uT)→Nat→List (Option dU)→cp→Option uT
 | [],_,_,_=>none
 |(g,k,s)::r,n,as,hp=>if Nat.beq g n=true then (if Hi hp as k=true then some s else jj r n as hp) else jj r n as hp
def ig:List (Nat×List (Nat×AK)×pF)→Nat→List (Option dU)→cp→Option pF
 | [],_,_,_=>none
 |(g,k,s)::r,n,as,hp=>if Nat.beq g n=true then (if Hi hp as k=true then some s else ig r n as hp) else ig r n as hp
section
variable {P:Program} {tab:Nat→Option TI} {eqs:Nat→Option Ty} {pan:Nat}
theorem bM.nilP (hT:eH P tab) (hE:Fe P eqs):bM P ⟨tab,eqs,jj [],pan,ig []⟩:=⟨hT,hE,(fun g as hp sp h=>by cases h),(fun g as hp sp h=>by cases h)⟩
theorem B7 {Q:Nat→uT→Prop} {l:List (Nat×List (Nat×AK)×uT)} (h:∀n as hp s,jj l n as hp=some s→Q n s) {g:Nat} {k:List (Nat×AK)} {sp:uT} (hg:Q g sp):∀n as hp s,jj ((g,k,sp)::l) n as hp=some s→Q n s:=by
 intro n as hp s hh
 unfold jj at hh
 split at hh
 ·rename_i e
  split at hh
  ·cases hh
   rw [←Nat.eq_of_beq_eq_true e]
   exact hg
  ·exact h n as hp s hh
 ·exact h n as hp s hh
theorem AD {Q:Nat→pF→Prop} {l:List (Nat×List (Nat×AK)×pF)} (h:∀n as hp s,ig l n as hp=some s→Q n s) {g:Nat} {k:List (Nat×AK)} {sp:pF} (hg:Q g sp):∀n as hp s,ig ((g,k,sp)::l) n as hp=some s→Q n s:=by
 intro n as hp s hh
 unfold ig at hh
 split at hh
 ·rename_i e
  split at hh
  ·cases hh
   rw [←Nat.eq_of_beq_eq_true e]
   exact hg
  ·exact h n as hp s hh
 ·exact h n as hp s hh
theorem bM.consS {l:List (Nat×List (Nat×AK)×uT)} {lp:List (Nat×List (Nat×AK)×pF)} (h:bM P ⟨tab,eqs,jj l,pan,ig lp⟩) {g:Nat} (k:List (Nat×AK)) {sp:uT} (hg:nY P g) (hs:aB P g sp):bM P ⟨tab,eqs,jj ((g,k,sp)::l),pan,ig lp⟩:=
 ⟨h.tab,h.eqs,B7 h.spec ⟨hg,hs⟩,h.specP⟩
theorem bM.consP {l:List (Nat×List (Nat×AK)×uT)} {lp:List (Nat×List (Nat×AK)×pF)} (h:bM P ⟨tab,eqs,jj l,pan,ig lp⟩) {g:Nat} (k:List (Nat×AK)) {sp:pF} (hg:nY P g) (hs:ie P g pan sp):bM P ⟨tab,eqs,jj l,pan,ig ((g,k,sp)::lp)⟩:=
 ⟨h.tab,h.eqs,h.spec,AD h.specP ⟨hg,hs⟩⟩
theorem eN {g : FuncId} {fn : Func} (h1 : P.funcs[g]? = some fn) (h2 : fn.body.isSome = true) (h3 : (fn.name == "runtime.NumGoroutine") = false) (h4 : iX fn.ntmps (writes (fn.body.getD .skip)) = true) :
 oc P g (fn.body.getD .skip) fn.results.toList fn.ntmps:=by
 refine ⟨⟨fn,h1,?_,rfl,rfl,by simpa using h3⟩,h4⟩
 cases hb:fn.body with
 |none=>rw [hb] at h2;cases h2
 |some c=>rfl
noncomputable def stk {α:Sort _} (x:α):α:=Classical.choose (⟨x,rfl⟩:∃y,y=x)
theorem aN {α:Sort _} (x:α):stk x=x:=Classical.choose_spec (⟨x,rfl⟩:∃y,y=x)
theorem Hj {cx:Cx} (hcx:bM P cx) {inl:Inl} (hinl:jx P cx.pan inl) (hm:P.follows .mixedOrders=true) {g:FuncId} {code:Code} {res:List ResultVar} {nt:Nat} (hfn:oc P g code res nt) (h:H) {n:Nat} {si so:Sh} (hso:gM so=true)
 {F:TS si→Option (TS so)} (hev:∀x,evF cx inl code res h si so x=F x):aB P g ⟨n,si,so,F⟩:=
 Kz hcx hinl (eo hcx hm) hfn h hso fun x y hx=>by rw [hev];exact hx
theorem tB {cx:Cx} (hcx:bM P cx) {inl:Inl} (hinl:jx P cx.pan inl) (hm:P.follows .mixedOrders=true) {g:FuncId} {code:Code} {res:List ResultVar} {nt:Nat} (hfn:oc P g code res nt) (h:H) {n:Nat} {si so:Sh} (hso:gM so=true)
 {F:TS si→Option (TS so)} (hev:∀x,evF cx inl code res h si so x=F x):aB P g ⟨n,si,so,stk F⟩:=by
 rw [aN]
 exact Hj hcx hinl hm hfn h hso hev
theorem jH {cx:Cx} (hcx:bM P cx) {inl:Inl} (hinl:jx P cx.pan inl) (hm:P.follows .mixedOrders=true) {g:FuncId} {code:Code} {res:List ResultVar} {nt:Nat} (hfn:oc P g code res nt) (h:H) {n:Nat} {si so:Sh} (hso:gM so=true)
 {F:TS si→Option (TS so⊕Int)} (hev:∀x,qC cx inl code res h si so x=F x):ie P g cx.pan ⟨n,si,so,stk F⟩:=by
 rw [aN]
 exact I4 hcx hinl (eo hcx hm) hfn h hso fun x y hx=>by rw [hev];exact hx
end
end Lv
end
section
namespace Lv
variable [eR]
open Go Go.RowKit Go.ChangeShapes Go.WideShapes Go.Deep
section
variable (P:Program)
def rdF (rec:TypeId→Ty→Bool) (f:Field) (off:Nat) (ty:Ty):Bool:=Nat.beq f.offset off&&(Nat.beq (P.cellsOf f.type) ty.n&&rec f.type ty)
def B8 (rec:TypeId→Ty→Bool):List Field→Nat→Ty→Bool
 | [f],off,ty=>rdF P rec f off ty
 |f::g::r,off,.pair a b=>rdF P rec f off a&&B8 rec (g::r) (off+a.n) b
 | [],_,.unit=>true
 |_,_,_=>false
def vfs (n:Nat) (e:TypeId):List Field:=(List.range n).map fun i=>{(default:Field) with type:=e,offset:=i*P.cellsOf e}
def rdB : Nat → TypeId → Ty → Bool
  |0,_,_=>false
  |d+1,t,ty=>match P.underlying t with
    |some .bool=>ty.b .bool
    |some (.int k)=>ty.b (.int k)
    |some .string=>ty.b .str
    |some (.slice e)=>(match ty with| .sl f u=>Nat.beq e f&&(Nat.beq (P.cellsOf e) u.n&&(Nat.ble 1 u.n&&rdB d e u))|_=>false)
    |some (.struct fs)=>Nat.beq (P.cellsOf t) ty.n&&B8 (P:=P) (rdB d) fs.toList 0 ty
    |some (.array n e)=>Nat.beq (P.cellsOf t) ty.n&&B8 (P:=P) (rdB d) (vfs (P:=P) n e) 0 ty
    |_=>false
def In:(t:Ty)→t.T→Prop
 | .int k,x=>(Lit.int k x).wf=true
 | .bool,_=>True
 | .str,x=>x.size≤reachBytes
 | .val,_=>True
 | .unit,_=>True
 | .pair a b,x=>In a x.1∧In b x.2
 | .sl e t,xs=>xs.length*P.bytesOf e≤reachBytes∧∀x∈xs,In t x
end
section
variable {P:Program} {H:Type} {enc:TypeId×Value→H} {w:World}
instance KB {t:Ty}:Inhabited t.T:=⟨t.z⟩
theorem pX {e:TypeId}:∀{l:List (DataW H)},(DataW.weightsAll P e l).all (· ≤reachBytes)=true→∀d∈l,(d.weights P e).all (· ≤reachBytes)=true
 |a::r,h,d,hd=>by
  rw [DataW.weightsAll,List.all_append,Bool.and_eq_true] at h
  rcases List.mem_cons.1 hd with rfl|hd
  ·exact h.1
  ·exact pX h.2 d hd
theorem Ex {rec : TypeId → Ty → Bool} (hrec : ∀ t ty,rec t ty = true → ∀ fuel cs x,DataW.trod enc P w 0 (fun _ => true) true fuel t cs = some x → (x.1.weights P t).all (· ≤ reachBytes) = true → ∃ a : ty.T,K (· < w.heap.size) w ty a cs ∧ In P ty a) :
    ∀ (fs : List Field) (off : Nat) (ty : Ty),B8 P rec fs off ty = true → ∀ (n : Nat) (cs : List Value) (xs : List (DataW H × List MemPlace)),cs.length = off + ty.n → xs.length = fs.length →
      (∀(i:Nat) (f:Field),fs[i]?=some f→DataW.trod enc P w 0 (fun _=>true) true n f.type ((cs.drop f.offset).take (P.cellsOf f.type))=xs[i]?)→(DataW.weightsEach P (fs.map (·.type)) (xs.map (·.1))).all (· ≤reachBytes)=true→
      ∃a:ty.T,K (· <w.heap.size) w ty a (cs.drop off)∧In P ty a:=by
  have one:∀(f:Field) (off:Nat) (ty:Ty),rdF P rec f off ty=true→∀(n:Nat) (cs:List Value) (x:DataW H×List MemPlace),
      DataW.trod enc P w 0 (fun _=>true) true n f.type ((cs.drop f.offset).take (P.cellsOf f.type))=some x→(x.1.weights P f.type).all (· ≤reachBytes)=true→∃a:ty.T,K (· <w.heap.size) w ty a ((cs.drop off).take ty.n)∧In P ty a:=by
    intro f off ty h n cs x hx hw
    simp only [rdF,Bool.and_eq_true] at h
    have h1:=Nat.eq_of_beq_eq_true h.1
    have h2:=Nat.eq_of_beq_eq_true h.2.1
    rw [h1,h2] at hx
    exact hrec _ _ h.2.2 _ _ _ hx hw
  intro fs
  induction fs with
  |nil=>
    intro off ty h n cs xs hl hxl hx hw
    cases ty<;>simp only [B8] at h<;>try (cases h;done)
    refine ⟨(),?_,trivial⟩
    show cs.drop off=[]
    exact List.drop_of_length_le (by rw [hl];exact Nat.le_refl _)
  |cons f r ih=>
    intro off ty h n cs xs hl hxl hx hw
    match xs,hxl with
    | x :: xr,hxl =>
      have hx0:=hx 0 f rfl
      simp only [List.map_cons,DataW.weightsEach,List.all_append,Bool.and_eq_true] at hw
      cases r with
      |nil=>
        simp only [B8] at h
        obtain ⟨a,k1,k2⟩:=one f off ty h n cs x hx0 hw.1
        refine ⟨a,?_,k2⟩
        rw [List.take_of_length_le (by rw [List.length_drop];omega)] at k1
        exact k1
      |cons g r=>
        cases ty with
        |pair a b=>
          simp only [B8,Bool.and_eq_true] at h
          obtain ⟨u,k1,k2⟩:=one f off a h.1 n cs x hx0 hw.1
          obtain ⟨v,g1,g2⟩:=ih (off+a.n) b h.2 n cs xr (by rw [hl];simp only [Ty.n];omega) (by simpa using hxl) (fun i f' hf=>by simpa using hx (i+1) f' (by simpa using hf)) hw.2
          refine ⟨(u,v),⟨_,_,?_,k1,g1⟩,k2,g2⟩
          rw [←List.drop_drop,List.take_append_drop]
        |_=>simp [B8] at h
theorem Hk {a:Addr} (h:a.spot=none) (n:Nat):a.add n=⟨a.block,a.off+n,none⟩:=by
 unfold Addr.add
 split
 ·subst n;obtain ⟨b,o,s⟩:=a;simp at h;subst h;rfl
 ·rfl
theorem nv (e:TypeId):∀l:List (DataW H),DataW.weightsAll P e l=DataW.weightsEach P (List.replicate l.length e) l
 | []=>rfl
 |a::r=>by
  rw [List.length_cons,List.replicate_succ,DataW.weightsAll,DataW.weightsEach,nv e r]
theorem rd_ok : ∀ (d : Nat) (t : TypeId) (ty : Ty),rdB P d t ty = true → ∀ fuel cs (x : DataW H × List MemPlace),DataW.trod enc P w 0 (fun _ => true) true fuel t cs = some x → (x.1.weights P t).all (· ≤ reachBytes) = true → ∃ a : ty.T,K (· < w.heap.size) w ty a cs ∧ In P ty a := by
  intro d
  induction d with
  |zero=>intro t ty h;cases h
  | succ d ih =>
    intro t ty h fuel cs x hx hw
    simp only [rdB] at h
    split at h
    · rename_i hu
      obtain rfl:=Ty.b_eq h
      obtain ⟨b,rfl,rfl⟩:=DataW.trod_bool hu hx
      exact ⟨b,rfl,trivial⟩
    · rename_i k hu
      obtain rfl:=Ty.b_eq h
      obtain ⟨n,rfl,rfl,hn⟩:=DataW.trod_int hu hx
      exact ⟨n,rfl,hn⟩
    · rename_i hu
      obtain rfl:=Ty.b_eq h
      obtain ⟨s,rfl,rfl,hs⟩:=DataW.trod_string hu hx
      refine ⟨s,rfl,?_⟩
      have:s.data.size≤reachBytes:=by simpa [DataW.weights] using hw
      exact this
    · rename_i e hu
      cases ty<;>simp only at h<;>try (cases h;done)
      rename_i f u
      simp only [Bool.and_eq_true] at h
      obtain rfl:=Nat.eq_of_beq_eq_true h.1
      have hn:=Nat.eq_of_beq_eq_true h.2.1
      have h1:=Nat.le_of_ble_eq_true h.2.2.1
      have hr:=h.2.2.2
      rcases open_slice hu hx with ⟨rfl,rfl⟩|⟨a,len,cap,m,n,D,Pl,rfl,_,hl,hc,hm,rfl,hel⟩
      · exact ⟨([]:List u.T),⟨none,0,rfl,Nat.le_refl _,.inl rfl⟩,by simp,fun x hx=>by cases hx⟩
      · simp only [if_true] at hm
        subst hm
        simp only [DataW.weights,hu] at hw
        rw [List.all_cons,List.all_append,Bool.and_eq_true,Bool.and_eq_true] at hw
        obtain ⟨hw1,hw2,_⟩:=hw
        have hw1:=of_decide_eq_true hw1
        simp only [List.length_map,List.length_range] at hw1
        have hA:∀i,i<len→∃y:u.T,(∃cs',w.cells? 0 (a.add (i*P.cellsOf e)) (P.cellsOf e)=some cs'∧K (· <w.heap.size) w u y cs')∧In P u y:=by
          intro i hi
          obtain ⟨cs',k1,k2⟩:=hel i (by omega)
          obtain ⟨y,g1,g2⟩:=ih e u hr n cs' _ k2 (pX hw2 (D i) (List.mem_map.2 ⟨i,List.mem_range.2 hi,rfl⟩))
          exact ⟨y,⟨cs',k1,g1⟩,g2⟩
        obtain ⟨A,hA⟩:=choose_lt hA
        refine ⟨(List.range len).map A,⟨some a,m,by simp,by simpa using hl,?_⟩,?_,?_⟩
        · by_cases h0:len=0
          · left;subst h0;rfl
          · right
            have hcell:∀i,i<len→∀cs',w.cells? 0 (a.add (i*P.cellsOf e)) (P.cellsOf e)=some cs'→∀j v,cs'[j]?=some v→w.cell? ((a.add (i*P.cellsOf e)).add j)=some v:=by
              intro i hi cs' hcs j v hj
              obtain ⟨_,hlen,hget⟩:=World.cells?_some hcs
              rw [hget j (by rw [←hlen];exact (List.getElem?_eq_some_iff.1 hj).1)]
              exact hj
            have hsp:a.spot=none∧a.block<w.heap.size:=by
              obtain ⟨cs',k1,k2⟩:=(hA 0 (by omega)).1
              obtain ⟨_,hlen,_⟩:=World.cells?_some k1
              rw [hn] at hlen
              have hj:cs'[0]?=some (cs'[0]'(by omega)):=List.getElem?_eq_getElem _
              have hc:=hcell 0 (by omega) cs' k1 0 _ hj
              simp only [Nat.zero_mul,Addr.add,if_true,World.cell?] at hc
              split at hc
              · rename_i c _ _ hb
                split at hc
                · cases hc
                · rename_i hs
                  exact ⟨by simpa using hs,(Array.getElem?_eq_some_iff.1 hb).1⟩
              · cases hc
            refine ⟨a.block,a.off,by rw [←hsp.1],hsp.2,fun i y hi=>?_⟩
            have hlt:i<len:=by
              have:=(List.getElem?_eq_some_iff.1 hi).1
              simpa using this
            obtain ⟨cs',k1,k2⟩:=(hA i hlt).1
            have:y=A i:=by
              rw [List.getElem?_map,List.getElem?_range hlt] at hi
              exact (Option.some.inj hi).symm
            subst this
            refine ⟨cs',k2,fun j v hj=>?_⟩
            have:=hcell i hlt cs' k1 j v hj
            rw [Deep.add_add,hn] at this
            rw [←this]
            rw [Hk hsp.1,Nat.add_assoc]
        · simp only [List.length_map,List.length_range]
          exact Nat.le_trans (Nat.mul_le_mul_right _ (Nat.le_add_right _ _)) hw1
        · intro y hy
          obtain ⟨i,hi,rfl⟩:=List.mem_map.1 hy
          exact (hA i (List.mem_range.1 hi)).2
    · rename_i fs hu
      simp only [Bool.and_eq_true] at h
      have hn:=Nat.eq_of_beq_eq_true h.1
      obtain ⟨xs,n,_,rfl,hl,hxl,hf⟩:=DataW.trod_struct hu hx
      simp only [DataW.weights,hu] at hw
      have:=Ex (enc:=enc) (w:=w) (rec:=rdB P d) ih fs.toList 0 ty h.2 n cs xs (by rw [hl,hn];omega) (by simpa using hxl) (fun i f hi=>hf i f (by simpa using hi)) hw
      simpa using this
    · rename_i n e hu
      simp only [Bool.and_eq_true] at h
      have hn:=Nat.eq_of_beq_eq_true h.1
      obtain ⟨xs,m,_,rfl,hl,hxl,hf⟩:=DataW.trod_array hu hx
      simp only [DataW.weights,hu,nv,List.length_map,hxl] at hw
      have hty:(vfs P n e).map (·.type)=List.replicate n e:=by
        apply List.ext_getElem<;>simp [vfs]
      have:=Ex (enc:=enc) (w:=w) (rec:=rdB P d) ih (vfs P n e) 0 ty h.2 m cs xs (by rw [hl,hn];omega) (by simp [vfs,hxl]) (fun i f hi=>by
        simp only [vfs,List.getElem?_map] at hi
        rcases Nat.lt_or_ge i n with hlt|hge
        · rw [List.getElem?_range hlt] at hi
          cases hi
          exact hf i hlt
        · rw [List.getElem?_eq_none (by simpa using hge)] at hi
          cases hi) (by rw [hty];exact hw)
      simpa using this
    · cases h
def uV:Ty→List CSh→List CSh
 | .int k,r=> .int k::r
 | .bool,r=> .bool::r
 | .str,r=> .str::r
 | .val,r=> .val::r
 | .unit,r=>r
 | .pair a b,r=>uV a (uV b r)
 | .sl e t,r=> .sl e t::r
def exT {τ:Type}:(t:Ty)→t.T→(r:List CSh)→TL r τ→TL (uV t r) τ
 | .int _,x,_,y=>(x,y)
 | .bool,x,_,y=>(x,y)
 | .str,x,_,y=>(x,y)
 | .val,x,_,y=>(x,y)
 | .unit,_,_,y=>y
 | .pair a b,x,r,y=>exT a x.1 (uV b r) (exT b x.2 r y)
 | .sl _ _,x,_,y=>(x,y)
theorem AE {τ:Type} (f:Nat→Nat):∀(t:Ty) (x:t.T) (r:List CSh) (y:TL r τ),ofC f (uV t r) (exT t x r y)=(t.ex x++(ofC f r y).1,(ofC f r y).2)
 | .int _,_,_,_=>rfl
 | .bool,_,_,_=>rfl
 | .str,_,_,_=>rfl
 | .val,_,_,_=>rfl
 | .unit,_,_,_=>rfl
 | .pair a b,x,r,y=>by
  show ofC f (uV a (uV b r)) (exT a x.1 (uV b r) (exT b x.2 r y))=_
  rw [AE f a,AE f b]
  simp [Ty.ex]
 | .sl _ _,_,_,_=>rfl
@[reducible] def rb : Nat → List (Ty × Bool) → List (Nat × SSh)
 |_,[]=> []
 |i,(t,a)::r=>(i,.v a (uV t []))::rb (i+1) r
@[reducible] def yf : List (Ty × Bool) → Type
 | []=>Unit
 |(t,_)::r=>t.T×yf r
def xc:(i:Nat)→(l:List (Ty×Bool))→yf l→TSl (rb i l) Unit
 |_,[],_=>()
 |i,(t,_)::r,x=>exT t x.1 [] (xc (i+1) r x.2)
def Ey (P:Program):(l:List (Ty×Bool))→yf l→Prop
 | [],_=>True
 |(t,_)::r,x=>In P t x.1∧Ey P r x.2
def argV:Bool→Nat→Value→Prop
 |true,_,v=>∃cs,v=.agg cs
 |false,n,v=>n=1∧v.cells.toList=[v]
def Hl (ok:Nat→Prop) (w:World):(l:List (Ty×Bool))→yf l→List Value→Prop
 | [],_,vs=>vs=[]
 |(t,a)::r,x,vs=>∃v us,vs=v::us∧K ok w t x.1 v.cells.toList∧argV a t.n v∧Hl ok w r x.2 us
theorem B9 {ok : Nat → Prop} (f : Nat → Nat) (env : Env) : ∀ (l : List (Ty × Bool)) (i : Nat) (x : yf l) (t : Nat) (s : dU),(ja f env (rb i l) (xc i l x)).1 t = some s →
    env t=some s∨(i≤t∧∃(ty:Ty) (a:Bool) (y:ty.T),s=.v a (ty.ex y)∧∀w vs,Hl ok w l x vs→∃v,vs[t-i]?=some v∧K ok w ty y v.cells.toList∧argV a ty.n v)
  | [],_,_,_,_,h=> .inl h
  |(ty,a)::r,i,x,t,s,h=>by
    have e:ofC f (uV ty []) (exT ty x.1 [] (xc (i+1) r x.2))=(ty.ex x.1++ [],xc (i+1) r x.2):=AE f ty x.1 [] _
    have h:put (ja f env (rb (i+1) r) (ofC f (uV ty []) (exT ty x.1 [] (xc (i+1) r x.2))).2).1 i (some (.v a (ofC f (uV ty []) (exT ty x.1 [] (xc (i+1) r x.2))).1)) t=some s:=h
    rw [e,List.append_nil] at h
    unfold Lv.put at h
    split at h
    · rename_i ht
      have:=Nat.eq_of_beq_eq_true ht
      subst this
      cases h
      refine .inr ⟨Nat.le_refl _,ty,a,x.1,rfl,fun w vs hk=>?_⟩
      obtain ⟨v,us,rfl,k1,k2,_⟩:=hk
      exact ⟨v,by simp,k1,k2⟩
    · rename_i ht
      rcases B9 f env r (i+1) x.2 t s h with k|⟨k1,ty',a',y,k2,k3⟩
      · exact .inl k
      · refine .inr ⟨by omega,ty',a',y,k2,fun w vs hk=>?_⟩
        obtain ⟨v,us,rfl,_,_,g⟩:=hk
        obtain ⟨v',g1,g2⟩:=k3 w us g
        refine ⟨v',?_,g2⟩
        rw [show t-i=(t-(i+1))+1 by omega]
        simpa using g1
theorem Hm {ok : Nat → Prop} {w : World} {l : List (Ty × Bool)} {x : yf l} {args : Array Value} (h : Hl ok w l x args.toList) (ρ : Nat → Value) (nx : Nat) : dM ρ ok w nx (fO ⟨rb 0 l,[],[],0,[]⟩ id (xc 0 l x)) args := by
  intro t s hs
  rcases B9 id (fun _=>none) l 0 x t s hs with k|⟨_,ty,a,y,rfl,k⟩
  · cases k
  · obtain ⟨v,h1,h2,h3⟩:=k w _ h
    refine ⟨v,by simpa using h1,?_⟩
    have hex:=pL (ρ:=ρ) (nx:=nx) h2
    cases a with
    |true=>
      obtain ⟨cs,rfl⟩:=h3
      exact ⟨cs.toList,by simp,hex⟩
    |false=>
      obtain ⟨h3,h4⟩:=h3
      rw [h4] at hex
      have hl:=C2 ty y
      rw [h3] at hl
      match hc:ty.ex y,hl with
      | [c],_=>
        rw [hc] at hex
        obtain ⟨u,e,hu⟩:=hex.one
        cases e
        exact ⟨c,rfl,hu⟩
def Ca (P:Program):List TypeId→List (Ty×Bool)→Bool
  | [],[]=>true
  | t :: ts,(ty,a) :: l => (rdB P 50 t ty && ((match P.underlying t with | some (.struct _) => a | some .bool | some (.int _) | some .string | some (.slice _) => !a && Nat.beq ty.n 1 | _ => false) &&
      (P.readableRec t&&Nat.blt t P.types.size)))&&Ca P ts l
  |_,_=>false
theorem I6 {t:TypeId} {v:Value} {n base:Nat} {a:Bool} (hv:Value.okWide P w .any base t v) (h:(match P.underlying t with|some (.struct _)=>a|some .bool|some (.int _)|some .string|some (.slice _)=> !a&&Nat.beq n 1|_=>false)=true):argV a n v:=by
 unfold Value.okWide at hv
 split at h
 ·rename_i fs hu
  subst h
  rw [hu] at hv
  obtain ⟨cs,e,_⟩:=hv
  exact ⟨cs,e⟩
 all_goals (try (cases h;done))
 all_goals
  rename_i hu
  rw [hu] at hv
  simp only [Bool.and_eq_true,Bool.not_eq_true'] at h
  obtain ⟨rfl,hn⟩:=h
  refine ⟨Nat.eq_of_beq_eq_true hn,?_⟩
  simp only [Cell.okWide,hu,Cell.ok] at hv
  cases v<;>simp_all [Value.cells]
theorem sO {base:Nat}:∀{ts:List TypeId} {l:List (Ty×Bool)} {vs:List Value} {ds:List (DataW H)} {ps:List MemPlace},Ca P ts l=true→DataW.TrodAll enc P w 0 (fun _=>true) true ts vs ds ps→
    (∀(j:Nat) (t:TypeId) (v:Value),ts[j]?=some t→vs[j]?=some v→Value.okWide P w .any base t v)→(DataW.weightsEach P ts ds).all (· ≤reachBytes)=true→∃x:yf l,Hl (· <w.heap.size) w l x vs∧Ey P l x
  | [],l,vs,ds,ps,hb,h,hv,hw=>by
    obtain ⟨rfl,rfl,rfl⟩:=trodAll_nil h
    match l,hb with
    | [],_=>exact ⟨(),rfl,trivial⟩
  | t :: ts,l,vs,ds,ps,hb,h,hv,hw => by
    obtain ⟨v,vs,d,ds,p,q,rfl,rfl,rfl,⟨fuel,h1⟩,h2⟩:=trodAll_cons h
    match l,hb with
    |(ty,a)::l,hb=>
      simp only [Ca,Bool.and_eq_true] at hb
      rw [DataW.weightsEach,List.all_append,Bool.and_eq_true] at hw
      obtain ⟨x,k1,k2⟩:=rd_ok 50 t ty hb.1.1 fuel _ _ h1 hw.1
      obtain ⟨y,g1,g2⟩:=sO hb.2 h2 (fun j t' v' e1 e2=>hv (j+1) t' v' (by simpa using e1) (by simpa using e2)) hw.2
      exact ⟨(x,y),⟨v,vs,rfl,k1,I6 (hv 0 t v rfl rfl) hb.1.2.1,g1⟩,k2,g2⟩
theorem rc (hl:laidOutB P=true) {w':World} (hb:Below w.heap.size w w'):∀{ts:List TypeId} {l:List (Ty×Bool)} {vs:List Value} {ds:List (DataW H)} {ps:List MemPlace},Ca P ts l=true→DataW.TrodAll enc P w 0 (fun _=>true) true ts vs ds ps→
    DataW.TrodAll enc P w' 0 (fun b=>decide (b<w.heap.size)) true ts vs ds ps
  | [],l,vs,ds,ps,hp,h=>by
    obtain ⟨rfl,rfl,rfl⟩:=trodAll_nil h
    rfl
  | t :: ts,l,vs,ds,ps,hp,h => by
    obtain ⟨v,vs,d,ds,p,q,rfl,rfl,rfl,h1,h2⟩:=trodAll_cons h
    match l,hp with
    |(ty,a)::l,hp=>
      simp only [Ca,Bool.and_eq_true] at hp
      refine ⟨p,q,Below.trod hl hp.1.2.2.1 (Nat.le_of_ble_eq_true hp.1.2.2.2) h1 hb ?_,rc hl hb hp.2 h2,rfl⟩
      obtain ⟨m,hm⟩:=h1
      exact DataW.trod_lt m _ _ _ hm
def AF:Sh:=⟨[(0,.v false [.bool])],[],[],1000,[]⟩
theorem Fy {g:FuncId} {l:List (Ty×Bool)} {F:TS ⟨rb 0 l,[],[],0,[]⟩→Option (TS AF)} (hs:aB P g ⟨l.length,⟨rb 0 l,[],[],0,[]⟩,AF,F⟩) {x:yf l} (hF:F (xc 0 l x)=some (true,())) {args:Array Value} (hn:args.size=l.length)
 (h:Hl (· <w.heap.size) w l x args.toList) (hg:Glb (· <w.heap.size) w):Calls P g args w fun e w'=>e=.returned (.bool true)∧Below w.heap.size w w':=by
 have hp:dL ⟨rb 0 l,[],[],0,[]⟩ id (xc 0 l x)=fun _=>none:=rfl
 refine (hs _ _ hF (fun _=> .bool true) (· <w.heap.size) w args hn ?_ ?_).mono ?_
 ·rw [hp]
  exact ⟨fun l o h=>(by cases h),fun b h=>h,fun l o b h=>(by cases h),fun l m o p b h=>(by cases h),hg⟩
 ·exact Hm h _ _
 ·rintro e w' ⟨v,ρ',ok',rfl,_,hE,hX⟩
  obtain ⟨v',e1,c,e2,e3⟩:=hE 0 (.v false [.bool true]) rfl
  cases e2
  have e3:v'=.bool true:=e3
  subst e3
  have:v=.bool true:=by simpa using e1
  subst this
  refine ⟨rfl,hX.os,hX.tape,hX.output.1,hX.size,fun k hk=>hX.same k hk fun l o ho=>?_⟩
  rw [hp] at ho
  cases ho
end
end Lv
end
section
namespace Lv
variable [eR]
open Go Go.RowKit
section
variable {P:Program}
end
end Lv
namespace Lv
variable [eR]
open Go Go.RowKit
section
variable {w:World} {e size:Nat} {v:Value} {n:Nat} {xs:List Value}
end
end Lv
namespace Lv
variable [eR]
open Go Go.RowKit
end Lv
end
section
namespace Lv
variable [eR]
open Go Go.RowKit
def seqs:List (Code×H)→Code→Code
 | [],k=>k
 |(c,_)::r,k=> .seq c (seqs r k)
noncomputable def Hn (cx:Cx) (inl:Inl) (R:Type):List (Code×H)→St→(Out→Option R)→Option R
  | [],st,κ=>κ (.normal st)
  |(c,h)::r,st,κ=>evC cx inl R c h st fun o=>match o with
    | .normal st'=>Hn cx inl R r st' κ
    | .exit id st'=>κ (.exit id st')
    | .ret st'=>κ (.ret st')
    | .pan n st'=>κ (.pan n st')
def qn:List (Code×H)→List Nat
 | []=> []
 |(c,_)::r=>writes c++qn r
section
variable {P:Program} {cx:Cx} {inl:Inl}
theorem Cb (hcx : bM P cx) (hinl : jx P cx.pan inl) (hdr : ji P cx) {R : Type} {K : Code} {κ : Out → Option R} {r : R} {Q : Exit → Act → World → Prop} {W : List Nat} : ∀ (l : List (Code × H)) (st : St),(∀ t ∈ qn l,t ∈ W) → Hn cx inl R l st κ = some r → ∀ ρ ok w (a : Act),
    dB ρ ok w st.hp st.nx→dM ρ ok w st.nx st.env a.tmps→(∀t∈W,t<a.tmps.size)→
    (∀st' a' w',κ (.normal st')=some r→j6 st ρ ok w a W st' a' w'→K.wp P Q a' w')→
    (∀o e a' w',(∀s,o≠.normal s)→κ o=some r→Ke o e→j6 st ρ ok w a W o.st a' w'→Q e a' w')→
    iV cx.pan (fun n st=>κ (.pan n st)) r st ρ ok w a W Q→(seqs l K).wp P Q a w
  | [],st,hl,h,ρ,ok,w,a,hH,hE,hW,hK,hQ,hQp=>hK st a w h ⟨ρ,ok,[],rfl,hH,hE,fd.refl fun l o ho=>(hH.ob l o ho).1,Tm.refl _ _⟩
  |(c,hh)::l,st,hl,h,ρ,ok,w,a,hH,hE,hW,hK,hQ,hQp=>by
    have hc:∀t∈writes c,t∈W:=fun t ht=>hl t (List.mem_append_left _ ht)
    refine wp_seq (jA hcx hinl hdr c R hh st _ r h ρ ok w a hH hE (fun t ht=>hW t (hc t ht)) _ ?_ (hQp.mono hc))
    intro o e a' w' h1 h2 h3
    obtain ⟨ρ',ok',D,g1,g2,g3,g4,g5⟩:=h3
    cases o with
    |pan n st'=>cases h2
    |exit id st'=>cases h2;exact hQ (.exit id st') _ _ _ (fun s e=>by cases e) h1 rfl ⟨ρ',ok',D,g1,g2,g3,g4,g5.mono hc⟩
    |ret st'=>cases h2;exact hQ (.ret st') _ _ _ (fun s e=>by cases e) h1 rfl ⟨ρ',ok',D,g1,g2,g3,g4,g5.mono hc⟩
    |normal st'=>
      cases h2
      have g1:st'.dt=D++st.dt:=g1
      refine Cb hcx hinl hdr l st' (fun t ht=>hl t (List.mem_append_right _ ht)) h1 ρ' ok' w' a' g2 g3 (fun t ht=>by rw [g5.size];exact hW t ht) ?_ ?_ (hQp.next g1 g4 (g5.mono hc) (fun _ h=>h) (fun _ h=>h))
      · rintro st2 a2 w2 k1 ⟨ρ2,ok2,D2,j1,j2,j3,j4,j5⟩
        exact hK st2 a2 w2 k1 ⟨ρ2,ok2,D2++D,by rw [j1,g1,List.append_assoc],j2,j3,g4.trans j4,(g5.mono hc).trans j5 (fun _ h=>h) (fun _ h=>h)⟩
      · rintro o2 e2 a2 w2 k0 k1 k2 ⟨ρ2,ok2,D2,j1,j2,j3,j4,j5⟩
        exact hQ o2 e2 a2 w2 k0 k1 k2 ⟨ρ2,ok2,D2++D,by rw [j1,g1,List.append_assoc],j2,j3,g4.trans j4,(g5.mono hc).trans j5 (fun _ h=>h) (fun _ h=>h)⟩
structure Dk (om od:Oper) (f p q t:Nat):Prop where
 mkf:om.op=.makeFunc (.func f) #[] #[.tmp p,.tmp q]
 mkd:om.dst=some t
 mkg:om.guard=none
 df:od.op=.defer {callee:=.value (.tmp t),args:=#[],argTypes:=#[]}
 dfd:od.dst=none
 dfg:od.guard=none
theorem I7 {om od:Oper} {f p q t i:Nat} (h:Dk om od f p q t) {a:Act} {w:World} {Q:Exit→Act→World→Prop} (ht:t<a.tmps.size)
 (hQ:Q .normal {tmps:=a.tmps.setIfInBounds t (.func (.func f) #[] #[a.eval (.tmp p),a.eval (.tmp q)]),defers:=⟨.fn (.func f) #[a.eval (.tmp p),a.eval (.tmp q)],#[]⟩::a.defers} w):(Code.region i #[om,od] false).wp P Q a w:=by
 refine wp_region_list ?_
 show wpList P #[om,od] Q [om,od] a w
 unfold wpList
 rw [if_pos (by simp [Region.wanted,h.mkg])]
 refine .inl ?_
 unfold Oper.wp
 have h1:(execOp a.eval om).run P w=.ok (.value (.func (.func f) #[] #[a.eval (.tmp p),a.eval (.tmp q)])) w:=by
  simp [execOp,h.mkf,Instr.makeFunc]
 rw [h1,Oper.upon_value]
 unfold wpList
 rw [if_pos (by simp [Region.wanted,h.dfg])]
 refine .inl ?_
 unfold Oper.wp
 have hev:(a.put om.dst (.func (.func f) #[] #[a.eval (.tmp p),a.eval (.tmp q)])).eval (.tmp t)=.func (.func f) #[] #[a.eval (.tmp p),a.eval (.tmp q)]:=by
  simp [h.mkd,Act.put,Act.eval,Array.getD_eq_getD_getElem?,ht]
 have h2:(execOp (a.put om.dst (.func (.func f) #[] #[a.eval (.tmp p),a.eval (.tmp q)])).eval od).run P w=.ok (.defer ⟨.fn (.func f) #[a.eval (.tmp p),a.eval (.tmp q)],#[]⟩) w:=by
  simp only [execOp,h.df,resolve,hev,Deferred.ofValue,Sem.run_bind,Sem.run_pure,Result.andThen_ok,List.map_toArray,List.map_nil]
  simp
 rw [h2,Oper.upon_defer]
 unfold wpList
 simp only [h.mkd,h.dfd,Act.put]
 exact hQ
structure Cc (or:Oper) (tr:Nat):Prop where
 op:∃ty,or.op=.call {callee:=.builtin .recover,args:=#[],argTypes:=ty}
 dst:or.dst=some tr
 g:or.guard=none
noncomputable def zK (cx:Cx) (inl:Inl) (G:Code) (hG:H) (p q tr:Nat) (res:List ResultVar) (so:Sh) (st2:St) (v:Value):Option (TS so):=
  evC cx inl (TS so) G hG ⟨Lv.put (fl [st2.env p,st2.env q]) tr (some (.v false [.val v])),st2.hp,st2.nx,st2.dt⟩ fun o => match o with
      | .normal st3=>evF.fin cx res so ⟨st2.env,st3.hp,st3.nx,st3.dt⟩
      | .ret st3=>evF.fin cx res so ⟨st2.env,st3.hp,st3.nx,st3.dt⟩
      | .exit _ _=>none
      | .pan _ _=>none
noncomputable def Ez (cx:Cx) (inl:Inl) (pre:List (Code×H)) (E:Code) (hE:H) (G:Code) (hG:H) (p q t tr:Nat) (res:List ResultVar) (si so:Sh) (x:TS si):Option (TS so):=
 Hn cx inl (TS so) pre ⟨fO si id x,dL si id x,1000,[]⟩ fun o=>match o with
 | .normal st=>evC cx inl (TS so) E hE ⟨Lv.put st.env t none,st.hp,st.nx,st.dt⟩ fun o=>match o with
  | .normal st2=>zK cx inl G hG p q tr res so st2 .nilIface
  | .ret st2=>zK cx inl G hG p q tr res so st2 .nilIface
  | .pan n st2=>zK cx inl G hG p q tr res so st2 (E8 cx.pan n)
  | .exit _ _=>none
 | .ret st=>evF.fin cx res so st
 | .exit _ _=>none
 | .pan _ _=>none
theorem Cd {or:Oper} {tr:Nat} (h:Cc or tr) (a:Act) (w:World):(execOp a.eval or).run P w=.ok .recover w:=by
 obtain ⟨⟨ty,ho⟩,_,_⟩:=h
 simp only [execOp,ho,resolve,Sem.run_bind,Sem.run_pure,Result.andThen_ok,invoke]
 rfl
theorem Ce {or:Oper} {tr ir:Nat} (h:Cc or tr) {G:Code} {Q:Exit→Act→List Frame→World→Prop} {a:Act} {cs cs':List Frame} {w:World} {v:Value}
 (hv:recoverD cs=some (v,cs')∨(recoverD cs=none∧v=.nilIface∧cs'=cs)) (hG:G.wpS P Q (a.put (some tr) v) cs' w):(Code.seq (.region ir #[or] false) G).wpS P Q a cs w:=by
 refine wpS_seq (wpS_region ?_)
 show wpOpsS P #[or] _ [0] a cs w
 have hw:Region.wanted or (yielded #[or] a.tmps)=true:=by simp [Region.wanted,h.g]
 have h0:(#[or])[0]?=some or:=rfl
 unfold wpOpsS
 rw [h0]
 simp only [hw,if_true,Cd h]
 rcases hv with hv|⟨hv,rfl,rfl⟩
 ·rw [hv]
  simp only [wpOpsS,h.dst]
  exact hG
 ·rw [hv]
  simp only [wpOpsS,h.dst]
  exact hG
theorem KC (hcx:bM P cx) (hinl:jx P cx.pan inl) (hdr:ji P cx) {f:FuncId} {gf:Func} (hf:P.funcs[f]?=some gf) {ir tr:Nat} {or:Oper} {G:Code} (hb:gf.body=some (.seq (.region ir #[or] false) G)) (hr:Cc or tr) (hres:gf.results=#[])
 (hW:iX gf.ntmps (tr::writes G)=true) {hG:H} {p q:Nat} {res:List ResultVar} {so:Sh} {st2:St} {v:Value} {y:TS so} (hev:zK cx inl G hG p q tr res so st2 v=some y)
 {u:FrameMode} (hm:(u=.returning∧v=.nilIface)∨∃n,u=.panicking (Aw cx.pan n)∧v=E8 cx.pan n)
 {ρ ok w} {vp vq:Value} (hH:dB ρ ok w st2.hp st2.nx) (hE:dM ρ ok w st2.nx (fl [st2.env p,st2.env q]) #[vp,vq]):
 CallsD P f #[vp,vq] u w fun e u2 w'=>∃rv,e=.returned rv∧settle u2=.returning∧∃(st3:St) (ρ':Nat→Value) (ok':Nat→Prop) (D:List Nat),st3.dt=D++st2.dt∧evF.fin cx res so ⟨st2.env,st3.hp,st3.nx,st3.dt⟩=some y∧dB ρ' ok' w' st3.hp st3.nx∧fd ρ ok w st2.hp st2.nx D ρ' ok' w' st3.hp st3.nx:=by
 refine callsD_of_wpS hf hb fun c₀ cs hu=>?_
 have hvo:v.oneCell'=true:=by rcases hm with ⟨_,rfl⟩|⟨n,_,rfl⟩<;>rfl
 obtain ⟨cs',u2,hcs,hset,hrec⟩:∃cs' u2,cs'={c₀ with mode:=u2}::cs∧settle u2=.returning∧(recoverD (c₀::cs)=some (v,cs')∨(recoverD (c₀::cs)=none∧v=.nilIface∧cs'=c₀::cs)):=by
  rcases hm with ⟨rfl,rfl⟩|⟨n,rfl,rfl⟩
  ·refine ⟨c₀::cs,.returning,by rw [←hu],rfl,.inr ⟨?_,rfl,rfl⟩⟩
   simp [recoverD,hu]
  ·refine ⟨_,.panicking [{v:=E8 cx.pan n,recovered:=true}],rfl,rfl,.inl ?_⟩
   simp [recoverD,hu,Aw]
 refine Ce hr hrec (wpS_of_wp ?_)
 have hsz:(#[vp,vq]++Array.replicate (gf.ntmps-2) undef).size=max 2 gf.ntmps:=by simp;omega
 have hlt:∀t,t=tr∨t∈writes G→t<max 2 gf.ntmps:=fun t ht=>by
  have:=iY.1 hW t (by rcases ht with rfl|ht;exact List.mem_cons_self;exact List.mem_cons_of_mem _ ht)
  omega
 unfold zK at hev
 have hE1:dM ρ ok w st2.nx (fl [st2.env p,st2.env q]) (#[vp,vq]++Array.replicate (gf.ntmps-2) undef):=by
  intro t s hs
  obtain ⟨v',h1,h2⟩:=hE t s hs
  refine ⟨v',?_,h2⟩
  rw [Array.getElem?_append_left (Array.getElem?_eq_some_iff.1 h1).1]
  exact h1
 refine jA hcx hinl hdr G (TS so) hG _ _ y hev ρ ok w _ hH ?_ ?_ _ ?_ ?_
 ·have:=dM.put (d:=some tr) (v:=v) (s:=some (.v false [.val v])) hE1 (fun x hx=>by cases hx;exact ⟨_,rfl,rfl,hvo⟩) (fun t ht=>by cases ht;exact hsz.symm▸hlt tr (.inl rfl))
  exact this
 ·intro t ht
  show t<(Array.setIfInBounds _ _ _).size
  rw [Array.size_setIfInBounds]
  exact hsz.symm▸hlt t (.inr ht)
 ·rintro o e a' w' h1 h2 ⟨ρ',ok',D,g1,g2,g3,g4,g5⟩
  have hres':(results gf a'.tmps).run P w'=.ok (.tuple #[]) w':=by
   unfold results
   rw [hres]
   simp
  have hdef:a'.defers=[]:=g5.defers
  cases o with
  |normal st3=>cases h2;exact ⟨hdef,u2,hcs,_,hres',_,rfl,hset,st3,ρ',ok',D,g1,h1,g2,g4⟩
  |ret st3=>cases h2;exact ⟨hdef,u2,hcs,_,hres',_,rfl,hset,st3,ρ',ok',D,g1,h1,g2,g4⟩
  |exit id st3=>cases h1
  |pan n st3=>cases h1
 ·intro n st' a' w' h1
  cases h1
theorem def_ok (hcx : bM P cx) (hinl : jx P cx.pan inl) (hdr : ji P cx) {g : FuncId} {fn : Func} (hg : P.funcs[g]? = some fn) {pre : List (Code × H)} {i : Nat} {om od : Oper} {E : Code} (hb : fn.body = some (seqs pre (.seq (.region i #[om,od] false) E)))
    {f p q t : Nat} (hd : Dk om od f p q t) {gf : Func} (hf : P.funcs[f]? = some gf) (hgn : gf.name ≠ "runtime.NumGoroutine") {ir tr : Nat} {or : Oper} {G : Code} (hgb : gf.body = some (.seq (.region ir #[or] false) G)) (hr : Cc or tr) (hres : gf.results = #[])
    (hWg:iX gf.ntmps (tr::writes G)=true) (hWf:iX fn.ntmps (t::(qn pre++writes E))=true) (hpq:gZ [p,q] (t::writes E)=true)
    {hE hG:H} {n:Nat} {si so:Sh} (hso:gM so=true) {F:TS si→Option (TS so)} (hF:∀x y,F x=some y→Ez cx inl pre E hE G hG p q t tr fn.results.toList si so x=some y):aB P g ⟨n,si,so,F⟩:=by
  intro x y hxy ρ ok w args _ hH hE0
  have hev:=hF x y hxy
  unfold Ez at hev
  have hlt:∀u,(u=t∨u∈qn pre∨u∈writes E)→u<fn.ntmps:=fun u hu=>iY.1 hWf u (by
    rcases hu with rfl|hu|hu
    · exact List.mem_cons_self
    · exact List.mem_cons_of_mem _ (List.mem_append_left _ hu)
    · exact List.mem_cons_of_mem _ (List.mem_append_right _ hu))
  have hap:=io.1 hpq
  have hpt:p≠t:=fun e=>hap p (by simp) (by simp [e])
  have hqt:q≠t:=fun e=>hap q (by simp) (by simp [e])
  have hpE:p∉writes E:=fun h=>hap p (by simp) (List.mem_cons_of_mem _ h)
  have hqE:q∉writes E:=fun h=>hap q (by simp) (List.mem_cons_of_mem _ h)
  -- behind all: the results
  have fin:∀(tm:Array Value) (w':World) (st3:St) (ρ3:Nat→Value) (ok3:Nat→Prop) (D:List Nat),evF.fin cx fn.results.toList so st3=some y→dB ρ3 ok3 w' st3.hp st3.nx→dM ρ3 ok3 w' st3.nx st3.env tm→fd ρ ok w (dL si id x) 1000 D ρ3 ok3 w' st3.hp st3.nx→
      ∃v,(results fn tm).run P w'=.ok v w'∧∃u ρ' ok',Ending.returned v=.returned u∧dB ρ' ok' w' (dL so id y) so.nn∧dM ρ' ok' w' so.nn (fO so id y) #[u]∧pR (dL si id x) ρ ok w (dL so id y) ρ' ok' w':=by
    intro tm w' st3 ρ3 ok3 D h1 h2 h3 h4
    obtain ⟨s,hs⟩:=vc h1
    obtain ⟨v,k1,k2⟩:=Dj (P:=P) (fn:=fn) hcx.tab h2 h3 hs
    exact ⟨v,k1,Az hso h1 h2 (fun s' hs'=>by rw [hs] at hs';cases hs';exact k2) h4⟩
  have hsz:∀u,u<fn.ntmps→u<(args++Array.replicate (fn.ntmps-args.size) undef).size:=fun u hu=>by
    simp only [Array.size_append,Array.size_replicate];omega
  refine calls_of_wp_defers hg hb ?_
  refine Cb hcx hinl hdr (W:=qn pre) pre _ (fun _ h=>h) hev ρ ok w _ hH ?_ (fun u hu=>hsz u (hlt u (.inr (.inl hu)))) ?_ ?_ ?_
  · intro u s hs
    obtain ⟨v,k1,k2⟩:=hE0 u s hs
    refine ⟨v,?_,k2⟩
    show (args++_)[u]?=some v
    rw [Array.getElem?_append_left (Array.getElem?_eq_some_iff.1 k1).1]
    exact k1
  · rintro st a w1 hκ ⟨ρ1,ok1,D1,g1,g2,g3,g4,g5⟩
    have hta:t<a.tmps.size:=by rw [g5.size];exact hsz t (hlt t (.inl rfl))
    refine wp_seq (I7 hd hta ?_)
    show E.wp P _ _ w1
    generalize hvp:a.eval (.tmp p)=vp
    generalize hvq:a.eval (.tmp q)=vq
    have had:a.defers=[]:=g5.defers
    -- the closure,and the results behind it
    have leaves:∀(st2:St) (a2:Act) (w2:World) (v:Value) (u:FrameMode),((u=.returning∧v=.nilIface)∨∃n,u=.panicking (Aw cx.pan n)∧v=E8 cx.pan n)→zK cx inl G hG p q tr fn.results.toList so st2 v=some y→
        j6 ⟨Lv.put st.env t none,st.hp,st.nx,st.dt⟩ ρ1 ok1 w1 {tmps:=a.tmps.setIfInBounds t (.func (.func f) #[] #[vp,vq]),defers:=⟨.fn (.func f) #[vp,vq],#[]⟩::a.defers} (writes E) st2 a2 w2→
        Leaves P fn a2.tmps (fun e w'=>∃v ρ' ok',e=.returned v∧dB ρ' ok' w' (dL so id y) so.nn∧dM ρ' ok' w' so.nn (fO so id y) #[v]∧pR (dL si id x) ρ ok w (dL so id y) ρ' ok' w') a2.defers u w2:=by
      rintro st2 a2 w2 v u hm hclo ⟨ρ2,ok2,D2,j1,j2,j3,j4,j5⟩
      have hdf:a2.defers=[⟨.fn (.func f) #[vp,vq],#[]⟩]:=by rw [j5.defers];simp [had]
      have tmp:∀z vz,z≠t→z∉writes E→a.eval (.tmp z)=vz→∀s,st2.env z=some s→∃v',(#[vz]:Array Value)[0]?=some v'∧fM ρ2 ok2 w2 st2.nx s v':=by
        intro z vz hz hzE hvz s hs
        obtain ⟨v',k1,k2⟩:=j3 z s hs
        have h1:a2.tmps[z]?=(a.tmps.setIfInBounds t (.func (.func f) #[] #[vp,vq]))[z]?:=j5.same z hzE
        rw [Array.getElem?_setIfInBounds_ne (fun e=>hz e.symm)] at h1
        rw [h1] at k1
        have:vz=v':=by rw [←hvz];simp [Act.eval,Array.getD_eq_getD_getElem?,k1]
        subst this
        exact ⟨vz,rfl,k2⟩
      have hEc:dM ρ2 ok2 w2 st2.nx (fl [st2.env p,st2.env q]) #[vp,vq]:=by
        intro z s hs
        match z,hs with
        |0,hs=>
          obtain ⟨v',k1,k2⟩:=tmp p vp hpt hpE hvp s hs
          have:vp=v':=by simpa using k1
          exact ⟨vp,rfl,this▸k2⟩
        |1,hs=>
          obtain ⟨v',k1,k2⟩:=tmp q vq hqt hqE hvq s hs
          have:vq=v':=by simpa using k1
          exact ⟨vq,rfl,this▸k2⟩
        |z+2,hs=>cases hs
      rw [hdf]
      have hent:nY P f:=⟨gf,hf,by rw [hgb];rfl,hgn⟩
      refine ⟨by rcases hm with ⟨rfl,_⟩|⟨n,rfl,_⟩<;>(intro e;cases e),.func f,#[vp,vq],f,#[vp,vq],rfl,?_,?_⟩
      · show (invoke (.fn (.func f) #[vp,vq]) #[]).run P w2=_
        simp only [invoke]
        rw [nZ hent]
        simp
      · refine (KC hcx hinl hdr hf hgb hr hres hWg hclo hm j2 hEc).mono ?_
        rintro e u2 w3 ⟨rv,rfl,hset,st3,ρ3,ok3,D3,q1,q2,q3,q4⟩
        show Leaves P fn a2.tmps _ [] (settle u2) w3
        rw [hset]
        exact fin a2.tmps w3 ⟨st2.env,st3.hp,st3.nx,st3.dt⟩ ρ3 ok3 _ q2 q3 (j3.move q4 j2) ((g4.trans j4).trans q4)
    refine jA hcx hinl hdr E (TS so) hE ⟨Lv.put st.env t none,st.hp,st.nx,st.dt⟩ _ y hκ ρ1 ok1 w1 _ g2 ?_ ?_ _ ?_ ?_
    · exact dM.put (d:=some t) (s:=none) (v:=.func (.func f) #[] #[vp,vq]) g3 (fun x hx=>by cases hx) (fun u hu=>by cases hu;exact hta)
    · intro u hu
      show u<(Array.setIfInBounds _ _ _).size
      rw [Array.size_setIfInBounds,g5.size]
      exact hsz u (hlt u (.inr (.inr hu)))
    · intro o e a2 w2 k1 k2 k3
      cases o with
      |normal st2=>cases k2;exact leaves st2 a2 w2 _ .returning (.inl ⟨rfl,rfl⟩) k1 k3
      |ret st2=>cases k2;exact leaves st2 a2 w2 _ .returning (.inl ⟨rfl,rfl⟩) k1 k3
      |exit id st2=>cases k1
      |pan n st2=>cases k2
    · intro n st2 a2 w2 k1 k3
      exact leaves st2 a2 w2 _ (.panicking (Aw cx.pan n)) (.inr ⟨n,rfl,rfl⟩) k1 k3
  · intro o e a w1 hno hκ hoe hA
    cases o with
    |normal st=>exact absurd rfl (hno st)
    |exit id st=>cases hκ
    |pan n st=>cases hκ
    |ret st=>
      cases hoe
      obtain ⟨ρ1,ok1,D1,g1,g2,g3,g4,g5⟩:=hA
      show Leaves P fn a.tmps _ a.defers .returning w1
      rw [show a.defers=[] from g5.defers]
      exact fin a.tmps w1 st ρ1 ok1 _ hκ g2 g3 g4
  · intro n st a w1 hκ
    cases hκ
theorem I8 (hcx:bM P cx) (hinl:jx P cx.pan inl) (hm:P.follows .mixedOrders=true) {g:FuncId} {fn:Func} (hg:P.funcs[g]?=some fn) {pre:List (Code×H)} {i:Nat} {om od:Oper} {E:Code} (hb:fn.body=some (seqs pre (.seq (.region i #[om,od] false) E)))
 {f p q t : Nat} (hd : Dk om od f p q t) {gf : Func} (hf : P.funcs[f]? = some gf) (hgn : (gf.name == "runtime.NumGoroutine") = false) {ir tr : Nat} {or : Oper} {G : Code} (hgb : gf.body = some (.seq (.region ir #[or] false) G)) (hr : Cc or tr) (hres : gf.results = #[])
 (hWg:iX gf.ntmps (tr::writes G)=true) (hWf:iX fn.ntmps (t::(qn pre++writes E))=true) (hpq:gZ [p,q] (t::writes E)=true)
 (hE hG:H) {n:Nat} {si so:Sh} (hso:gM so=true) {F:TS si→Option (TS so)} (hev:∀x,Ez cx inl pre E hE G hG p q t tr fn.results.toList si so x=F x):aB P g ⟨n,si,so,stk F⟩:=by
 rw [aN]
 exact def_ok hcx hinl (eo hcx hm) hg hb hd hf (by simpa using hgn) hgb hr hres hWg hWf hpq (hE:=hE) (hG:=hG) hso fun x y hx=>by rw [hev];exact hx
def lC:Code→Code
 | .seq a _=>a
 |c=>c
def rC':Code→Code
 | .seq _ b=>b
 |c=>c
def opC (c:Code) (i:Nat):Oper:=match c with
 | .region _ ops _=>ops.getD i default
 |_=>default
end
end Lv
end
section
namespace Lv
open Go Go.RowKit
def zL (P:Program) (w:World) (v:String×Nat×(Array Value→Prop)):Prop:=P.globalNamed v.1=some v.2.1∧∃cs,w.var? P v.1=some cs∧v.2.2 cs
theorem Ho {P:Program} {w w':World} {n:String} {g:Nat} (hg:P.globalNamed n=some g) (h:w'.heap[g]?=w.heap[g]?):w'.var? P n=w.var? P n:=by
 simp only [World.var?,hg,Option.bind_some,h]
@[reducible] def varG (P : Program) (l : List (String × Nat × (Array Value → Prop))) (d : Bool) : eR where
 bs:=l.map (·.2.1)
 hold:=fun w=>∀v∈l,zL P w v
 draw:=d
 stable:=fun w w' h hs v hv=>by
  obtain ⟨h1,cs,h2,h3⟩:=h v hv
  exact ⟨h1,cs,(Ho h1 (hs v.2.1 (List.mem_map.2 ⟨v,hv,rfl⟩))).trans h2,h3⟩
variable [eR]
theorem oe {so:Sh} {y:TS so} {w w':World} {ρ:Nat→Value} {ok:Nat→Prop} {hin:cp} {nx:Nat} {v:Value} (hd:eR.draw=false) (hb:Below w.heap.size w w') (hH:dB ρ ok w hin nx) (hout:∀l o,dL so id y l=some o→False)
 (hE:∀ρ ok w nx,dM ρ ok w nx (fO so id y) #[v]):∃u ρ' ok',Ending.returned v=.returned u∧dB ρ' ok' w' (dL so id y) so.nn∧dM ρ' ok' w' so.nn (fO so id y) #[u]∧pR hin ρ ok w (dL so id y) ρ' ok' w':=by
 have hS:fc ok ok w w':=fun b h=>⟨h,hb.block b (hH.okl b h)⟩
 refine ⟨v,ρ,ok,rfl,⟨fun l o h=>(hout l o h).elim,fun b h=>Nat.lt_of_lt_of_le (hH.okl b h) hb.size,fun l o b h=>(hout l o h).elim,fun l m o p b h=>(hout l o h).elim,hH.gl.move hS⟩,hE _ _ _ _,
  ⟨hb.os,hb.tape,⟨hb.output,fun e=>by rw [hd] at e;cases e⟩,hb.size,fun b h _=>hb.block b h,fun _ h=>h,fun _ h=> .inl h,fun l o h=>(hout l o h).elim,fun l o b h=>(hout l o h).elim⟩⟩
theorem kE {s:dU} {v:Value} (h:∀ρ ok w nx,fM ρ ok w nx s v):∀(ρ:Nat→Value) (ok:Nat→Prop) (w:World) (nx:Nat),dM ρ ok w nx (Lv.put (fun _=>none) 0 (some s)) #[v]:=by
 intro ρ ok w nx t u hu
 simp only [Lv.put] at hu
 split at hu
 ·rename_i ht
  cases hu
  rw [Nat.eq_of_beq_eq_true ht]
  exact ⟨v,rfl,h _ _ _ _⟩
 ·cases hu
theorem lj {ρ ok w nx} {env:Env} {args:Array Value} {c:Cell} {i:Nat} (hE:dM ρ ok w nx env args) (h:env i=some (.v false [c])):∃v,args[i]?=some v∧cU ρ ok w nx c v:=by
 obtain ⟨v,h1,d,e,h2⟩:=hE i _ h
 cases e
 exact ⟨v,h1,h2⟩
theorem EA {args:Array Value} {a:Value} (hn:args.size=1) (h0:args[0]?=some a):args=#[a]:=by
 obtain ⟨l⟩:=args
 match l,hn,h0 with
 | [x],_,h0=>simp at h0;subst h0;rfl
theorem Kf {args:Array Value} {a b:Value} (hn:args.size=2) (h0:args[0]?=some a) (h1:args[1]?=some b):args=#[a,b]:=by
 obtain ⟨l⟩:=args
 match l,hn,h0,h1 with
 | [x,y],_,h0,h1=>simp at h0 h1;subst h0 h1;rfl
theorem args3 {args:Array Value} {a b c:Value} (hn:args.size=3) (h0:args[0]?=some a) (h1:args[1]?=some b) (h2:args[2]?=some c):args=#[a,b,c]:=by
 obtain ⟨l⟩:=args
 match l,hn,h0,h1,h2 with
 | [x,y,z],_,h0,h1,h2=>simp at h0 h1 h2;subst h0 h1 h2;rfl
theorem Hp {P:Program} {f:Nat} (hd:eR.draw=false) {F:Int→ByteArray} {lo hi:Int} (h:∀(n:Int) (w:World),lo≤n→n≤hi→eR.hold w→Calls P f #[.int .i64 n] w fun e w'=>e=.returned (.string (F n))∧Below w.heap.size w w'):
 aB P f ⟨1,⟨[(0,.v false [.int .i64])],[],[],0,[]⟩,⟨[(0,.v false [.str])],[],[],1000,[]⟩,fun (n,_)=>if lo≤n∧n≤hi then some (F n,()) else none⟩:=by
 rintro ⟨n,⟨⟩⟩ y hxy ρ ok w args hn hH hE
 have hxy:(if lo≤n∧n≤hi then some (F n,()) else none)=some y:=hxy
 split at hxy<;>cases hxy
 rename_i hr
 obtain ⟨v,h0,hv⟩:=lj (i:=0) (c:=.int .i64 n) hE rfl
 have hv:v=.int .i64 n:=hv
 subst hv
 rw [EA hn h0]
 refine (h n w hr.1 hr.2 hH.gl.2).mono ?_
 rintro e w' ⟨rfl,hb⟩
 exact oe hd hb hH (fun l o h=>by cases h) (kE fun _ _ _ _=>⟨_,rfl,rfl⟩)
theorem Fz {P:Program} {f:Nat} (hd:eR.draw=false) {F:ByteArray→ByteArray→Bool} {C:ByteArray→ByteArray→Prop} [∀a b,Decidable (C a b)] (h:∀(a b:ByteArray) (w:World),C a b→eR.hold w→Calls P f #[.string a,.string b] w fun e w'=>e=.returned (.bool (F a b))∧Below w.heap.size w w'):
 aB P f ⟨2,⟨[(0,.v false [.str]),(1,.v false [.str])],[],[],0,[]⟩,⟨[(0,.v false [.bool])],[],[],1000,[]⟩,fun (a,b,_)=>if C a b then some (F a b,()) else none⟩:=by
 rintro ⟨a,b,⟨⟩⟩ y hxy ρ ok w args hn hH hE
 have hxy:(if C a b then some (F a b,()) else none)=some y:=hxy
 split at hxy<;>cases hxy
 rename_i hr
 obtain ⟨v,h0,hv⟩:=lj (i:=0) (c:=.str a) hE rfl
 obtain ⟨u,h1,hu⟩:=lj (i:=1) (c:=.str b) hE rfl
 have hv:v=.string a:=hv
 have hu:u=.string b:=hu
 subst hv hu
 rw [Kf hn h0 h1]
 refine (h a b w hr hH.gl.2).mono ?_
 rintro e w' ⟨rfl,hb⟩
 exact oe hd hb hH (fun l o h=>by cases h) (kE fun _ _ _ _=>⟨_,rfl,rfl⟩)
theorem Dm {P:Program} {f:Nat} (hd:eR.draw=false) {F:ByteArray→ByteArray→ByteArray→ByteArray} {C:ByteArray→ByteArray→ByteArray→Prop} [∀a b c,Decidable (C a b c)] (h:∀(a b c:ByteArray) (w:World),C a b c→eR.hold w→Calls P f #[.string a,.string b,.string c] w fun e w'=>e=.returned (.string (F a b c))∧Below w.heap.size w w'):
 aB P f ⟨3,⟨[(0,.v false [.str]),(1,.v false [.str]),(2,.v false [.str])],[],[],0,[]⟩,⟨[(0,.v false [.str])],[],[],1000,[]⟩,fun (a,b,c,_)=>if C a b c then some (F a b c,()) else none⟩:=by
 rintro ⟨a,b,c,⟨⟩⟩ y hxy ρ ok w args hn hH hE
 have hxy:(if C a b c then some (F a b c,()) else none)=some y:=hxy
 split at hxy<;>cases hxy
 rename_i hr
 obtain ⟨v,h0,hv⟩:=lj (i:=0) (c:=.str a) hE rfl
 obtain ⟨u,h1,hu⟩:=lj (i:=1) (c:=.str b) hE rfl
 obtain ⟨z,h2,hz⟩:=lj (i:=2) (c:=.str c) hE rfl
 have hv:v=.string a:=hv
 have hu:u=.string b:=hu
 have hz:z=.string c:=hz
 subst hv hu hz
 rw [args3 hn h0 h1 h2]
 refine (h a b c w hr hH.gl.2).mono ?_
 rintro e w' ⟨rfl,hb⟩
 exact oe hd hb hH (fun l o h=>by cases h) (kE fun _ _ _ _=>⟨_,rfl,rfl⟩)
theorem FA {P:Program} {f:Nat} (hd:eR.draw=false) {F:ByteArray→Int×Bool} {C:ByteArray→Prop} [∀a,Decidable (C a)] (h:∀(a:ByteArray) (w:World),C a→eR.hold w→Calls P f #[.string a] w fun e w'=>∃v,e=.returned (.tuple #[.int .i64 (F a).1,v])∧(((F a).2=true∧v=.nilIface)∨((F a).2=false∧∃t u,v=.iface t u))∧Below w.heap.size w w'):
 aB P f ⟨1,⟨[(0,.v false [.str])],[],[],0,[]⟩,⟨[(0,.tup [(false,[.int .i64]),(false,[.ifc])])],[],[],1000,[]⟩,fun (a,_)=>if C a then some ((F a).1,(F a).2,()) else none⟩:=by
 rintro ⟨a,⟨⟩⟩ y hxy ρ ok w args hn hH hE
 have hxy:(if C a then some ((F a).1,(F a).2,()) else none)=some y:=hxy
 split at hxy<;>cases hxy
 rename_i hr
 obtain ⟨v,h0,hv⟩:=lj (i:=0) (c:=.str a) hE rfl
 have hv:v=.string a:=hv
 subst hv
 rw [EA hn h0]
 refine (h a w hr hH.gl.2).mono ?_
 rintro e w' ⟨v,rfl,hv,hb⟩
 exact oe hd hb hH (fun l o h=>by cases h) (kE fun _ _ _ _=>⟨[.int .i64 (F a).1,v],rfl,.cons ⟨_,rfl,rfl⟩ (.cons ⟨_,rfl,hv⟩ .nil)⟩)
end Lv
end
