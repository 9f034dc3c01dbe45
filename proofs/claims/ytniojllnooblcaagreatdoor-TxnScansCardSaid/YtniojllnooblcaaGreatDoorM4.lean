import Derived.Test.YtniojllnooblcaaGreatDoorM3
import Derived.Shelf.SlSortCmp.NoneTotal
import Derived.Shelf.Strings.Builder1
import Derived.Shelf.Strings.OnBuilder
import Derived.HandedShaped
import Derived.ProofKit
import Derived.LaidMore
import Derived.OpenShut
import Derived.Lay
import Derived.Stop.Joined
import Derived.Shelf.Small.Strs
import Derived.Test.YtniojllnooblcaaGreatDoorProg
import Derived.KernelRfl
import Derived.Shelf.Lays
import Derived.Shelf.LaysM
import Derived.Deep.RegionLaw
import Derived.Shelf.Strconv.Itoa3
import Derived.Shelf.Strings.Replace
import Derived.Shelf.Strings.Search3
set_option linter.all false
set_option linter.unusedVariables false
set_option linter.unusedSimpArgs false
set_option linter.unusedSectionVars false
section
namespace Lv
variable [HasG]
open Go Go.RowKit Go.Sort Go.Shelf Go.Proofs
/-! ## slices.SortFunc -/
/--ys is xs sorted,and nothing else is -/
structure IsSort {T:Type} (cmpF:T→T→Option Int) (xs ys:List T):Prop where
  small:xs.length<4611686018427387904
  ex:∃cmp:T→T→Int,(∀x∈xs,∀y∈xs,cmpF x y=some (cmp x y))∧(∀x∈xs,¬cmp x x<0)∧(∀x∈xs,∀y∈xs,∀z∈xs,cmp x y<0→cmp y z<0→cmp x z<0)∧
    (∀x∈xs,∀y∈xs,∀z∈xs,¬cmp x y<0→¬cmp y z<0→¬cmp x z<0)∧(∀x∈xs,∀y∈xs,¬cmp x y<0→¬cmp y x<0→x=y)∧ys.Perm xs∧ys.Pairwise fun x y=>¬cmp y x<0
theorem perm_sorted_eq {T : Type} {le : T → T → Prop} : ∀ {xs ys : List T},xs.Perm ys → (∀ x ∈ xs,∀ y ∈ xs,le x y → le y x → x = y) → xs.Pairwise le → ys.Pairwise le → xs = ys
  | [],ys,hp,_,_,_=>by rw [List.nil_perm.1 hp]
  |x::xs,[],hp,_,_,_=>by cases hp.length_eq
  | x :: xs,y :: ys,hp,ha,h1,h2 => by
    obtain ⟨p1,p2⟩:=List.pairwise_cons.1 h1
    obtain ⟨q1,q2⟩:=List.pairwise_cons.1 h2
    have hxy:x=y:=by
      have hx:x∈y::ys:=hp.subset List.mem_cons_self
      have hy:y∈x::xs:=hp.symm.subset List.mem_cons_self
      rcases List.mem_cons.1 hx with e|hx'
      · exact e
      · rcases List.mem_cons.1 hy with e|hy'
        · exact e.symm
        · exact ha x List.mem_cons_self y hy (p1 y hy') (q1 x hx')
    subst hxy
    rw [perm_sorted_eq (List.Perm.cons_inv hp) (fun a ha' b hb=>ha a (List.mem_cons_of_mem _ ha') b (List.mem_cons_of_mem _ hb)) p2 q2]
theorem IsSort.uniq {T:Type} {cmpF:T→T→Option Int} {xs ys zs:List T} (h:IsSort cmpF xs ys) (k:IsSort cmpF xs zs):ys=zs:=by
  obtain ⟨c,a1,a2,a3,a4,a5,a6,a7⟩:=h.ex
  obtain ⟨d,b1,b2,b3,b4,b5,b6,b7⟩:=k.ex
  have e:∀x∈xs,∀y∈xs,c x y=d x y:=fun x hx y hy=>by
    have:=a1 x hx y hy
    rw [b1 x hx y hy] at this
    exact (Option.some.inj this).symm
  refine perm_sorted_eq (le:=fun x y=>¬c y x<0) (a6.trans b6.symm) (fun x hx y hy h1 h2=>a5 x (a6.subset hx) y (a6.subset hy) h2 h1) a7 (b7.imp_of_mem fun hx hy h=>?_)
  rw [e _ (b6.subset hy) _ (b6.subset hx)]
  exact h
open Classical in
noncomputable def sortL {T:Type} (cmpF:T→T→Option Int):List T×Unit→Option (List T×Unit):=fun (xs,_)=>
  if h:∃ys,IsSort cmpF xs ys then some (choose h,()) else none
theorem sortL_some {T:Type} {cmpF:T→T→Option Int} {xs ys:List T} (h:IsSort cmpF xs ys):sortL cmpF (xs,())=some (ys,()):=by
  unfold sortL
  have hh:∃ys,IsSort cmpF xs ys:=⟨ys,h⟩
  simp only [dif_pos hh]
  rw [(Classical.choose_spec hh).uniq h]
/--a comparison of two structs -/
abbrev cmpSi (t:Ty):Sh:=⟨argSl 0 [(t,true),(t,true)],[],[],0,[]⟩
def cmpSo:Sh:=⟨[(0,.v false [.int .i64])],[],[],1000,[]⟩
def cmpOf (t:Ty) (G:TS (cmpSi t)→Option (TS cmpSo)) (x y:t.T):Option Int:=(G (argX 0 [(t,true),(t,true)] (x,y,()))).map fun p=>p.1
def sortSi (g e:Nat) (t:Ty):Sh:=⟨[(0,.v false [.ref 0]),(1,.v false [.fn g])],[(0,true,.arr e t)],[],1,[]⟩
def sortSo (e:Nat) (t:Ty):Sh:=⟨[(0,.tup [])],[(0,true,.arr e t)],[],1001,[]⟩
theorem K_zero (ok:Nat→Prop) (w:World):∀t:Ty,∃cs,K ok w t t.z cs
  | .int _=>⟨_,rfl⟩
  | .bool=>⟨_,rfl⟩
  | .str=>⟨_,rfl⟩
  | .val=>⟨_,rfl,rfl⟩
  | .unit=>⟨_,rfl⟩
  | .pair a b=>by
    obtain ⟨c,hc⟩:=K_zero ok w a
    obtain ⟨d,hd⟩:=K_zero ok w b
    exact ⟨c++d,c,d,rfl,hc,hd⟩
  | .sl e t=>⟨[.slice none 0 0],none,0,rfl,Nat.le_refl _,.inl rfl⟩
theorem world_grow {w w':World} (h1:w'.os=w.os) (h2:w'.tape=w.tape) (h3:w'.output=w.output∧w.drawn≤w'.drawn) (h4:w.heap.size≤w'.heap.size) (h5:∀b,b<w.heap.size→w'.heap[b]?=w.heap[b]?):∃q os,w'=grow (w.drewN q) os:=by
  refine ⟨w'.drawn-w.drawn,w'.heap.extract w.heap.size w'.heap.size,?_⟩
  obtain ⟨hp,tp,dr,os,out⟩:=w
  obtain ⟨hp',tp',dr',os',out'⟩:=w'
  obtain ⟨q1,q2⟩:=h3
  simp only at h1 h2 q1 q2 h4 h5
  subst h1 h2 q1
  simp only [grow,World.drewN,World.mk.injEq,true_and,and_true]
  refine ⟨?_,by omega⟩
  apply Array.ext_getElem?
  intro i
  by_cases hi:i<hp.size
  · rw [h5 i hi,Array.getElem?_append_left hi]
  · rw [Array.getElem?_append_right (by omega),Array.getElem?_extract]
    split
    · congr 1;omega
    · rename_i hh
      exact Array.getElem?_eq_none (by omega)
set_option linter.unusedSectionVars false
section
variable {α:Type} [Inhabited α]
theorem flatten_at (enc : α → List Value) (k : Nat) (hk : ∀ x,(enc x).length = k) : ∀ (L : List α) (t : Nat),t < L.length * k → ((L.map enc).flatten)[t]? = some ((enc (L[t / k]!))[t % k]!)
  | [],t,h=>by simp at h
  | x :: L,t,h => by
    have k0 : 0 < k := by rcases Nat.eq_zero_or_pos k with h' | h'; · subst h'; simp at h
                          · exact h'
    simp only [List.map_cons,List.flatten_cons]
    by_cases ht:t<k
    · rw [List.getElem?_append_left (by rw [hk];exact ht),Nat.div_eq_of_lt ht,Nat.mod_eq_of_lt ht]
      simp only [List.getElem!_cons_zero]
      rw [List.getElem!_eq_getElem?_getD,List.getElem?_eq_getElem (by rw [hk];exact ht)]
      rfl
    · rw [List.getElem?_append_right (by rw [hk];omega),hk,flatten_at enc k hk L (t-k) (by simp only [List.length_cons,Nat.add_mul] at h;omega)]
      have e1:t/k=(t-k)/k+1:=by rw [Nat.div_eq_sub_div k0 (by omega)]
      have e2:t%k=(t-k)%k:=(Nat.mod_eq_sub_mod (by omega))
      rw [e1,e2]
      simp
theorem flatten_len (enc:α→List Value) (k:Nat) (hk:∀x,(enc x).length=k):∀L:List α,((L.map enc).flatten).length=L.length*k
  | []=>by simp
  |x::L=>by
    simp only [List.map_cons,List.flatten_cons,List.length_append,hk,flatten_len enc k hk L,List.length_cons,Nat.add_mul,Nat.one_mul]
    omega
theorem flatK_list (enc:α→List Value) (k:Nat) (hk:∀x,(enc x).length=k) (d:Array α):(flatK enc k d).toList=(d.toList.map enc).flatten:=by
  apply List.ext_getElem?
  intro t
  by_cases ht:t<d.size*k
  · rw [flatten_at enc k hk d.toList t (by simpa using ht)]
    rw [Array.getElem?_toList,getElem?_pos _ t (by simpa using ht)]
    congr 1
    have:=get_flatK enc k d t ht
    rw [getElem!_pos _ t (by simpa using ht)] at this
    rw [this]
    have e:d[t/k]! =d.toList[t/k]! :=by
      rw [List.getElem!_eq_getElem?_getD,Array.getElem!_eq_getD,Array.getD_eq_getD_getElem?,Array.getElem?_toList]
    rw [e]
  · have:((d.toList.map enc).flatten).length=d.toList.length*k:=flatten_len enc k hk d.toList
    rw [List.getElem?_eq_none (by simp;omega),List.getElem?_eq_none (by rw [this,Array.length_toList];omega)]
theorem putCells_take (F cur:Array Value) (h:F.size≤cur.size):(putCells id 0 F cur).size=cur.size∧(putCells id 0 F cur).toList.take F.size=F.toList:=by
  refine ⟨by simp [putCells],?_⟩
  apply List.ext_getElem?
  intro i
  rw [List.getElem?_take]
  split
  · rename_i hi
    rw [Array.getElem?_toList,Array.getElem?_toList]
    simp only [putCells,Array.getElem?_mapIdx]
    rw [getElem?_pos cur i (by omega),getElem?_pos F i hi]
    simp [hi]
  · rename_i hi
    rw [List.getElem?_eq_none (by simpa using hi)]
end
/--elements with their cells -/
theorem rows_pairs {ok:Nat→Prop} {w:World} {t:Ty} {xs:List t.T}:∀{ys:List t.T} {css:List (List Value)},All2 (K ok w t) ys css→(∀y∈ys,y∈xs)→
    ∃L:List {p:t.T×List Value//p.1∈xs∧K ok w t p.1 p.2},L.map (fun p=>p.1.1)=ys∧L.map (fun p=>p.1.2)=css
  |_,_,.nil,_=>⟨[],rfl,rfl⟩
  |_,_,.cons (a:=a) (b:=b) h r,hm=>by
    obtain ⟨L,e1,e2⟩:=rows_pairs r fun y hy=>hm y (List.mem_cons_of_mem _ hy)
    exact ⟨⟨(a,b),hm a List.mem_cons_self,h⟩::L,by simp [e1],by simp [e2]⟩
theorem mapBlock_at {w:World} {blk b:Nat} {f:Array Value→Array Value} {c:Array Value} {e:TypeId} {fr:Nat×Nat} (h:w.heap[blk]?=some (.cells c e fr)):(mapBlock w blk f).heap[blk]?=some (.cells (f c) e fr):=by
  simp [mapBlock,Array.getElem?_modify,h,onCells]
theorem mapBlock_ne {w:World} {blk b:Nat} {f:Array Value→Array Value} (h:b≠blk):(mapBlock w blk f).heap[b]?=w.heap[b]?:=by
  simp [mapBlock,Array.getElem?_modify,Ne.symm h]
theorem grow_at {w:World} {os:Array Obj} {b:Nat} (h:b<w.heap.size):(grow w os).heap[b]?=w.heap[b]?:=by
  simp only [grow]
  rw [Array.getElem?_append_left h]
theorem sort_spec {P : Program} {ρs : Shelf.Ren} {f g e : Nat} {t : Ty} {G : TS (cmpSi t) → Option (TS cmpSo)} (L : SlLaysF0.n6 P ρs) (hf : ρs.f 6 = f) (aE : ∀ w,(isAgg (ρs.t 24)).run P w = .ok true w) (zE : ∀ w,(Go.sizeOf (ρs.t 24)).run P w = .ok t.n w)
    (hen:Enters P g) (hdraw:HasG.draw=true) (hG:SpecOk P g ⟨2,cmpSi t,cmpSo,G⟩):SpecOk P f ⟨2,sortSi g e t,sortSo e t,sortL (cmpOf t G)⟩:=by
  subst hf
  rintro ⟨xs,u⟩ y hy ρ ok w args hsz hH hE
  have hy:sortL (cmpOf t G) (xs,u)=some y:=hy
  unfold sortL at hy
  simp only at hy
  split at hy<;>try (cases hy;done)
  rename_i hex
  generalize hys:Classical.choose hex=ys at hy
  have hS:IsSort (cmpOf t G) xs ys:=by rw [←hys];exact Classical.choose_spec hex
  cases hy
  have hp:hpOut (sortSi g e t) id (xs,u)=Lv.put (fun _=>none) 0 (some (.arr e t xs)):=rfl
  rw [hp] at hH ⊢
  obtain ⟨_,inner,o0,r0⟩:=hH.ob 0 (.arr e t xs) rfl
  obtain ⟨v0,a0,c0,k0,g0⟩:=hE 0 (.v false [.ref 0]) rfl
  obtain ⟨v1,a1,c1,k1,g1⟩:=hE 1 (.v false [.val (.func (.func g) #[] #[])]) rfl
  cases k0;cases k1
  have g0':v0=ρ 0:=g0.2.1
  have g1':v1=.func (.func g) #[] #[]:=g1.1
  subst g0' g1'
  have ha:args=#[ρ 0,.func (.func g) #[] #[]]:=by
    obtain ⟨l⟩:=args
    match l,hsz,a0,a1 with
    | [x,y],_,a0,a1=>simp at a0 a1;rw [a0,a1]
  subst ha
  -- what is left to say
  have fin:∀(w':World) (inner':List Value),w'.ownsRow 0 e t.n (ρ 0) ys.length inner'→Rows ok w t ys inner'→w'.os=w.os→w'.tape=w.tape→Quiet w w'→w.heap.size≤w'.heap.size→
      (∀b,b<w.heap.size→blk (ρ 0)≠some b→w'.heap[b]?=w.heap[b]?)→
      ∃ v ρ' ok',Ending.returned (.tuple #[]) = .returned v ∧ RepH ρ' ok' w' (hpOut (sortSo e t) id (ys,())) (sortSo e t).nn ∧ RepE ρ' ok' w' (sortSo e t).nn (envOut (sortSo e t) id (ys,())) #[v] ∧
        Exits (Lv.put (fun _=>none) 0 (some (.arr e t xs))) ρ ok w (hpOut (sortSo e t) id (ys,())) ρ' ok' w':=by
    intro w' inner' q1 q2 q3 q4 q5 q6 q7
    have hM:Same ok ok w w':=fun b hb=>⟨hb,q7 b (hH.okl b hb) fun e'=>hH.sep 0 _ b rfl rfl e' hb⟩
    have ho:hpOut (sortSo e t) id (ys,())=Lv.put (fun _=>none) 0 (some (.arr e t ys)):=rfl
    rw [ho]
    refine ⟨_,ρ,ok,rfl,⟨?_,?_,?_,?_,hH.gl.move hM⟩,?_,⟨q3,q4,q5,q6,?_,fun b h=>h,fun b h=> .inl h,?_,?_⟩⟩
    · intro l o ho
      simp only [Lv.put] at ho
      split at ho
      · rename_i hl
        have:=Nat.eq_of_beq_eq_true hl
        subst this
        cases ho
        exact ⟨Nat.succ_pos 1000,inner',q1,q2.move hM⟩
      · cases ho
    · intro b hb
      exact Nat.lt_of_lt_of_le (hH.okl b hb) q6
    · intro l o b ho hw hb
      simp only [Lv.put] at ho
      split at ho
      · rename_i hl
        have:=Nat.eq_of_beq_eq_true hl
        subst this
        exact hH.sep 0 _ b rfl rfl hb
      · cases ho
    · intro l m o p b ho hp' _ _ _ _
      simp only [Lv.put] at ho hp'
      split at ho
      · rename_i hl
        split at hp'
        · rename_i hm
          rw [Nat.eq_of_beq_eq_true hl,Nat.eq_of_beq_eq_true hm]
        · cases hp'
      · cases ho
    · intro q sl hs
      have hs:Lv.put (fun _=>none) 0 (some (Slot.tup [])) q=some sl:=hs
      simp only [Lv.put] at hs
      split at hs
      · rename_i ht
        have:=Nat.eq_of_beq_eq_true ht
        subst this
        cases hs
        exact ⟨_,rfl,[],rfl,.nil⟩
      · cases hs
    · intro b hb hne
      exact q7 b hb (hne 0 _ rfl rfl)
    · intro l o ho hl
      simp only [Lv.put] at ho
      split at ho
      · rename_i hl'
        have:=Nat.eq_of_beq_eq_true hl'
        subst this
        exact ⟨rfl,_,rfl,fun _=>rfl⟩
      · cases ho
    · intro l o b ho hl _ _
      simp only [Lv.put] at ho
      split at ho
      · rename_i hl'
        have:=Nat.eq_of_beq_eq_true hl'
        omega
      · cases ho
  obtain ⟨cmp,s1,s2,s3,s4,s5,s6,s7⟩:=hS.ex
  by_cases hx:xs=[]
  · subst hx
    have:ys=[]:=List.Perm.eq_nil s6
    subst this
    obtain ⟨A,c,hv⟩:=own_slice o0
    rw [hv]
    refine (AnyF.slices_SortFunc_none L A c _ w).mono ?_
    rintro e' w' ⟨rfl,rfl⟩
    exact fin _ inner o0 r0 rfl rfl Quiet.rfl (Nat.le_refl _) fun _ _ _=>rfl
  · obtain ⟨b,cap,cur,hv,hg,hnc,hcm,hcs,htk⟩:=own_some o0 (List.length_pos_iff.2 hx)
    obtain ⟨css,hin,hall⟩:=r0
    obtain ⟨Ld,e1,e2⟩:=rows_pairs (xs:=xs) hall fun y hy=>hy
    obtain ⟨x0,hx0⟩:=List.exists_mem_of_ne_nil xs hx
    haveI:Inhabited {p:t.T×List Value//p.1∈xs∧K ok w t p.1 p.2}:=by
      match Ld,e1 with
      | [],e1=>exact absurd e1.symm hx
      |a::_,_=>exact ⟨a⟩
    let enc:{p:t.T×List Value//p.1∈xs∧K ok w t p.1 p.2}→List Value:=fun p=>p.1.2
    have hk:∀x,(enc x).length=t.n:=fun x=>K_len x.2.2
    have h1:∀x,∀v∈enc x,v.oneCell'=true:=fun x=>K_one x.2.2
    let cf:{p:t.T×List Value//p.1∈xs∧K ok w t p.1 p.2}→{p:t.T×List Value//p.1∈xs∧K ok w t p.1 p.2}→Int:=fun p q=>cmp p.1.1 q.1.1
    have hO:SWO (ltOf cf):=by
      refine ⟨fun x=>decide_eq_false (s2 _ x.2.1),fun x y z h1 h2=>decide_eq_true (s3 _ x.2.1 _ y.2.1 _ z.2.1 (of_decide_eq_true h1) (of_decide_eq_true h2)),fun x y z h1 h2=>decide_eq_false (s4 _ x.2.1 _ y.2.1 _ z.2.1 (of_decide_eq_false h1) (of_decide_eq_false h2))⟩
    have hdl:Ld.length=xs.length:=by
      have:=congrArg List.length e1
      rwa [List.length_map] at this
    have hfl:(flatK enc t.n Ld.toArray).toList=inner:=by rw [flatK_list enc t.n hk,hin,←e2]
    have hil:inner.length=xs.length*t.n:=o0.1
    have hbw:b<w.heap.size:=(Array.getElem?_eq_some_iff.1 hg).1
    have hnok:¬ok b:=hH.sep 0 _ b rfl rfl (by rw [hv];rfl)
    have hH0:HoldsK enc t.n w b 0 Ld.toArray:=by
      intro j hj
      have hj':j<xs.length*t.n:=by simpa [hdl] using hj
      refine ⟨?_,by simp [World.frozen?,hg]⟩
      have hc:cur.toList[j]?=some ((flatK enc t.n Ld.toArray)[j]!):=by
        have:(cur.toList.take (xs.length*t.n))[j]?=cur.toList[j]?:=by rw [List.getElem?_take,if_pos hj']
        rw [←this,htk,←hfl,Array.getElem?_toList,getElem?_pos _ j hj,getElem!_pos _ j hj]
      rw [Array.getElem?_toList] at hc
      simp only [World.cell?,hg,Nat.zero_add]
      simpa using hc
    have eg:∀args w,(callFunc g args).run P w=.ok (.enter g args) w:=callFunc_run hen
    have hcmp:CmpLays P g #[] enc t.n cf b 0 Ld.toArray.size w:=by
      intro m os dk hs x y
      have hM:Same ok ok w (sortWorldK enc t.n w b 0 m dk os):=fun q hq=>⟨hq,by
        have hqw:=hH.okl q hq
        unfold sortWorldK putRowK putRow
        rw [grow_at (by simp [mapBlock,Sort.ahead];exact hqw),mapBlock_ne (fun e=>hnok (by rw [←e];exact hq))]
        rfl⟩
      have hsz':w.heap.size≤(sortWorldK enc t.n w b 0 m dk os).heap.size:=by simp [sortWorldK,putRowK,putRow,mapBlock,grow,Sort.ahead]
      have hGy:G (argX 0 [(t,true),(t,true)] (x.1.1,y.1.1,()))=some (cmp x.1.1 y.1.1,()):=by
        have:=s1 _ x.2.1 _ y.2.1
        unfold cmpOf at this
        cases hg':G (argX 0 [(t,true),(t,true)] (x.1.1,y.1.1,())) with
        |none=>rw [hg'] at this;cases this
        |some p=>
          rw [hg'] at this
          have:p.1=cmp x.1.1 y.1.1:=by simpa using this
          rw [←this]
          rfl
      rw [Array.append_empty]
      generalize hW:sortWorldK enc t.n w b 0 m dk os=W at hM hsz' ⊢
      have hkx:=K_move hM x.2.2
      have hky:=K_move hM y.2.2
      refine (hG _ _ hGy (fun _=> .bool true) ok W #[.agg (enc x).toArray,.agg (enc y).toArray] rfl ?_ ?_).mono ?_
      · exact ⟨fun l o h=>(by cases h),fun q hq=>Nat.lt_of_lt_of_le (hH.okl q hq) hsz',fun l o b h=>(by cases h),fun l m o p b h=>(by cases h),hH.gl.move hM⟩
      · exact arg_repE (l:=[(t,true),(t,true)]) (x:=(x.1.1,y.1.1,())) ⟨_,_,rfl,hkx,⟨_,rfl⟩,_,_,rfl,hky,⟨_,rfl⟩,rfl⟩ _ _
      · rintro e' w' ⟨v,ρ',ok',rfl,_,hE',hX⟩
        obtain ⟨v',z1,c,z2,z3⟩:=hE' 0 (.v false [.int .i64 (cmp x.1.1 y.1.1)]) rfl
        cases z2
        have z3:v'=.int .i64 (cmp x.1.1 y.1.1):=z3
        subst z3
        have:v=.int .i64 (cmp x.1.1 y.1.1):=by simpa using z1
        subst this
        exact ⟨rfl,world_grow hX.os hX.tape ⟨hX.output.1,hX.output.2 hdraw⟩ hX.size fun q hq=>hX.same q hq fun l o h=>by cases h⟩
    have hsz62:Ld.toArray.size<4611686018427387904:=by simpa [hdl] using hS.small
    have hrun:=AnyQ.slices_SortFunc L t.n aE zE enc hk h1 cf hO g #[] b 0 cap Ld.toArray w eg hcmp hH0 hbw hsz62
    have hsl:ρ 0=.slice (some ⟨b,0,none⟩) Ld.toArray.size cap:=by rw [hv];simp [hdl]
    rw [hsl]
    refine hrun.mono ?_
    rintro e' w' ⟨rfl,d',n,os,hp',hs',rfl⟩
    have hds:d'.size=xs.length:=by rw [hp'.1];simp [hdl]
    have hperm:d'.toList.Perm Ld:=by
      have:=hp'.2.2
      rw [show d'.extract 0 Ld.toArray.size=d' by rw [←hp'.1];simp] at this
      simpa using this
    have hys':d'.toList.map (fun p=>p.1.1)=ys:=by
      have hpz:(d'.toList.map (fun p=>p.1.1)).Perm xs:=by
        have:=hperm.map (fun p=>p.1.1)
        rwa [e1] at this
      refine perm_sorted_eq (le:=fun x y=>¬cmp y x<0) (hpz.trans s6.symm) (fun x hx y hy h1 h2=>s5 x (hpz.subset hx) y (hpz.subset hy) h2 h1) ?_ s7
      rw [List.pairwise_map]
      refine List.pairwise_iff_getElem.2 fun i j hi hj hij=>?_
      have:=hs' i j (Nat.zero_le _) hij (by simpa [hp'.1] using hj)
      rw [getElem!_pos d' i (by simpa using hi),getElem!_pos d' j (by simpa using hj)] at this
      have:=of_decide_eq_false this
      simpa using this
    have hF:(flatK enc t.n d').size=xs.length*t.n:=by simp [hds]
    have hle:(flatK enc t.n d').size≤cur.size:=by rw [hF,hcs];exact Nat.mul_le_mul_right _ hnc
    obtain ⟨pz,pt⟩:=putCells_take (flatK enc t.n d') cur hle
    have hgg:(sortWorldK enc t.n w b 0 n d' os).heap[b]?=some (.cells (putCells id 0 (flatK enc t.n d') cur) e (0,0)):=by
      unfold sortWorldK putRowK putRow
      rw [grow_at (by simp [mapBlock,Sort.ahead];exact hbw)]
      exact mapBlock_at (b:=0) (w:=Sort.ahead w n) hg
    have hyl:ys.length=xs.length:=by rw [←hys',List.length_map,Array.length_toList,hds]
    refine fin _ (flatK enc t.n d').toList ⟨?_,.inr ⟨b,cap,_,?_,Nat.zero_le _,hgg,?_,hcm,?_,?_⟩⟩ ⟨d'.toList.map (fun p=>p.1.2),flatK_list enc t.n hk d',?_⟩ rfl rfl ⟨rfl,?_⟩ ?_ ?_
    · rw [Array.length_toList,hF,hyl]
    · rw [hyl,hv]
    · rw [hyl];exact hnc
    · rw [pz,hcs]
    · rw [hyl,←hF];exact pt
    · rw [←hys']
      generalize d'.toList=l
      induction l with
      |nil=>exact .nil
      |cons a l ih=>exact .cons a.2.2 ih
    · intro _;show w.drawn≤w.drawn+n;omega
    · simp [sortWorldK,putRowK,putRow,mapBlock,grow,Sort.ahead]
    · intro q hq hne
      unfold sortWorldK putRowK putRow
      rw [grow_at (by simp [mapBlock,Sort.ahead];exact hq),mapBlock_ne (fun e=>hne (by rw [hv,e];rfl))]
      rfl
end Lv
namespace Lv
variable [HasG]
open Go Go.RowKit
/--a contract of the library's that turns nothing:two strings,a number -/
theorem str2_spec {P:Program} {f:Nat} {F:ByteArray→ByteArray→Int} (h:∀a b w,Calls P f #[.string a,.string b] w fun e w'=>e=.returned (.int .i64 (F a b))∧w'=w):
    SpecOk P f ⟨2,⟨[(0,.v false [.str]),(1,.v false [.str])],[],[],0,[]⟩,cmpSo,fun (a,b,_)=>some (F a b,())⟩:=by
  rintro ⟨a,b,u⟩ y hy ρ ok w args hn hH hE
  cases hy
  obtain ⟨v0,e0,c0,k0,r0⟩:=hE 0 (.v false [.str a]) rfl
  obtain ⟨v1,e1,c1,k1,r1⟩:=hE 1 (.v false [.str b]) rfl
  cases k0;cases k1
  have r0:v0=.string a:=r0
  have r1:v1=.string b:=r1
  subst r0 r1
  have ha:args=#[.string a,.string b]:=by
    obtain ⟨l⟩:=args
    match l,hn,e0,e1 with
    | [x,y],_,e0,e1=>simp at e0 e1;subst e0 e1;rfl
  subst ha
  refine (h a b w).mono ?_
  rintro e w' ⟨rfl,rfl⟩
  refine ⟨_,ρ,ok,rfl,⟨fun l o h=>(by cases h),hH.okl,fun l o b h=>(by cases h),fun l m o p b h=>(by cases h),hH.gl⟩,?_,
    ⟨rfl,rfl,Quiet.rfl,Nat.le_refl _,fun _ _ _=>rfl,fun _ h=>h,fun _ h=> .inl h,fun _ _ h=>(by cases h),fun _ _ _ h=>(by cases h)⟩⟩
  intro t s hs
  have hs:Lv.put (fun _=>none) 0 (some (Slot.v false [.int .i64 (F a b)])) t=some s:=hs
  simp only [Lv.put] at hs
  split at hs
  · rename_i ht
    have:=Nat.eq_of_beq_eq_true ht
    subst this
    cases hs
    exact ⟨_,rfl,_,rfl,rfl⟩
  · cases hs
end Lv
end
section
namespace Lv
open Go Go.Proofs Go.RowKit Go.Shelf
set_option maxHeartbeats 2000000 in
set_option maxRecDepth 100000 in
theorem bld_string {P:Program} {ρ:Shelf.Ren} (L:Lays.n169 P ρ) (X:Builder.Extra P ρ) {b g cap:Nat} {p:Value} {cur:Array Value} {l:List UInt8} {w:World} (hbk:w.heap[b]?=some (.cells #[p,.slice (some ⟨g,0,none⟩) l.length cap] (ρ.t 72) (0,0)))
    (hg:w.heap[g]?=some (.cells cur (ρ.t 5) (0,0))) (h0:l≠ []) (hlc:l.length≤cap) (hcs:cap≤cur.size) (hcm:cap≤maxLen) (hcells:∀j x,l[j]?=some x→w.cell? ⟨g,j,none⟩=some (.int .u8 x.toNat)):
    Calls P (ρ.f 169) #[.pointer (some ⟨b,0,none⟩)] w fun e w'=>e=.returned (.string ⟨l.toArray⟩)∧∃k,w'=(w.drewN k).freeze ⟨g,0,none⟩ l.length:=by
  have hl0:l.length≠0:=by simpa using h0
  have c1:w.drew.cell? ⟨b,1,none⟩=some (.slice (some ⟨g,0,none⟩) l.length cap):=by
    have:w.drew.heap[b]?=some (.cells #[p,.slice (some ⟨g,0,none⟩) l.length cap] (ρ.t 72) (0,0)):=hbk
    rw [Lib.cell_of_heap this];rfl
  have hSD:(Builtin.unsafeSliceData_ #[(ρ.t 37)] (ρ.t 127) #[.slice (some ⟨g,0,none⟩) l.length cap]).run P w.drew=.ok (.pointer (some ⟨g,0,none⟩)) w.drew:=
    Lib.run_unsafeSliceData_row _ _ _ _ _ _ (by omega)
  have hUS:(Builtin.unsafeString_ #[(ρ.t 127),(ρ.t 3)] (ρ.t 9) #[.pointer (some ⟨g,0,none⟩),.int .i64 l.length]).run P w.drew=.ok (.string ⟨l.toArray⟩) (w.drew.freeze ⟨g,0,none⟩ l.length):=
    Lib.run_unsafeString_row w.drew (ρ.t 127) (ρ.t 3) (ρ.t 9) (ρ.t 5) L.t127 X.cellsByte g cur.size (by have hg':w.drew.heap[g]?=some (.cells cur (ρ.t 5) (0,0)):=hg;simp [World.shape?,hg']) l h0 (by omega) (by unfold maxLen at hcm;omega) fun j x hx=>by rw [Addr.add_lit,Nat.zero_add];exact hcells j x hx
  have mixed:=L.mixed
  have t72:=L.t72;have a72:=L.a72;have z72:=L.z72;have v72:=L.v72;have u72:=run_underlying L.t72
  have t70:=L.t70;have a70:=L.a70;have z70:=L.z70;have v70:=L.v70;have u70:=run_underlying L.t70
  have t37:=L.t37;have a37:=L.a37;have z37:=L.z37;have v37:=L.v37;have u37:=run_underlying L.t37
  have t127:=L.t127;have a127:=L.a127;have z127:=L.z127;have v127:=L.v127;have u127:=run_underlying L.t127
  have t3:=L.t3;have a3:=L.a3;have z3:=L.z3;have v3:=L.v3;have u3:=run_underlying L.t3
  have t9:=L.t9;have a9:=L.a9;have z9:=L.z9;have v9:=L.v9;have u9:=run_underlying L.t9
  have t5:=X.t5;have a5:=X.a5;have z5:=X.z5;have v5:=X.v5;have u5:=run_underlying X.t5
  go_enter L.f169,Body.n169_ntmps ρ
  go_wp2
  go_region_o
  all_goals (go_wp2;go_ret;exact ⟨rfl,1,rfl⟩)
theorem All2.symmOne' {α β:Type} {R:α→β→Prop} {a:α} {bs:List β} (h:All2 R [a] bs):∃b,bs=[b]∧R a b:=h.one
theorem freeze_other (w:World) (a:Addr) (n k:Nat) (h:k≠a.block):(w.freeze a n).heap[k]?=w.heap[k]?:=by
  unfold World.freeze
  split
  · rfl
  · simp only [Array.getElem?_modify]
    rw [if_neg (fun e=>h e.symm)]
theorem freeze_parts (w:World) (a:Addr) (n:Nat):(w.freeze a n).os=w.os∧(w.freeze a n).tape=w.tape∧(w.freeze a n).output=w.output∧(w.freeze a n).heap.size=w.heap.size:=by
  unfold World.freeze
  split<;>simp
noncomputable def bytesOf (bs:List Int):ByteArray:=⟨(bs.map fun i=>UInt8.ofNat i.toNat).toArray⟩
theorem u8_back (i:Int) (h0:0≤i) (h1:i<256):((UInt8.ofNat i.toNat).toNat:Int)=i:=by
  rw [UInt8.toNat_ofNat']
  omega
theorem rows_u8 {ok:Nat→Prop} {w:World} {bs:List Int} {vs:List Value} (h:Rows ok w (.int .u8) bs vs):vs=bs.map (.int .u8):=by
  obtain ⟨css,rfl,h⟩:=h
  induction h with
  |nil=>rfl
  |cons h _ ih=>
    have h:_=[_]:=h
    subst h
    simp [ih]
theorem bld_string_spec [HasG] (hd : HasG.draw = false) {P : Program} {ρs : Shelf.Ren} (L : Lays.n169 P ρs) (X : Builder.Extra P ρs) {f B e8 : Nat} (hf : ρs.f 169 = f) (hB : ρs.t 72 = B) (h5 : ρs.t 5 = e8) :
    SpecOk P f ⟨1,⟨[(0,.v false [.ptr 0 0])],[(0,true,.box B [.np 0,.ref 1]),(1,true,.arr e8 (.int .u8))],[],2,[]⟩,⟨[(0,.v false [.str])],[],[],1000,[]⟩,
      fun (bs,_)=>if (∀x∈bs,0≤x∧x<256) then some (bytesOf bs,()) else none⟩:=by
  subst hf hB h5
  rintro ⟨bs,⟨⟩⟩ y hxy ρ ok w args hn hH hE
  have hxy:(if (∀x∈bs,0≤x∧x<256) then some (bytesOf bs,()) else none)=some y:=hxy
  split at hxy<;>cases hxy
  rename_i hr
  obtain ⟨v,h0,hv⟩:=arg_at (i:=0) (c:=.ptr 0 0) hE rfl
  obtain ⟨_,b,h1,rfl⟩:=hv
  obtain ⟨_,b',vs,k1,k2,k3⟩:=hH.ob 0 (.box (ρs.t 72) [.np 0,.ref 1]) rfl
  rw [h1] at k1
  cases k1
  obtain ⟨_,inner,k4,k5⟩:=hH.ob 1 (.arr (ρs.t 5) (.int .u8) bs) rfl
  have hin:=rows_u8 k5
  subst hin
  cases k3 with
  |@cons _ p _ vs hp k3=>
  obtain ⟨v,rfl,hv⟩:=k3.symmOne'
  have hv:v=ρ 1:=hv.2.1
  subst hv
  have hl:(bs.map fun i=>UInt8.ofNat i.toNat).length=bs.length:=by simp
  have hin:∀(c:Cell) (l:Nat) (o:Ob),hpOut (⟨[(0,.v false [.ptr 0 0])],[(0,true,.box (ρs.t 72) [.np 0,.ref 1]),(1,true,.arr (ρs.t 5) (.int .u8))],[],2,[]⟩:Sh) id (bs,()) 1=some (.arr (ρs.t 5) (.int .u8) bs):=fun _ _ _=>rfl
  rw [args1 hn h0]
  have empty:bs=[]→(Calls P (ρs.f 169) #[.pointer (some ⟨b,0,none⟩)] w fun e w'=>e=.returned (.string ⟨#[]⟩)∧Below w.heap.size w w')→Calls P (ρs.f 169) #[.pointer (some ⟨b,0,none⟩)] w fun e w'=>∃v ρ' ok',e=.returned v∧RepH ρ' ok' w' (fun _=>none) 1000∧
      RepE ρ' ok' w' 1000 (Lv.put (fun _=>none) 0 (some (.v false [.str (bytesOf bs)]))) #[v]∧Exits (hpOut (⟨[(0,.v false [.ptr 0 0])],[(0,true,.box (ρs.t 72) [.np 0,.ref 1]),(1,true,.arr (ρs.t 5) (.int .u8))],[],2,[]⟩:Sh) id (bs,())) ρ ok w (fun _=>none) ρ' ok' w':=by
    intro he hc
    subst he
    refine hc.mono ?_
    rintro e w' ⟨rfl,hb⟩
    exact lib_end (so:=⟨[(0,.v false [.str])],[],[],1000,[]⟩) (y:=(bytesOf [],())) hd hb hH (fun l o h=>by cases h) (one_env fun _ _ _ _=>⟨_,rfl,rfl⟩)
  rcases k4.2 with ⟨hn1,hn2⟩|⟨g,cap,cur,hg1,_,hg2,hg3,hg4,hg5,hg6⟩
  · have:bs=[]:=List.length_eq_zero_iff.1 hn2
    refine empty this (Any.Builder_String_nil L X w.heap.size b p w ?_)
    rw [←hn1];exact k2
  · by_cases hz:bs=[]
    · by_cases hc0:cap=0
      · subst hc0
        refine empty hz (Any.Builder_String_noroom L X w.heap.size b g p cur w (Nat.le_refl _) ?_ hg2)
        rw [k2,hg1,hz];rfl
      · refine empty hz (Any.Builder_String_room L X w.heap.size b g cap p w hc0 ?_)
        rw [k2,hg1,hz];rfl
    · have hlb:bs.length≠0:=fun e=>hz (List.length_eq_zero_iff.1 e)
      refine (bld_string L X (l:=bs.map fun i=>UInt8.ofNat i.toNat) (cap:=cap) (p:=p) (cur:=cur) (b:=b) (g:=g) (by rw [k2,hg1,hl]) hg2 (by simpa using hz) (by rw [hl];exact hg3) (by rw [hg5];show cap≤cap*(Ty.int .u8).n;simp [Ty.n]) hg4 ?_).mono ?_
      · intro j x hx
        rw [List.getElem?_map] at hx
        cases hj:bs[j]? with
        |none=>rw [hj] at hx;cases hx
        |some i=>
          rw [hj] at hx
          cases hx
          have hi:=hr i (List.mem_of_getElem? hj)
          have hjl:j<bs.length:=(List.getElem?_eq_some_iff.1 hj).1
          have h6:(bs.map (Value.int .u8))[j]?=some (.int .u8 i):=by rw [List.getElem?_map,hj];rfl
          rw [←hg6,List.getElem?_take] at h6
          split at h6
          · have:cur[j]?=some (.int .u8 i):=by simpa using h6
            simp only [World.cell?,hg2]
            rw [this]
            have h9:=u8_back i hi.1 hi.2
            exact congrArg (fun z=>some (Value.int .u8 z)) h9.symm
          · cases h6
      · rintro e w' ⟨rfl,k,rfl⟩
        obtain ⟨f1,f2,f3,f4⟩:=freeze_parts (w.drewN k) ⟨g,0,none⟩ (bs.map fun i=>UInt8.ofNat i.toNat).length
        have hoth:∀q,q≠g→((w.drewN k).freeze ⟨g,0,none⟩ (bs.map fun i=>UInt8.ofNat i.toNat).length).heap[q]?=w.heap[q]?:=fun q hq=>freeze_other _ _ _ q hq
        have hsz:((w.drewN k).freeze ⟨g,0,none⟩ (bs.map fun i=>UInt8.ofNat i.toNat).length).heap.size=w.heap.size:=f4
        have hS:Same ok ok w ((w.drewN k).freeze ⟨g,0,none⟩ (bs.map fun i=>UInt8.ofNat i.toNat).length):=fun q hq=>⟨hq,hoth q fun e=>hH.sep 1 _ g rfl rfl (by rw [hg1];rfl) (e▸hq)⟩
        refine ⟨_,ρ,ok,rfl,⟨fun l o h=>(by cases h),fun q hq=>(by rw [hsz];exact hH.okl q hq),fun l o q h=>(by cases h),fun l m o p q h=>(by cases h),hH.gl.move hS⟩,one_env (s:=.v false [.str (bytesOf bs)]) (v:=.string (bytesOf bs)) (fun _ _ _ _=>⟨_,rfl,rfl⟩) _ _ _ _,?_⟩
        exact ⟨f1,f2,⟨f3,fun e=>(by rw [hd] at e;cases e)⟩,Nat.le_of_eq hsz.symm,fun q hq hne=>hoth q (fun e=>hne 1 _ rfl rfl (by rw [hg1,e];rfl)),fun _ h=>h,fun _ h=> .inl h,fun l o h=>(by cases h),fun l o q h=>(by cases h)⟩
theorem setCell_other (w:World) (a:Addr) (v:Value) (k:Nat) (h:k≠a.block):(w.setCell a v).heap[k]?=w.heap[k]?:=by
  unfold World.setCell
  simp only [Array.getElem?_modify]
  rw [if_neg (fun e=>h e.symm)]
theorem bld_check_spec [HasG] (hd : HasG.draw = false) {P : Program} {ρs : Shelf.Ren} (L : Lays.n240 P ρs) (X : Builder.X72 P ρs) {f B e8 : Nat} (hf : ρs.f 240 = f) (hB : ρs.t 72 = B) :
    SpecOk P f ⟨1,⟨[(0,.v false [.ptr 0 0])],[(0,true,.box B [.np 0,.ref 1]),(1,true,.arr e8 (.int .u8))],[],2,[]⟩,
      ⟨[(0,.tup [])],[(0,true,.box B [.np 0,.ref 1000]),(1000,true,.arr e8 (.int .u8))],[],1001,[]⟩,fun (bs,_)=>some (bs,())⟩:=by
  subst hf hB
  rintro ⟨bs,⟨⟩⟩ y hxy ρ ok w args hn hH hE
  cases hxy
  obtain ⟨v,h0,hv⟩:=arg_at (i:=0) (c:=.ptr 0 0) hE rfl
  obtain ⟨_,b,h1,rfl⟩:=hv
  obtain ⟨_,b',vs,k1,k2,k3⟩:=hH.ob 0 (.box (ρs.t 72) [.np 0,.ref 1]) rfl
  rw [h1] at k1
  cases k1
  obtain ⟨_,inner,k4,k5⟩:=hH.ob 1 (.arr e8 (.int .u8) bs) rfl
  cases k3 with
  |@cons _ p _ vs hp k3=>
  obtain ⟨v,rfl,hv⟩:=k3.symmOne'
  have hv1:v=ρ 1:=hv.2.1
  have hvo:=hv.2.2
  subst hv1
  rw [args1 hn h0]
  -- another block than the array's
  have hbg:∀g,blk (ρ 1)=some g→g≠b:=fun g hg e=>by
    have:=hH.dis 0 1 _ _ b rfl rfl rfl rfl (by rw [h1];rfl) (by rw [hg,e])
    omega
  have fin:∀(w':World) (p':Value),(p'=.pointer none∨p'=.pointer (some ⟨b,0,none⟩))→w'.heap[b]?=some (.cells #[p',ρ 1] (ρs.t 72) (0,0))→(∀q,q≠b→w'.heap[q]?=w.heap[q]?)→w'.heap.size=w.heap.size→w'.os=w.os→w'.tape=w.tape→w'.output=w.output→
      ∃ v ρ' ok',Ending.returned (.tuple #[]) = .returned v ∧ RepH ρ' ok' w' (hpOut (⟨[(0,.tup [])],[(0,true,.box (ρs.t 72) [.np 0,.ref 1000]),(1000,true,.arr e8 (.int .u8))],[],1001,[]⟩ : Sh) id (bs,())) 1001 ∧
        RepE ρ' ok' w' 1001 (Lv.put (fun _=>none) 0 (some (.tup []))) #[v]∧Exits (hpOut (⟨[(0,.v false [.ptr 0 0])],[(0,true,.box (ρs.t 72) [.np 0,.ref 1]),(1,true,.arr e8 (.int .u8))],[],2,[]⟩:Sh) id (bs,())) ρ ok w (hpOut (⟨[(0,.tup [])],[(0,true,.box (ρs.t 72) [.np 0,.ref 1000]),(1000,true,.arr e8 (.int .u8))],[],1001,[]⟩:Sh) id (bs,())) ρ' ok' w':=by
    intro w' p' hp' q1 q2 q3 q4 q5 q6
    have hokb:∀q,ok q→q≠b:=fun q hq e=>hH.sep 0 _ b rfl rfl (by rw [h1];rfl) (e▸hq)
    have hS:Same ok ok w w':=fun q hq=>⟨hq,q2 q (hokb q hq)⟩
    have hout:∀l o,hpOut (⟨[(0,.tup [])],[(0,true,.box (ρs.t 72) [.np 0,.ref 1000]),(1000,true,.arr e8 (.int .u8))],[],1001,[]⟩:Sh) id (bs,()) l=some o→(l=0∧o=.box (ρs.t 72) [.np 0,.ref 1000])∨(l=1000∧o=.arr e8 (.int .u8) bs):=by
      intro l o h
      have h:Lv.put (Lv.put (fun _=>none) 1000 (some (.arr e8 (.int .u8) bs))) 0 (some (.box (ρs.t 72) [.np 0,.ref 1000])) l=some o:=h
      simp only [Lv.put] at h
      split at h
      · rename_i e;cases h;exact .inl ⟨Nat.eq_of_beq_eq_true e,rfl⟩
      · split at h
        · rename_i e;cases h;exact .inr ⟨Nat.eq_of_beq_eq_true e,rfl⟩
        · cases h
    refine ⟨_,fun l=>if l=1000 then ρ 1 else ρ l,ok,rfl,⟨?_,fun q hq=>(by rw [q3];exact hH.okl q hq),?_,?_,hH.gl.move hS⟩,one_env (s:=.tup []) (v:=.tuple #[]) (fun _ _ _ _=>⟨[],rfl,.nil⟩) _ _ _ _,⟨q4,q5,⟨q6,fun e=>(by rw [hd] at e;cases e)⟩,Nat.le_of_eq q3.symm,?_,fun _ h=>h,fun _ h=> .inl h,?_,?_⟩⟩
    · intro l o h
      rcases hout l o h with ⟨rfl,rfl⟩|⟨rfl,rfl⟩
      · refine ⟨by omega,b,[p',ρ 1],by simpa using h1,q1,.cons ⟨by omega,?_⟩ (.cons ⟨by omega,by simp,hvo⟩ .nil)⟩
        rcases hp' with rfl|rfl
        · exact .inl rfl
        · exact .inr ⟨b,by simpa using h1,rfl⟩
      · refine ⟨by omega,inner,?_,k5.move hS⟩
        simp only [if_true]
        exact ownsRow_same k4 fun g hg=>q2 g (hbg g hg)
    · intro l o q h hw hb hok
      rcases hout l o h with ⟨rfl,rfl⟩|⟨rfl,rfl⟩
      · exact hH.sep 0 _ q rfl rfl (by simpa using hb) hok
      · exact hH.sep 1 _ q rfl rfl (by simpa using hb) hok
    · intro l m o p q h h' hw hw' hb hb'
      rcases hout l o h with ⟨rfl,rfl⟩|⟨rfl,rfl⟩<;>rcases hout m p h' with ⟨rfl,rfl⟩|⟨rfl,rfl⟩
      · rfl
      · have:=hH.dis 0 1 _ _ q rfl rfl rfl rfl (by simpa using hb) (by simpa using hb');omega
      · have:=hH.dis 0 1 _ _ q rfl rfl rfl rfl (by simpa using hb') (by simpa using hb);omega
      · rfl
    · intro q hq hne
      exact q2 q fun e=>hne 0 _ rfl rfl (by rw [h1,e];rfl)
    · intro l o h hl
      rcases hout l o h with ⟨rfl,rfl⟩|⟨rfl,rfl⟩
      · exact ⟨by simp,_,rfl,fun _=>rfl⟩
      · omega
    · intro l o q h hl hw hb
      rcases hout l o h with ⟨rfl,rfl⟩|⟨rfl,rfl⟩
      · omega
      · exact .inr ⟨1,_,rfl,rfl,by simpa using hb⟩
  have hc0:w.cell? ⟨b,0,none⟩=some p:=by simp [World.cell?,k2]
  rcases hp.2 with rfl|⟨b2,e1,rfl⟩
  · refine (Any.Builder_copyCheck_fresh L X b w hc0 (by simp [World.shape?,k2]) (by simp [World.frozen?,k2])).mono ?_
    rintro e w' ⟨rfl,rfl⟩
    refine fin _ _ (.inr rfl) ?_ (fun q hq=>setCell_other w ⟨b,0,none⟩ _ q hq) (by simp [World.setCell]) rfl rfl rfl
    have hlt:=(Array.getElem?_eq_some_iff.1 k2).1
    simp [World.setCell,Array.getElem?_modify,k2]
  · rw [h1] at e1
    cases e1
    refine (Any.Builder_copyCheck_used L X b w hc0).mono ?_
    rintro e w' ⟨rfl,rfl⟩
    exact fin _ _ (.inr rfl) k2 (fun _ _=>rfl) rfl rfl rfl rfl
noncomputable def joinB (xs:List ByteArray) (sep:ByteArray):ByteArray:=⟨(Lib.join (xs.map (·.data.toList)) sep.data.toList).toArray⟩
theorem join_spec [HasG] (hd:HasG.draw=false) {P:Program} {ρs:Shelf.Ren} (L:Lays.n156 P ρs) (X:Builder.Extra P ρs) {f e:Nat} (hf:ρs.f 156=f):
    SpecOk P f ⟨2,⟨[(0,.v false [.sl e .str]),(1,.v false [.str])],[],[],0,[]⟩,⟨[(0,.v false [.str])],[],[],1000,[]⟩,
      fun (xs,sep,_)=>if xs.length≤140737488355328∧(joinB xs sep).size≤140737488355328 then some (joinB xs sep,()) else none⟩:=by
  subst hf
  rintro ⟨xs,sep,⟨⟩⟩ y hxy ρ ok w args hn hH hE
  have hxy:(if xs.length≤140737488355328∧(joinB xs sep).size≤140737488355328 then some (joinB xs sep,()) else none)=some y:=hxy
  split at hxy<;>cases hxy
  rename_i hr
  obtain ⟨v,h0,hv⟩:=arg_at (i:=0) (c:=.sl e .str xs) hE rfl
  obtain ⟨u,h1,hu⟩:=arg_at (i:=1) (c:=.str sep) hE rfl
  have hu:u=.string sep:=hu
  subst hu
  obtain ⟨A,cap,k1,k2,k3⟩:=hv
  cases k1
  rw [args2 hn h0 h1]
  have hlen:(Lib.join (xs.map (·.data.toList)) sep.data.toList).length≤140737488355328:=by
    have:=hr.2
    simpa [joinB,ByteArray.size] using this
  have fin:(Calls P (ρs.f 156) #[.slice A xs.length cap,.string sep] w fun e' w'=>e'=.returned (.string (joinB xs sep))∧Below w.heap.size w w')→Calls P (ρs.f 156) #[.slice A xs.length cap,.string sep] w fun e' w'=>∃v ρ' ok',e'=.returned v∧RepH ρ' ok' w' (fun _=>none) 1000∧
      RepE ρ' ok' w' 1000 (Lv.put (fun _=>none) 0 (some (.v false [.str (joinB xs sep)]))) #[v]∧Exits (fun _=>none) ρ ok w (fun _=>none) ρ' ok' w':=by
    intro hc
    refine hc.mono ?_
    rintro e' w' ⟨rfl,hb⟩
    exact lib_end (so:=⟨[(0,.v false [.str])],[],[],1000,[]⟩) (y:=(joinB xs sep,())) hd hb hH (fun l o h=>by cases h) (one_env fun _ _ _ _=>⟨_,rfl,rfl⟩)
  rcases k3 with rfl|⟨b,o,rfl,hb,hx⟩
  · refine fin ((Any.strings_Join_none L X A cap sep w).mono ?_)
    rintro e' w' ⟨rfl,rfl⟩
    exact ⟨by simp [joinB,Lib.join],Below.refl _ _⟩
  · refine fin ((Any.strings_Join L X b o cap xs sep w ?_ (hH.okl b hb) hr.1 k2 hlen).mono ?_)
    · intro j x hj
      obtain ⟨cs,hc,hcs⟩:=hx j x hj
      cases hc
      have:=hcs 0 _ rfl
      simpa [Ty.n] using this
    · rintro e' w' ⟨rfl,hb⟩
      exact ⟨rfl,hb⟩
end Lv
end
section
namespace Lv
open Go Go.RowKit
/-! ## Words of the plain laws -/
theorem loopM_q {S R:Type} (body:S→Option (S⊕R)) (s:S):loopM body s=match body s with
    |some (.inl s')=>loopM body s'
    |some (.inr r)=>some r
    |none=>none:=@loopM_eq ⟨[],fun _=>True,false,fun _ _ _ _=>trivial⟩ S R body s
theorem i64_wrap {i:Int} (h1:-9223372036854775808≤i) (h2:i<9223372036854775808):IntKind.i64.wrap i=i:=by rw [IntKind.wrap_i64];omega
/--a fold that may stop -/
def foldS {α St R : Type} (step : α → St → Option (St ⊕ R)) (fin : St → Option R) : List α → St → Option R
  | [],st=>fin st
  |a::r,st=>match step a st with
    |some (.inl st')=>foldS step fin r st'
    |some (.inr q)=>some q
    |none=>none
/--'for i:=0;i<len(l);i++' -/
theorem loop_list {α St S R:Type} {body:S→Option (S⊕R)} (mk:Int→St→S) (l:List α) (hl:l.length<9223372036854775807) (step:α→St→Option (St⊕R)) (fin:St→Option R)
    (h:∀(i:Nat) (hi:i<l.length) st,body (mk i st)=match step l[i] st with|some (.inl st')=>some (.inl (mk (i+1:Nat) st'))|some (.inr q)=>some (.inr q)|none=>none)
    (h':∀st,body (mk l.length st)=(fin st).map .inr):∀(i:Nat),i≤l.length→∀st,loopM body (mk i st)=foldS step fin (l.drop i) st:=by
  intro i hi
  generalize hk:l.length-i=k
  induction k generalizing i with
  |zero=>
    intro st
    have:i=l.length:=by omega
    subst this
    rw [loopM_q,h',List.drop_length]
    cases hf:fin st<;>simp [foldS,hf]
  |succ k ih=>
    intro st
    have hlt:i<l.length:=by omega
    rw [loopM_q,h i hlt,List.drop_eq_getElem_cons hlt,foldS]
    cases hs:step l[i] st with
    |none=>rfl
    |some z=>
      cases z with
      |inl st'=>exact ih (i+1) (by omega) (by omega) st'
      |inr q=>rfl
theorem loop_l0 {α St S R:Type} {body:S→Option (S⊕R)} (mk:Int→St→S) (l:List α) (hl:l.length<9223372036854775807) (step:α→St→Option (St⊕R)) (fin:St→Option R)
    (h:∀(i:Nat) (hi:i<l.length) st,body (mk i st)=match step l[i] st with|some (.inl st')=>some (.inl (mk (i+1:Nat) st'))|some (.inr q)=>some (.inr q)|none=>none)
    (h':∀st,body (mk l.length st)=(fin st).map .inr) (st:St):loopM body (mk 0 st)=foldS step fin l st:=
  loop_list mk l hl step fin h h' 0 (Nat.zero_le _) st
/--.. a total one -/
def foldT {α St R : Type} (step : α → St → St ⊕ R) (fin : St → R) : List α → St → R
  | [],st=>fin st
  |a::r,st=>match step a st with
    | .inl st'=>foldT step fin r st'
    | .inr q=>q
/--'for i:=0;i<len(l);i++',with what holds in each round -/
theorem loop_T {α St S R:Type} {body:S→Option (S⊕R)} (mk:Int→St→S) (l:List α) (I:Nat→St→Prop) (step:α→St→St⊕R) (fin:St→R)
    (h:∀(i:Nat) (hi:i<l.length) st,I i st→body (mk i st)=some (match step l[i] st with| .inl st'=> .inl (mk (i+1:Nat) st')| .inr q=> .inr q)∧∀st',step l[i] st=.inl st'→I (i+1) st')
    (h':∀st,I l.length st→body (mk l.length st)=some (.inr (fin st))) (st:St) (h0:I 0 st):loopM body (mk 0 st)=some (foldT step fin l st):=by
  have go:∀(k i:Nat),l.length-i=k→i≤l.length→∀st,I i st→loopM body (mk i st)=some (foldT step fin (l.drop i) st):=by
    intro k
    induction k with
    |zero=>
      intro i hk hi st hI
      have:i=l.length:=by omega
      subst this
      rw [loopM_q,h' st hI,List.drop_length]
      rfl
    |succ k ih=>
      intro i hk hi st hI
      have hlt:i<l.length:=by omega
      obtain ⟨e,hn⟩:=h i hlt st hI
      rw [loopM_q,e,List.drop_eq_getElem_cons hlt,foldT]
      cases hs:step l[i] st with
      |inl st'=>exact ih (i+1) (by omega) (by omega) st' (hn st' hs)
      |inr q=>rfl
  exact go _ 0 rfl (Nat.zero_le _) st h0
theorem loop_TB {α St S R Q:Type} {body:S→Option (S⊕R)} {K:R→Option Q} (mk:Int→St→S) (l:List α) (I:Nat→St→Prop) (step:α→St→St⊕R) (fin:St→R)
    (h:∀(i:Nat) (hi:i<l.length) st,I i st→body (mk i st)=some (match step l[i] st with| .inl st'=> .inl (mk (i+1:Nat) st')| .inr q=> .inr q)∧∀st',step l[i] st=.inl st'→I (i+1) st')
    (h':∀st,I l.length st→body (mk l.length st)=some (.inr (fin st))) (st:St) (h0:I 0 st):Option.bind (loopM body (mk 0 st)) K=K (foldT step fin l st):=by
  rw [loop_T mk l I step fin h h' st h0];rfl
theorem wrap_s {i n:Nat} (h:i<n) (hn:n<9223372036854775808):IntKind.i64.wrap ((i:Int)+1)=((i+1:Nat):Int):=by rw [i64_wrap]<;>omega
theorem getD_at {α:Type} {l:List α} {i:Nat} (h:i<l.length) (d:α):l.getD i d=l[i]:=by
  rw [List.getD_eq_getElem?_getD,List.getElem?_eq_getElem h];rfl
theorem cond_dec {α:Type} (p:Prop) [Decidable p] (a b:α):(bif decide p then a else b)=if p then a else b:=by by_cases h:p<;>simp [h]
theorem beq_bytes (a b:ByteArray):(a.toList==b.toList)=decide (a=b):=by
  rw [ByteArray.toList_eq,ByteArray.toList_eq]
  by_cases h:a=b
  · subst h;simp
  · have:¬a.data.toList=b.data.toList:=fun e=>h (Go.WideShapes.bytes_inj e)
    rw [beq_eq_false_iff_ne.2 this];simp [h]
theorem bytes_beq (a b:ByteArray):(a==b)=decide (a=b):=by
  show (a.data==b.data)=_
  by_cases h:a=b
  · subst h;simp
  · have:¬a.data=b.data:=fun e=>h (by cases a;cases b;simp at e;subst e;rfl)
    rw [beq_eq_false_iff_ne.2 this];simp [h]
/--'==' of plain data -/
def Ty.plain:Ty→Bool
  | .int _=>true| .bool=>true| .str=>true| .pair a b=>a.plain&&b.plain|_=>false
theorem Ty.eq_dec:∀(t:Ty),t.plain=true→∀x y:t.T,t.eq x y=true↔x=y
  | .int _,_,x,y=>by simp [Ty.eq]
  | .bool,_,x,y=>by simp [Ty.eq]
  | .str,_,x,y=>by simp [Ty.eq,bytes_beq]
  | .pair a b,h,x,y=>by
    simp only [Ty.plain,Bool.and_eq_true] at h
    obtain ⟨x1,x2⟩:=x
    obtain ⟨y1,y2⟩:=y
    simp only [Ty.eq,Bool.and_eq_true,Ty.eq_dec a h.1,Ty.eq_dec b h.2,Prod.mk.injEq]
/--a loop by a measure -/
theorem loop_m {S R : Type} {body : S → Option (S ⊕ R)} (m : S → Nat) (I : S → Prop) (Q : S → R → Prop)
    (h:∀s,I s→(∃s',body s=some (.inl s')∧I s'∧m s'<m s∧∀r,Q s' r→Q s r)∨∃r,body s=some (.inr r)∧Q s r):
    ∀s,I s→∃r,loopM body s=some r∧Q s r:=by
  have go:∀n s,m s≤n→I s→∃r,loopM body s=some r∧Q s r:=by
    intro n
    induction n with
    |zero=>
      intro s hm hI
      rcases h s hI with ⟨s',e,hI',hlt,hq⟩|⟨r,e,hq⟩
      · omega
      · exact ⟨r,by rw [loopM_q,e],hq⟩
    |succ n ih=>
      intro s hm hI
      rcases h s hI with ⟨s',e,hI',hlt,hq⟩|⟨r,e,hq⟩
      · obtain ⟨r,h1,h2⟩:=ih s' (by omega) hI'
        exact ⟨r,by rw [loopM_q,e];exact h1,hq r h2⟩
      · exact ⟨r,by rw [loopM_q,e],hq⟩
  exact fun s hI=>go (m s) s (Nat.le_refl _) hI
/--a loop that computes a function of its state -/
theorem loop_f {S R:Type} {body:S→Option (S⊕R)} (m:S→Nat) (I:S→Prop) (f:S→R)
    (h:∀s,I s→(∃s',body s=some (.inl s')∧I s'∧m s'<m s∧f s'=f s)∨body s=some (.inr (f s))):
    ∀s,I s→loopM body s=some (f s):=fun s hI=>by
  obtain ⟨r,h1,h2⟩:=loop_m m I (fun s r=>r=f s) (fun s hI=>by
    rcases h s hI with ⟨s',a,b,c,d⟩|a
    · exact .inl ⟨s',a,b,c,fun r hr=>by rw [hr,d]⟩
    · exact .inr ⟨_,a,rfl⟩) s hI
  rw [h1,h2]
theorem agreeL_two {R:Type} (x:Option R):agreeL [x,x]=x:=by simp [agreeL]
theorem agreeL_three {R:Type} (x:Option R):agreeL [x,x,x]=x:=by simp [agreeL]
end Lv
end
section
namespace Lv
open Go Go.RowKit Go.ChangeShapes Go.WideShapes Go.ChangeAt
variable [HasG] {H:Type} {enc:TypeId×Value→H}
/--a law's row that lists variables -/
theorem law_card {C : Checked} {g : FuncId} {fn : Func} {s : ChangeSpec} {os : Os} {l : List (Ty × Bool)} {rt : TypeId} {F : TS ⟨argSl 0 l,[],[],0,[]⟩ → Option (TS boolSo)} {laid : List (String × DataW Unit)}
    (own:ownKnob C.prog.godebug=none) (started:os.Started) (noInit:C.prog.inits.idxOf? g=none) (hfn:C.prog.funcs[g]?=some fn) (hl:laidOutB C.prog=true)
    (witness:∃(w:World) (tape:Tape) (i:Input),w.os=os∧(w.forCall tape i).Shaped C.prog∧i.vars=[]∧Input.okWide C.prog (w.forCall tape i) .any w.heap.size g i∧
      ((s.pre enc C.prog fn [] false (w.forCall tape i).memory i.args∧laidMetH C.prog laid (w.forCall tape i).memory)∧sizedMet enc C.prog fn (OpenSpec.ofChange s) false (w.forCall tape i).memory i.args)∧({}:Assume).holds C.prog (lone (Frame.enter C.prog g i.args .normal) [] (w.forCall tape i)))
    (hvars:s.vars=[]) (hspec:∀ds:List (DataW H),ds.length=l.length→s.fn H ds={results:=[.lit (.bool true)],args:=ds})
    (hrt:fn.resultTypes=#[rt]) (hru:C.prog.underlying rt=some .bool) (hp:prmB C.prog fn.params.toList l=true)
    (hs:SpecOk C.prog g ⟨l.length,⟨argSl 0 l,[],[],0,[]⟩,boolSo,F⟩) (hF:∀x:ArgT l,argIn C.prog l x→F (argX 0 l x)=some (true,()))
    (hG:∀W:World,W.ShapedOpen C.prog→laidMetH C.prog laid W→Glb (· <W.heap.size) W):
    ReturnsInHanded {} C os g .any (fun w args=>(s.pre enc C.prog fn [] false w args∧laidMetH C.prog laid w)∧sizedMet enc C.prog fn (OpenSpec.ofChange s) false w args) (s.post enc C.prog fn false true false false):=by
  refine returnsInHanded_of_calls own started noInit witness ?_
  intro w tape i _ hsh _ hok hpre hholds
  obtain ⟨_,_,_,fn',hfn',_,_,_,_,hval0⟩:=hok
  have e:fn'=fn:=Option.some.inj (hfn'.symm.trans hfn)
  subst e
  obtain ⟨⟨⟨ds,gs,before,hw,hc⟩,hlaid⟩,hz⟩:=hpre
  have hw':=DataW.Whole.of_heap (w':=w.forCall tape i) (by rfl) hw
  have hlaid':laidMetH C.prog laid (w.forCall tape i):=laidMetH.of_heap (w:=(w.forCall tape i).memory) (w':=w.forCall tape i) (by rfl) hlaid
  have main:Calls C.prog g i.args (w.forCall tape i) fun e W'=>∃v,e=.returned v∧s.post enc C.prog fn' false true false false (w.forCall tape i) i.args v W':=by
    generalize w.forCall tape i=W at hw' hlaid' hsh hval0
    have hsz:=hz.weights hw
    have hW:=hw'
    have hW':=hw'
    obtain ⟨p,q,hA,hV,rfl,_,_⟩:=hW
    rw [hvars] at hV
    obtain ⟨rfl,rfl⟩:=trodVars_none hV
    have hlen:∀{ts:List TypeId} {vs:List Value} {ds:List (DataW H)} {ps:List MemPlace} {l:List (Ty×Bool)},prmB C.prog ts l=true→DataW.TrodAll enc C.prog W 0 (fun _=>true) true ts vs ds ps→vs.length=l.length∧ds.length=l.length:=by
      intro ts
      induction ts with
      |nil=>
        intro vs ds ps l hp h
        obtain ⟨rfl,rfl,rfl⟩:=trodAll_nil h
        match l,hp with
        | [],_=>exact ⟨rfl,rfl⟩
      |cons t ts ih=>
        intro vs ds ps l hp h
        obtain ⟨v,vs,d,ds,p,q,rfl,rfl,rfl,_,h2⟩:=trodAll_cons h
        match l,hp with
        |(ty,a)::l,hp=>
          simp only [prmB,Bool.and_eq_true] at hp
          obtain ⟨e1,e2⟩:=ih hp.2 h2
          exact ⟨by simp [e1],by simp [e2]⟩
    obtain ⟨hl1,hl2⟩:=hlen hp hA
    have hv0:s.plain.varTypes C.prog=[]:=by
      have:s.plain.vars=[]:=hvars
      unfold DataSpec.varTypes
      rw [this];rfl
    have hval':∀(j:Nat) (t:TypeId) (v:Value),fn'.params.toList[j]?=some t→i.args.toList[j]?=some v→Value.okWide C.prog W .any w.heap.size t v:=fun j t v e1 e2=>by
      have:=hval0 j t v (by simpa using e1) (by simpa using e2)
      exact this
    have hsz:(DataW.weightsEach C.prog (fn'.params.toList++s.plain.varTypes C.prog) (ds++ [])).all (· ≤reachBytes)=true:=hsz
    rw [hv0,List.append_nil,List.append_nil] at hsz
    obtain ⟨x,k1,k2⟩:=trodAll_argK hp hA (fun j t v e1 e2=>hval' j t v e1 e2) hsz
    refine (law_calls hs (hF x k2) (by rw [←Array.length_toList,hl1]) k1 (hG _ hsh hlaid')).mono ?_
    rintro e w' ⟨rfl,hb⟩
    refine ⟨_,rfl,ds,[],p++ [],[],p,[],hW',?_,?_,?_,hb.frame _,fun h=>by cases h⟩
    · rw [List.append_nil,hspec ds hl2,hrt]
      exact trodAll_mk1 (shut_bool hru _)
    · rw [List.append_nil,hspec ds hl2]
      exact trodAll_below hl hb hp hA
    · rw [List.append_nil,hspec ds hl2,hvars]
      rfl
  refine main.mono fun e W' ⟨v,he,hp⟩=>?_
  subst he
  exact ChangeSpec.post_blind hp
end Lv
end
section
namespace Lv
open Go Go.RowKit
section
variable [HasG]
/--a contract of the library's that turns nothing:two strings,a number -/
theorem str2s_spec {P:Program} {f:Nat} {F:ByteArray→ByteArray→Int} (h:∀a b w,Calls P f #[.string a,.string b] w fun e w'=>e=.returned (.int .i64 (F a b))∧w'=w):
    SpecOk P f ⟨2,⟨[(0,.v false [.str]),(1,.v false [.str])],[],[],0,[]⟩,⟨[(0,.v false [.int .i64])],[],[],1000,[]⟩,fun (a,b,_)=>some (F a b,())⟩:=by
  rintro ⟨a,b,u⟩ y hy ρ ok w args hn hH hE
  cases hy
  obtain ⟨v0,e0,c0,k0,r0⟩:=hE 0 (.v false [.str a]) rfl
  obtain ⟨v1,e1,c1,k1,r1⟩:=hE 1 (.v false [.str b]) rfl
  cases k0;cases k1
  have r0:v0=.string a:=r0
  have r1:v1=.string b:=r1
  subst r0 r1
  have ha:args=#[.string a,.string b]:=by
    obtain ⟨l⟩:=args
    match l,hn,e0,e1 with
    | [x,y],_,e0,e1=>simp at e0 e1;subst e0 e1;rfl
  subst ha
  refine (h a b w).mono ?_
  rintro e w' ⟨rfl,rfl⟩
  refine ⟨_,ρ,ok,rfl,⟨fun l o h=>(by cases h),hH.okl,fun l o b h=>(by cases h),fun l m o p b h=>(by cases h),hH.gl⟩,?_,
    ⟨rfl,rfl,Quiet.rfl,Nat.le_refl _,fun _ _ _=>rfl,fun _ h=>h,fun _ h=> .inl h,fun _ _ h=>(by cases h),fun _ _ _ h=>(by cases h)⟩⟩
  intro t s hs
  have hs:Lv.put (fun _=>none) 0 (some (Slot.v false [.int .i64 (F a b)])) t=some s:=hs
  simp only [Lv.put] at hs
  split at hs
  · rename_i ht
    have:=Nat.eq_of_beq_eq_true ht
    subst this
    cases hs
    exact ⟨_,rfl,_,rfl,rfl⟩
  · cases hs
end
/--a contract that says what is drawn is one that doesn't -/
theorem spec_draw {P Q:Program} {G:List (String×Nat×(Array Value→Prop))} {g:FuncId} {sp:Spec} (h:@SpecOk (varG Q G true) P g sp):@SpecOk (varG Q G false) P g sp:=by
  intro x y hF ρ ok w args hn hH hE
  obtain ⟨a1,a2,a3,a4,a5⟩:=hH
  refine (h x y hF ρ ok w args hn (@RepH.mk (varG Q G true) _ _ _ _ _ a1 a2 a3 a4 a5) hE).mono ?_
  rintro e w' ⟨v,ρ',ok',h1,⟨b1,b2,b3,b4,b5⟩,h3,⟨c1,c2,c3,c4,c5,c6,c7,c8,c9⟩⟩
  exact ⟨v,ρ',ok',h1,@RepH.mk (varG Q G false) _ _ _ _ _ b1 b2 b3 b4 b5,h3,@Exits.mk (varG Q G false) _ _ _ _ _ _ _ _ c1 c2 ⟨c3.1,fun e=>by cases e⟩ c4 c5 c6 c7 c8 c9⟩
end Lv
end
section
set_option maxRecDepth 100000
namespace Go.Proofs.Ytniojllnooblcaa
open Go Lv Go.Proofs Go.RowKit Go.Shelf
def Tryz.lays171_ren:Go.Shelf.Ren:=⟨fun|171=>69|243=>104|246=>133|283=>163|284=>164|285=>165|286=>166|129=>102|317=>180|318=>181|319=>182|320=>183|337=>195|338=>196|n=>n,fun|3=>3|9=>9|2=>2|4=>4|171=>251|0=>0|53=>185|37=>191|5=>5|173=>253|212=>265|51=>183|20=>20|213=>266|46=>138|232=>274|233=>275|n=>n,fun|17=>1|18=>2|19=>3|n=>n⟩
theorem Tryz.lays171:Go.Proofs.LaysM.n171 Tryz.prog Tryz.lays171_ren where
  mixed:=by kernel_rfl
  f129:=Tryz.func102.trans (congrArg some (by kernel_rfl))
  f171:=Tryz.func69.trans (congrArg some (by kernel_rfl))
  f243:=Tryz.func104.trans (congrArg some (by kernel_rfl))
  f246:=Tryz.func133.trans (congrArg some (by kernel_rfl))
  f283:=Tryz.func163.trans (congrArg some (by kernel_rfl))
  f284:=Tryz.func164.trans (congrArg some (by kernel_rfl))
  f285:=Tryz.func165.trans (congrArg some (by kernel_rfl))
  f286:=Tryz.func166.trans (congrArg some (by kernel_rfl))
  f317:=Tryz.func180.trans (congrArg some (by kernel_rfl))
  f318:=Tryz.func181.trans (congrArg some (by kernel_rfl))
  f319:=Tryz.func182.trans (congrArg some (by kernel_rfl))
  f320:=Tryz.func183.trans (congrArg some (by kernel_rfl))
  f337:=Tryz.func195.trans (congrArg some (by kernel_rfl))
  f338:=Tryz.func196.trans (congrArg some (by kernel_rfl))
  t0:=Tryz.underlying0
  a0:=Tryz.isAgg0
  z0:=Tryz.sizeOf0
  v0:=Tryz.zeroValue0
  t2:=Tryz.underlying2
  a2:=Tryz.isAgg2
  z2:=Tryz.sizeOf2
  v2:=Tryz.zeroValue2
  t3:=Tryz.underlying3
  a3:=Tryz.isAgg3
  z3:=Tryz.sizeOf3
  v3:=Tryz.zeroValue3
  t4:=Tryz.underlying4
  a4:=Tryz.isAgg4
  z4:=Tryz.sizeOf4
  v4:=Tryz.zeroValue4
  t5:=Tryz.underlying5
  a5:=Tryz.isAgg5
  z5:=Tryz.sizeOf5
  v5:=Tryz.zeroValue5
  t9:=Tryz.underlying9
  a9:=Tryz.isAgg9
  z9:=Tryz.sizeOf9
  v9:=Tryz.zeroValue9
  t20:=Tryz.underlying20
  a20:=Tryz.isAgg20
  z20:=Tryz.sizeOf20
  v20:=Tryz.zeroValue20
  t37:=Tryz.underlying191
  a37:=Tryz.isAgg191
  z37:=Tryz.sizeOf191
  v37:=Tryz.zeroValue191
  t46:=Tryz.underlying138
  a46:=Tryz.isAgg138
  z46:=Tryz.sizeOf138
  v46:=Tryz.zeroValue138
  t51:=Tryz.underlying183
  a51:=Tryz.isAgg183
  z51:=Tryz.sizeOf183
  v51:=Tryz.zeroValue183
  t53:=Tryz.underlying185
  a53:=Tryz.isAgg185
  z53:=Tryz.sizeOf185
  v53:=Tryz.zeroValue185
  t171:=Tryz.underlying251
  a171:=Tryz.isAgg251
  z171:=Tryz.sizeOf251
  v171:=Tryz.zeroValue251
  t173:=Tryz.underlying253
  a173:=Tryz.isAgg253
  z173:=Tryz.sizeOf253
  v173:=Tryz.zeroValue253
  t212:=Tryz.underlying265
  a212:=Tryz.isAgg265
  z212:=Tryz.sizeOf265
  v212:=Tryz.zeroValue265
  t213:=Tryz.underlying266
  a213:=Tryz.isAgg266
  z213:=Tryz.sizeOf266
  t232:=Tryz.underlying274
  a232:=Tryz.isAgg274
  z232:=Tryz.sizeOf274
  v232:=Tryz.zeroValue274
  t233:=Tryz.underlying275
  a233:=Tryz.isAgg275
  z233:=Tryz.sizeOf275
  v233:=Tryz.zeroValue275
  g17:=by kernel_rfl
  g18:=by kernel_rfl
  g19:=by kernel_rfl
  i0:=by kernel_rfl
  i2:=by kernel_rfl
  i3:=by kernel_rfl
  i4:=by kernel_rfl
  i5:=by kernel_rfl
  i9:=by kernel_rfl
  i20:=by kernel_rfl
  i37:=by kernel_rfl
  i46:=by kernel_rfl
  i51:=by kernel_rfl
  i53:=by kernel_rfl
  i171:=by kernel_rfl
  i173:=by kernel_rfl
  i212:=by kernel_rfl
  i232:=by kernel_rfl
  i233:=by kernel_rfl
  m17:=by kernel_rfl
  m18:=by kernel_rfl
  m19:=by kernel_rfl
def Tryz.lays155_ren:Go.Shelf.Ren:=⟨fun|155=>140|154=>169|138=>185|165=>114|143=>186|166=>115|197=>187|169=>116|195=>197|218=>198|240=>141|241=>142|219=>199|260=>200|276=>170|277=>171|217=>201|225=>202|224=>203|267=>204|266=>205|314=>206|n=>n,fun|9=>9|3=>3|4=>4|72=>193|0=>0|76=>197|105=>268|21=>21|5=>5|70=>190|20=>20|37=>191|75=>196|127=>231|164=>256|46=>138|119=>276|139=>279|138=>278|146=>280|51=>183|80=>199|n=>n,fun|1=>0|3=>4|4=>5|n=>n⟩
theorem Tryz.lays155:Go.Proofs.Lays.n155 Tryz.prog Tryz.lays155_ren where
  mixed:=by kernel_rfl
  f138:=Tryz.func185.trans (congrArg some (by kernel_rfl))
  f143:=Tryz.func186.trans (congrArg some (by kernel_rfl))
  f154:=Tryz.func169.trans (congrArg some (by kernel_rfl))
  f155:=Tryz.func140.trans (congrArg some (by kernel_rfl))
  f165:=Tryz.func114.trans (congrArg some (by kernel_rfl))
  f166:=Tryz.func115.trans (congrArg some (by kernel_rfl))
  f169:=Tryz.func116.trans (congrArg some (by kernel_rfl))
  f195:=Tryz.func197.trans (congrArg some (by kernel_rfl))
  f197:=Tryz.func187.trans (congrArg some (by kernel_rfl))
  f217:=Tryz.func201.trans (congrArg some (by kernel_rfl))
  f218:=Tryz.func198.trans (congrArg some (by kernel_rfl))
  f219:=Tryz.func199.trans (congrArg some (by kernel_rfl))
  f224:=Tryz.func203.trans (congrArg some (by kernel_rfl))
  f225:=Tryz.func202.trans (congrArg some (by kernel_rfl))
  f240:=Tryz.func141.trans (congrArg some (by kernel_rfl))
  f241:=Tryz.func142.trans (congrArg some (by kernel_rfl))
  f260:=Tryz.func200.trans (congrArg some (by kernel_rfl))
  f266:=Tryz.func205.trans (congrArg some (by kernel_rfl))
  f267:=Tryz.func204.trans (congrArg some (by kernel_rfl))
  f276:=Tryz.func170.trans (congrArg some (by kernel_rfl))
  f277:=Tryz.func171.trans (congrArg some (by kernel_rfl))
  f314:=Tryz.func206.trans (congrArg some (by kernel_rfl))
  t0:=Tryz.underlying0
  a0:=Tryz.isAgg0
  z0:=Tryz.sizeOf0
  v0:=Tryz.zeroValue0
  t3:=Tryz.underlying3
  a3:=Tryz.isAgg3
  z3:=Tryz.sizeOf3
  v3:=Tryz.zeroValue3
  t4:=Tryz.underlying4
  a4:=Tryz.isAgg4
  z4:=Tryz.sizeOf4
  v4:=Tryz.zeroValue4
  t5:=Tryz.underlying5
  a5:=Tryz.isAgg5
  z5:=Tryz.sizeOf5
  v5:=Tryz.zeroValue5
  t9:=Tryz.underlying9
  a9:=Tryz.isAgg9
  z9:=Tryz.sizeOf9
  v9:=Tryz.zeroValue9
  t20:=Tryz.underlying20
  a20:=Tryz.isAgg20
  z20:=Tryz.sizeOf20
  v20:=Tryz.zeroValue20
  t21:=Tryz.underlying21
  a21:=Tryz.isAgg21
  z21:=Tryz.sizeOf21
  v21:=Tryz.zeroValue21
  t37:=Tryz.underlying191
  a37:=Tryz.isAgg191
  z37:=Tryz.sizeOf191
  v37:=Tryz.zeroValue191
  t46:=Tryz.underlying138
  a46:=Tryz.isAgg138
  z46:=Tryz.sizeOf138
  v46:=Tryz.zeroValue138
  t51:=Tryz.underlying183
  a51:=Tryz.isAgg183
  z51:=Tryz.sizeOf183
  v51:=Tryz.zeroValue183
  t70:=Tryz.underlying190
  a70:=Tryz.isAgg190
  z70:=Tryz.sizeOf190
  v70:=Tryz.zeroValue190
  t72:=Tryz.underlying193
  a72:=Tryz.isAgg193
  z72:=Tryz.sizeOf193
  v72:=Tryz.zeroValue193
  t75:=Tryz.underlying196
  a75:=Tryz.isAgg196
  z75:=Tryz.sizeOf196
  v75:=Tryz.zeroValue196
  t76:=Tryz.underlying197
  a76:=Tryz.isAgg197
  z76:=Tryz.sizeOf197
  v76:=Tryz.zeroValue197
  t105:=Tryz.underlying268
  a105:=Tryz.isAgg268
  z105:=Tryz.sizeOf268
  v105:=Tryz.zeroValue268
  t119:=Tryz.underlying276
  a119:=Tryz.isAgg276
  z119:=Tryz.sizeOf276
  t127:=Tryz.underlying231
  a127:=Tryz.isAgg231
  z127:=Tryz.sizeOf231
  v127:=Tryz.zeroValue231
  t138:=Tryz.underlying278
  a138:=Tryz.isAgg278
  z138:=Tryz.sizeOf278
  v138:=Tryz.zeroValue278
  t139:=Tryz.underlying279
  a139:=Tryz.isAgg279
  z139:=Tryz.sizeOf279
  v139:=Tryz.zeroValue279
  t146:=Tryz.underlying280
  a146:=Tryz.isAgg280
  z146:=Tryz.sizeOf280
  v146:=Tryz.zeroValue280
  t164:=Tryz.underlying256
  a164:=Tryz.isAgg256
  z164:=Tryz.sizeOf256
  v164:=Tryz.zeroValue256
  g1:=by kernel_rfl
  g3:=by kernel_rfl
  g4:=by kernel_rfl
def Tryz.lays156_ren:Go.Shelf.Ren:=⟨fun|156=>77|165=>114|166=>115|169=>116|240=>141|241=>142|276=>170|277=>171|n=>n,fun|31=>37|9=>9|3=>3|4=>4|0=>0|20=>20|72=>193|76=>197|70=>190|37=>191|75=>196|127=>231|164=>256|5=>5|80=>199|n=>n,fun|n=>n⟩
theorem Tryz.lays156:Go.Proofs.Lays.n156 Tryz.prog Tryz.lays156_ren where
  mixed:=by kernel_rfl
  f156:=Tryz.func77.trans (congrArg some (by kernel_rfl))
  f165:=Tryz.func114.trans (congrArg some (by kernel_rfl))
  f166:=Tryz.func115.trans (congrArg some (by kernel_rfl))
  f169:=Tryz.func116.trans (congrArg some (by kernel_rfl))
  f240:=Tryz.func141.trans (congrArg some (by kernel_rfl))
  f241:=Tryz.func142.trans (congrArg some (by kernel_rfl))
  f276:=Tryz.func170.trans (congrArg some (by kernel_rfl))
  f277:=Tryz.func171.trans (congrArg some (by kernel_rfl))
  t0:=Tryz.underlying0
  a0:=Tryz.isAgg0
  z0:=Tryz.sizeOf0
  v0:=Tryz.zeroValue0
  t3:=Tryz.underlying3
  a3:=Tryz.isAgg3
  z3:=Tryz.sizeOf3
  v3:=Tryz.zeroValue3
  t4:=Tryz.underlying4
  a4:=Tryz.isAgg4
  z4:=Tryz.sizeOf4
  v4:=Tryz.zeroValue4
  t9:=Tryz.underlying9
  a9:=Tryz.isAgg9
  z9:=Tryz.sizeOf9
  v9:=Tryz.zeroValue9
  t20:=Tryz.underlying20
  a20:=Tryz.isAgg20
  z20:=Tryz.sizeOf20
  v20:=Tryz.zeroValue20
  t31:=Tryz.underlying37
  a31:=Tryz.isAgg37
  z31:=Tryz.sizeOf37
  v31:=Tryz.zeroValue37
  t37:=Tryz.underlying191
  a37:=Tryz.isAgg191
  z37:=Tryz.sizeOf191
  v37:=Tryz.zeroValue191
  t70:=Tryz.underlying190
  a70:=Tryz.isAgg190
  z70:=Tryz.sizeOf190
  v70:=Tryz.zeroValue190
  t72:=Tryz.underlying193
  a72:=Tryz.isAgg193
  z72:=Tryz.sizeOf193
  v72:=Tryz.zeroValue193
  t75:=Tryz.underlying196
  a75:=Tryz.isAgg196
  z75:=Tryz.sizeOf196
  v75:=Tryz.zeroValue196
  t76:=Tryz.underlying197
  a76:=Tryz.isAgg197
  z76:=Tryz.sizeOf197
  v76:=Tryz.zeroValue197
  t127:=Tryz.underlying231
  a127:=Tryz.isAgg231
  z127:=Tryz.sizeOf231
  v127:=Tryz.zeroValue231
  t164:=Tryz.underlying256
  a164:=Tryz.isAgg256
  z164:=Tryz.sizeOf256
  v164:=Tryz.zeroValue256
def Tryz.lays106_ren:Go.Shelf.Ren:=⟨fun|106=>57|213=>92|265=>127|n=>n,fun|9=>9|3=>3|n=>n,fun|n=>n⟩
theorem Tryz.lays106:Go.Proofs.Lays.n106 Tryz.prog Tryz.lays106_ren where
  mixed:=by kernel_rfl
  f106:=Tryz.func57.trans (congrArg some (by kernel_rfl))
  f213:=Tryz.func92.trans (congrArg some (by kernel_rfl))
  f265:=Tryz.func127.trans (congrArg some (by kernel_rfl))
  t3:=Tryz.underlying3
  a3:=Tryz.isAgg3
  z3:=Tryz.sizeOf3
  v3:=Tryz.zeroValue3
  t9:=Tryz.underlying9
  a9:=Tryz.isAgg9
  z9:=Tryz.sizeOf9
  v9:=Tryz.zeroValue9
@[reducible] noncomputable def gvars : List (String × Nat × (Array Value → Prop)) := [
  ("internal/bytealg.MaxLen", 0, fun cs => ∃ m, cs[0]? = some (.int .i64 m)),
  ("internal/strconv.uint64pow10", 1, fun cs => cs = (Lib.pow10Tab.map fun z => Value.int .u64 z).toArray)]
noncomputable instance hasG:HasG:=varG Tryz.prog gvars false
theorem g0 {w:World} (h:HasG.hold w):∃m,w.cell? ⟨0,0,none⟩=some (.int .i64 m):=by
  have h:∀v∈gvars,VarIs Tryz.prog w v:=h
  obtain ⟨h1,cs,h2,m,h3⟩:=h (gvars[0]'(by simp [gvars])) (by simp [gvars])
  exact ⟨m,(World.var?_cell h1 h2 0).trans h3⟩
theorem g1 {w : World} (h : HasG.hold w) : Lib.TabIs Tryz.prog w "internal/strconv.uint64pow10" .u64 Lib.pow10Tab := by
  have h:∀v∈gvars,VarIs Tryz.prog w v:=h
  obtain ⟨h1,cs,h2,rfl⟩:=h (gvars[1]'(by simp [gvars])) (by simp [gvars])
  exact h2
theorem grow_below (w:World) (k:Nat) (os:Array Obj):Below w.heap.size w (Sort.grow (w.drewN k) os):=
  ⟨rfl,rfl,rfl,by simp [Sort.grow],fun b hb=>by simp [Sort.grow,Array.getElem?_append_left,hb]⟩
noncomputable def itoaB (n:Int):ByteArray:=⟨(Lib.itoa n).toArray⟩
noncomputable def itoaF:Int×Unit→Option (ByteArray×Unit):=fun (n,_)=>if -9223372036854775808≤n∧n≤9223372036854775807 then some (itoaB n,()) else none
theorem itoa_ok:SpecOk Tryz.prog 69 ⟨1,⟨[(0,.v false [.int .i64])],[],[],0,[]⟩,⟨[(0,.v false [.str])],[],[],1000,[]⟩,itoaF⟩:=
  i2s_spec (F:=itoaB) rfl fun n w h0 h1 hg=>(Any.strconv_Itoa Tryz.lays171 n h0 h1 w (g1 hg)).mono (by
    rintro e w' ⟨rfl,k,os,rfl⟩
    exact ⟨rfl,grow_below w k os⟩)
theorem bldX:Builder.Extra Tryz.prog Tryz.lays156_ren where
  sizeBuilder:=by kernel_rfl
  liesBuilder:=by kernel_rfl
  t5:=by kernel_rfl
  a5:=run_isAgg_plain (d:=.int .u8) (by kernel_rfl) rfl
  z5:=fun w=>by rfl
  v5:=fun w=>by rfl
  infoByte:=by kernel_rfl
  cellsByte:=by kernel_rfl
  sizeByte:=by kernel_rfl
  neB5:=by decide
noncomputable def replaceB (a b c:ByteArray):ByteArray:=⟨(Lib.replaceAll a.data.toList b.data.toList c.data.toList).toArray⟩
noncomputable def replaceF:ByteArray×ByteArray×ByteArray×Unit→Option (ByteArray×Unit):=fun (a,b,c,_)=>if a.size<4294967281∧1≤b.size∧a.size+Lib.countB a b*c.size≤140737488355328 then some (replaceB a b c,()) else none
theorem replace_ok:SpecOk Tryz.prog 140 ⟨3,⟨[(0,.v false [.str]),(1,.v false [.str]),(2,.v false [.str])],[],[],0,[]⟩,⟨[(0,.v false [.str])],[],[],1000,[]⟩,replaceF⟩:=
  sss2s_spec (F:=replaceB) (C:=fun a b c=>a.size<4294967281∧1≤b.size∧a.size+Lib.countB a b*c.size≤140737488355328) rfl fun a b c w hc hg=>by
    obtain ⟨m,hm⟩:=g0 hg
    exact Any.strings_ReplaceAll Tryz.lays155 {bldX with} a b c m w hc.1 hm hc.2.1 hc.2.2
theorem join_ok:SpecOk Tryz.prog 77 ⟨2,⟨[(0,.v false [.sl 9 .str]),(1,.v false [.str])],[],[],0,[]⟩,⟨[(0,.v false [.str])],[],[],1000,[]⟩,fun (xs,sep,_)=>if xs.length≤140737488355328∧(joinB xs sep).size≤140737488355328 then some (joinB xs sep,()) else none⟩:=
  join_spec rfl Tryz.lays156 bldX rfl
noncomputable def cmpB (a b:ByteArray):Int:=Lib.compareBytes a.data.toList b.data.toList
theorem compare_ok:SpecOk Tryz.prog 57 ⟨2,⟨[(0,.v false [.str]),(1,.v false [.str])],[],[],0,[]⟩,⟨[(0,.v false [.int .i64])],[],[],1000,[]⟩,fun (a,b,_)=>some (cmpB a b,())⟩:=
  str2s_spec (F:=cmpB) fun a b w=>Any.strings_Compare Tryz.lays106 a b w
end Go.Proofs.Ytniojllnooblcaa
end
