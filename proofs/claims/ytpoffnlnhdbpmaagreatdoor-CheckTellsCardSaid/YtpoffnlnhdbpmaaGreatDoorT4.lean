import Derived.Test.YtpoffnlnhdbpmaaGreatDoorT3
import Derived.Shelf.Strings.Builder1
import Derived.Shelf.Strings.OnBuilder
import Derived.HandedShaped
import Derived.ProofKit
import Derived.LaidMore
import Derived.OpenShut
import Derived.Lay
import Derived.Stop.Joined
import Derived.Shelf.Small.Strs
import Derived.Test.YtpoffnlnhdbpmaaGreatDoorProg
import Derived.KernelRfl
import Derived.Shelf.Lays
import Derived.Shelf.LaysM
import Derived.Shelf.LaysC
import Derived.Deep.RegionLaw
import Derived.Shelf.Strconv.Itoa3
import Derived.Shelf.Strconv.ErrVarAll
import Derived.Shelf.Strings.Replace
import Derived.Shelf.Strings.Search3
import Derived.WalkKit
import Derived.Carry
import Derived.Maps.RangeRun
import Derived.Handy
import Derived.Laws.IdiomRangeMap
set_option linter.all false
set_option linter.unusedVariables false
set_option linter.unusedSimpArgs false
set_option linter.unusedSectionVars false
section
namespace Lv
open Go Go.Proofs Go.RowKit Go.Shelf
set_option maxHeartbeats 2000000 in
set_option maxRecDepth 100000 in
theorem uq {P:Program} {ρ:Shelf.Ren} (L:Lays.n169 P ρ) (X:Builder.Extra P ρ) {b g cap:Nat} {p:Value} {cur:Array Value} {l:List UInt8} {w:World} (hbk:w.heap[b]?=some (.cells #[p,.slice (some ⟨g,0,none⟩) l.length cap] (ρ.t 72) (0,0)))
 (hg:w.heap[g]?=some (.cells cur (ρ.t 5) (0,0))) (h0:l≠ []) (hlc:l.length≤cap) (hcs:cap≤cur.size) (hcm:cap≤maxLen) (hcells:∀j x,l[j]?=some x→w.cell? ⟨g,j,none⟩=some (.int .u8 x.toNat)):
 Calls P (ρ.f 169) #[.pointer (some ⟨b,0,none⟩)] w fun e w'=>e=.returned (.string ⟨l.toArray⟩)∧∃k,w'=(w.drewN k).freeze ⟨g,0,none⟩ l.length:=by
 have hl0:l.length≠0:=by simpa using h0
 have c1:w.drew.cell? ⟨b,1,none⟩=some (.slice (some ⟨g,0,none⟩) l.length cap):=by
  have:w.drew.heap[b]?=some (.cells #[p,.slice (some ⟨g,0,none⟩) l.length cap] (ρ.t 72) (0,0)):=hbk
  rw [Lib.cell_of_heap this];rfl
 have hSD:(Builtin.unsafeSliceData_ #[(ρ.t 37)] (ρ.t 127) #[.slice (some ⟨g,0,none⟩) l.length cap]).run P w.drew=.ok (.pointer (some ⟨g,0,none⟩)) w.drew:=
  Lib.run_unsafeSliceData_row _ _ _ _ _ _ (by omega)
 have hUS:(Builtin.unsafeString_ #[(ρ.t 127),(ρ.t 3)] (ρ.t 9) #[.pointer (some ⟨g,0,none⟩),.int .i64 l.length]).run P w.drew=.ok (.string ⟨l.toArray⟩) (w.drew.freeze ⟨g,0,none⟩ l.length):=
  Lib.run_unsafeString_row w.drew (ρ.t 127) (ρ.t 3) (ρ.t 9) (ρ.t 5) L.t127 X.cellsByte g cur.size (by have hg':w.drew.heap[g]?=some (.cells cur (ρ.t 5) (0,0)):=hg;simp [World.shape?,hg']) l h0 (by omega) (by unfold maxLen at hcm;omega) fun j x hx=>by rw [Addr.add_lit,Nat.zero_add];exact hcells j x hx
 have mixed:=L.mixed
 have t72:=L.t72;have a72:=L.a72;have z72:=L.z72;have v72:=L.v72;have u72:=run_underlying L.t72
 have t70:=L.t70;have a70:=L.a70;have z70:=L.z70;have v70:=L.v70;have u70:=run_underlying L.t70
 have t37:=L.t37;have a37:=L.a37;have z37:=L.z37;have v37:=L.v37;have u37:=run_underlying L.t37
 have t127:=L.t127;have a127:=L.a127;have z127:=L.z127;have v127:=L.v127;have u127:=run_underlying L.t127
 have t3:=L.t3;have a3:=L.a3;have z3:=L.z3;have v3:=L.v3;have u3:=run_underlying L.t3
 have t9:=L.t9;have a9:=L.a9;have z9:=L.z9;have v9:=L.v9;have u9:=run_underlying L.t9
 have t5:=X.t5;have a5:=X.a5;have z5:=X.z5;have v5:=X.v5;have u5:=run_underlying X.t5
 go_enter L.f169,Body.n169_ntmps ρ
 go_wp2
 go_region_o
 all_goals (go_wp2;go_ret;exact ⟨rfl,1,rfl⟩)
theorem All2.symmOne' {α β:Type} {R:α→β→Prop} {a:α} {bs:List β} (h:All2 R [a] bs):∃b,bs=[b]∧R a b:=h.one
theorem qV (w:World) (a:Addr) (n k:Nat) (h:k≠a.block):(w.freeze a n).heap[k]?=w.heap[k]?:=by
 unfold World.freeze
 split
 ·rfl
 ·simp only [Array.getElem?_modify]
  rw [if_neg (fun e=>h e.symm)]
theorem qW (w:World) (a:Addr) (n:Nat):(w.freeze a n).os=w.os∧(w.freeze a n).tape=w.tape∧(w.freeze a n).output=w.output∧(w.freeze a n).heap.size=w.heap.size:=by
 unfold World.freeze
 split<;>simp
noncomputable def bytesOf (bs:List Int):ByteArray:=⟨(bs.map fun i=>UInt8.ofNat i.toNat).toArray⟩
theorem Ar (i:Int) (h0:0≤i) (h1:i<256):((UInt8.ofNat i.toNat).toNat:Int)=i:=by
 rw [UInt8.toNat_ofNat']
 omega
theorem Au {ok:Nat→Prop} {w:World} {bs:List Int} {vs:List Value} (h:Rows ok w (.int .u8) bs vs):vs=bs.map (.int .u8):=by
 obtain ⟨css,rfl,h⟩:=h
 induction h with
 |nil=>rfl
 |cons h _ ih=>
  have h:_=[_]:=h
  subst h
  simp [ih]
theorem ov [gG] (hd : gG.draw = false) {P : Program} {ρs : Shelf.Ren} (L : Lays.n169 P ρs) (X : Builder.Extra P ρs) {f B e8 : Nat} (hf : ρs.f 169 = f) (hB : ρs.t 72 = B) (h5 : ρs.t 5 = e8) :
    fk P f ⟨1,⟨[(0,.v false [.ptr 0 0])],[(0,true,.box B [.np 0,.ref 1]),(1,true,.arr e8 (.int .u8))],[],2,[]⟩,⟨[(0,.v false [.str])],[],[],1000,[]⟩,
      fun (bs,_)=>if (∀x∈bs,0≤x∧x<256) then some (bytesOf bs,()) else none⟩:=by
  subst hf hB h5
  rintro ⟨bs,⟨⟩⟩ y hxy ρ ok w args hn hH hE
  have hxy:(if (∀x∈bs,0≤x∧x<256) then some (bytesOf bs,()) else none)=some y:=hxy
  split at hxy<;>cases hxy
  rename_i hr
  obtain ⟨v,h0,hv⟩:=kg (i:=0) (c:=.ptr 0 0) hE rfl
  obtain ⟨_,b,h1,rfl⟩:=hv
  obtain ⟨_,b',vs,k1,k2,k3⟩:=hH.ob 0 (.box (ρs.t 72) [.np 0,.ref 1]) rfl
  rw [h1] at k1
  cases k1
  obtain ⟨_,inner,k4,k5⟩:=hH.ob 1 (.arr (ρs.t 5) (.int .u8) bs) rfl
  have hin:=Au k5
  subst hin
  cases k3 with
  |@cons _ p _ vs hp k3=>
  obtain ⟨v,rfl,hv⟩:=k3.symmOne'
  have hv:v=ρ 1:=hv.2.1
  subst hv
  have hl:(bs.map fun i=>UInt8.ofNat i.toNat).length=bs.length:=by simp
  have hin:∀(c:Cell) (l:Nat) (o:Ob),eO (⟨[(0,.v false [.ptr 0 0])],[(0,true,.box (ρs.t 72) [.np 0,.ref 1]),(1,true,.arr (ρs.t 5) (.int .u8))],[],2,[]⟩:Sh) id (bs,()) 1=some (.arr (ρs.t 5) (.int .u8) bs):=fun _ _ _=>rfl
  rw [vC hn h0]
  have empty:bs=[]→(Calls P (ρs.f 169) #[.pointer (some ⟨b,0,none⟩)] w fun e w'=>e=.returned (.string ⟨#[]⟩)∧Below w.heap.size w w')→Calls P (ρs.f 169) #[.pointer (some ⟨b,0,none⟩)] w fun e w'=>∃v ρ' ok',e=.returned v∧ew ρ' ok' w' (fun _=>none) 1000∧
      eH ρ' ok' w' 1000 (Lv.put (fun _=>none) 0 (some (.v false [.str (bytesOf bs)]))) #[v]∧lL (eO (⟨[(0,.v false [.ptr 0 0])],[(0,true,.box (ρs.t 72) [.np 0,.ref 1]),(1,true,.arr (ρs.t 5) (.int .u8))],[],2,[]⟩:Sh) id (bs,())) ρ ok w (fun _=>none) ρ' ok' w':=by
    intro he hc
    subst he
    refine hc.mono ?_
    rintro e w' ⟨rfl,hb⟩
    exact ll (so:=⟨[(0,.v false [.str])],[],[],1000,[]⟩) (y:=(bytesOf [],())) hd hb hH (fun l o h=>by cases h) (jS fun _ _ _ _=>⟨_,rfl,rfl⟩)
  rcases k4.2 with ⟨hn1,hn2⟩|⟨g,cap,cur,hg1,_,hg2,hg3,hg4,hg5,hg6⟩
  · have:bs=[]:=List.length_eq_zero_iff.1 hn2
    refine empty this (Any.Builder_String_nil L X w.heap.size b p w ?_)
    rw [←hn1];exact k2
  · by_cases hz:bs=[]
    · by_cases hc0:cap=0
      · subst hc0
        refine empty hz (Any.Builder_String_noroom L X w.heap.size b g p cur w (Nat.le_refl _) ?_ hg2)
        rw [k2,hg1,hz];rfl
      · refine empty hz (Any.Builder_String_room L X w.heap.size b g cap p w hc0 ?_)
        rw [k2,hg1,hz];rfl
    · have hlb:bs.length≠0:=fun e=>hz (List.length_eq_zero_iff.1 e)
      refine (uq L X (l:=bs.map fun i=>UInt8.ofNat i.toNat) (cap:=cap) (p:=p) (cur:=cur) (b:=b) (g:=g) (by rw [k2,hg1,hl]) hg2 (by simpa using hz) (by rw [hl];exact hg3) (by rw [hg5];show cap≤cap*(Ty.int .u8).n;simp [Ty.n]) hg4 ?_).mono ?_
      · intro j x hx
        rw [List.getElem?_map] at hx
        cases hj:bs[j]? with
        |none=>rw [hj] at hx;cases hx
        |some i=>
          rw [hj] at hx
          cases hx
          have hi:=hr i (List.mem_of_getElem? hj)
          have hjl:j<bs.length:=(List.getElem?_eq_some_iff.1 hj).1
          have h6:(bs.map (Value.int .u8))[j]?=some (.int .u8 i):=by rw [List.getElem?_map,hj];rfl
          rw [←hg6,List.getElem?_take] at h6
          split at h6
          · have:cur[j]?=some (.int .u8 i):=by simpa using h6
            simp only [World.cell?,hg2]
            rw [this]
            have h9:=Ar i hi.1 hi.2
            exact congrArg (fun z=>some (Value.int .u8 z)) h9.symm
          · cases h6
      · rintro e w' ⟨rfl,k,rfl⟩
        obtain ⟨f1,f2,f3,f4⟩:=qW (w.drewN k) ⟨g,0,none⟩ (bs.map fun i=>UInt8.ofNat i.toNat).length
        have hoth:∀q,q≠g→((w.drewN k).freeze ⟨g,0,none⟩ (bs.map fun i=>UInt8.ofNat i.toNat).length).heap[q]?=w.heap[q]?:=fun q hq=>qV _ _ _ q hq
        have hsz:((w.drewN k).freeze ⟨g,0,none⟩ (bs.map fun i=>UInt8.ofNat i.toNat).length).heap.size=w.heap.size:=f4
        have hS:gU ok ok w ((w.drewN k).freeze ⟨g,0,none⟩ (bs.map fun i=>UInt8.ofNat i.toNat).length):=fun q hq=>⟨hq,hoth q fun e=>hH.sep 1 _ g rfl rfl (by rw [hg1];rfl) (e▸hq)⟩
        refine ⟨_,ρ,ok,rfl,⟨fun l o h=>(by cases h),fun q hq=>(by rw [hsz];exact hH.okl q hq),fun l o q h=>(by cases h),fun l m o p q h=>(by cases h),hH.gl.move hS⟩,jS (s:=.v false [.str (bytesOf bs)]) (v:=.string (bytesOf bs)) (fun _ _ _ _=>⟨_,rfl,rfl⟩) _ _ _ _,?_⟩
        exact ⟨f1,f2,⟨f3,fun e=>(by rw [hd] at e;cases e)⟩,Nat.le_of_eq hsz.symm,fun q hq hne=>hoth q (fun e=>hne 1 _ rfl rfl (by rw [hg1,e];rfl)),fun _ h=>h,fun _ h=> .inl h,fun l o h=>(by cases h),fun l o q h=>(by cases h)⟩
theorem pM (w:World) (a:Addr) (v:Value) (k:Nat) (h:k≠a.block):(w.setCell a v).heap[k]?=w.heap[k]?:=by
 unfold World.setCell
 simp only [Array.getElem?_modify]
 rw [if_neg (fun e=>h e.symm)]
theorem pv [gG] (hd : gG.draw = false) {P : Program} {ρs : Shelf.Ren} (L : Lays.n240 P ρs) (X : Builder.X72 P ρs) {f B e8 : Nat} (hf : ρs.f 240 = f) (hB : ρs.t 72 = B) :
    fk P f ⟨1,⟨[(0,.v false [.ptr 0 0])],[(0,true,.box B [.np 0,.ref 1]),(1,true,.arr e8 (.int .u8))],[],2,[]⟩,
      ⟨[(0,.tup [])],[(0,true,.box B [.np 0,.ref 1000]),(1000,true,.arr e8 (.int .u8))],[],1001,[]⟩,fun (bs,_)=>some (bs,())⟩:=by
  subst hf hB
  rintro ⟨bs,⟨⟩⟩ y hxy ρ ok w args hn hH hE
  cases hxy
  obtain ⟨v,h0,hv⟩:=kg (i:=0) (c:=.ptr 0 0) hE rfl
  obtain ⟨_,b,h1,rfl⟩:=hv
  obtain ⟨_,b',vs,k1,k2,k3⟩:=hH.ob 0 (.box (ρs.t 72) [.np 0,.ref 1]) rfl
  rw [h1] at k1
  cases k1
  obtain ⟨_,inner,k4,k5⟩:=hH.ob 1 (.arr e8 (.int .u8) bs) rfl
  cases k3 with
  |@cons _ p _ vs hp k3=>
  obtain ⟨v,rfl,hv⟩:=k3.symmOne'
  have hv1:v=ρ 1:=hv.2.1
  have hvo:=hv.2.2
  subst hv1
  rw [vC hn h0]
  -- another block than the array's
  have hbg:∀g,blk (ρ 1)=some g→g≠b:=fun g hg e=>by
    have:=hH.dis 0 1 _ _ b rfl rfl rfl rfl (by rw [h1];rfl) (by rw [hg,e])
    omega
  have fin:∀(w':World) (p':Value),(p'=.pointer none∨p'=.pointer (some ⟨b,0,none⟩))→w'.heap[b]?=some (.cells #[p',ρ 1] (ρs.t 72) (0,0))→(∀q,q≠b→w'.heap[q]?=w.heap[q]?)→w'.heap.size=w.heap.size→w'.os=w.os→w'.tape=w.tape→w'.output=w.output→
      ∃ v ρ' ok',Ending.returned (.tuple #[]) = .returned v ∧ ew ρ' ok' w' (eO (⟨[(0,.tup [])],[(0,true,.box (ρs.t 72) [.np 0,.ref 1000]),(1000,true,.arr e8 (.int .u8))],[],1001,[]⟩ : Sh) id (bs,())) 1001 ∧
        eH ρ' ok' w' 1001 (Lv.put (fun _=>none) 0 (some (.tup []))) #[v]∧lL (eO (⟨[(0,.v false [.ptr 0 0])],[(0,true,.box (ρs.t 72) [.np 0,.ref 1]),(1,true,.arr e8 (.int .u8))],[],2,[]⟩:Sh) id (bs,())) ρ ok w (eO (⟨[(0,.tup [])],[(0,true,.box (ρs.t 72) [.np 0,.ref 1000]),(1000,true,.arr e8 (.int .u8))],[],1001,[]⟩:Sh) id (bs,())) ρ' ok' w':=by
    intro w' p' hp' q1 q2 q3 q4 q5 q6
    have hokb:∀q,ok q→q≠b:=fun q hq e=>hH.sep 0 _ b rfl rfl (by rw [h1];rfl) (e▸hq)
    have hS:gU ok ok w w':=fun q hq=>⟨hq,q2 q (hokb q hq)⟩
    have hout:∀l o,eO (⟨[(0,.tup [])],[(0,true,.box (ρs.t 72) [.np 0,.ref 1000]),(1000,true,.arr e8 (.int .u8))],[],1001,[]⟩:Sh) id (bs,()) l=some o→(l=0∧o=.box (ρs.t 72) [.np 0,.ref 1000])∨(l=1000∧o=.arr e8 (.int .u8) bs):=by
      intro l o h
      have h:Lv.put (Lv.put (fun _=>none) 1000 (some (.arr e8 (.int .u8) bs))) 0 (some (.box (ρs.t 72) [.np 0,.ref 1000])) l=some o:=h
      simp only [Lv.put] at h
      split at h
      · rename_i e;cases h;exact .inl ⟨Nat.eq_of_beq_eq_true e,rfl⟩
      · split at h
        · rename_i e;cases h;exact .inr ⟨Nat.eq_of_beq_eq_true e,rfl⟩
        · cases h
    refine ⟨_,fun l=>if l=1000 then ρ 1 else ρ l,ok,rfl,⟨?_,fun q hq=>(by rw [q3];exact hH.okl q hq),?_,?_,hH.gl.move hS⟩,jS (s:=.tup []) (v:=.tuple #[]) (fun _ _ _ _=>⟨[],rfl,.nil⟩) _ _ _ _,⟨q4,q5,⟨q6,fun e=>(by rw [hd] at e;cases e)⟩,Nat.le_of_eq q3.symm,?_,fun _ h=>h,fun _ h=> .inl h,?_,?_⟩⟩
    · intro l o h
      rcases hout l o h with ⟨rfl,rfl⟩|⟨rfl,rfl⟩
      · refine ⟨by omega,b,[p',ρ 1],by simpa using h1,q1,.cons ⟨by omega,?_⟩ (.cons ⟨by omega,by simp,hvo⟩ .nil)⟩
        rcases hp' with rfl|rfl
        · exact .inl rfl
        · exact .inr ⟨b,by simpa using h1,rfl⟩
      · refine ⟨by omega,inner,?_,k5.move hS⟩
        simp only [if_true]
        exact kY k4 fun g hg=>q2 g (hbg g hg)
    · intro l o q h hw hb hok
      rcases hout l o h with ⟨rfl,rfl⟩|⟨rfl,rfl⟩
      · exact hH.sep 0 _ q rfl rfl (by simpa using hb) hok
      · exact hH.sep 1 _ q rfl rfl (by simpa using hb) hok
    · intro l m o p q h h' hw hw' hb hb'
      rcases hout l o h with ⟨rfl,rfl⟩|⟨rfl,rfl⟩<;>rcases hout m p h' with ⟨rfl,rfl⟩|⟨rfl,rfl⟩
      · rfl
      · have:=hH.dis 0 1 _ _ q rfl rfl rfl rfl (by simpa using hb) (by simpa using hb');omega
      · have:=hH.dis 0 1 _ _ q rfl rfl rfl rfl (by simpa using hb') (by simpa using hb);omega
      · rfl
    · intro q hq hne
      exact q2 q fun e=>hne 0 _ rfl rfl (by rw [h1,e];rfl)
    · intro l o h hl
      rcases hout l o h with ⟨rfl,rfl⟩|⟨rfl,rfl⟩
      · exact ⟨by simp,_,rfl,fun _=>rfl⟩
      · omega
    · intro l o q h hl hw hb
      rcases hout l o h with ⟨rfl,rfl⟩|⟨rfl,rfl⟩
      · omega
      · exact .inr ⟨1,_,rfl,rfl,by simpa using hb⟩
  have hc0:w.cell? ⟨b,0,none⟩=some p:=by simp [World.cell?,k2]
  rcases hp.2 with rfl|⟨b2,e1,rfl⟩
  · refine (Any.Builder_copyCheck_fresh L X b w hc0 (by simp [World.shape?,k2]) (by simp [World.frozen?,k2])).mono ?_
    rintro e w' ⟨rfl,rfl⟩
    refine fin _ _ (.inr rfl) ?_ (fun q hq=>pM w ⟨b,0,none⟩ _ q hq) (by simp [World.setCell]) rfl rfl rfl
    have hlt:=(Array.getElem?_eq_some_iff.1 k2).1
    simp [World.setCell,Array.getElem?_modify,k2]
  · rw [h1] at e1
    cases e1
    refine (Any.Builder_copyCheck_used L X b w hc0).mono ?_
    rintro e w' ⟨rfl,rfl⟩
    exact fin _ _ (.inr rfl) k2 (fun _ _=>rfl) rfl rfl rfl rfl
noncomputable def jr (xs:List ByteArray) (sep:ByteArray):ByteArray:=⟨(Lib.join (xs.map (·.data.toList)) sep.data.toList).toArray⟩
theorem wY [gG] (hd:gG.draw=false) {P:Program} {ρs:Shelf.Ren} (L:Lays.n156 P ρs) (X:Builder.Extra P ρs) {f e:Nat} (hf:ρs.f 156=f):
 fk P f ⟨2,⟨[(0,.v false [.sl e .str]),(1,.v false [.str])],[],[],0,[]⟩,⟨[(0,.v false [.str])],[],[],1000,[]⟩,
  fun (xs,sep,_)=>if xs.length≤140737488355328∧(jr xs sep).size≤140737488355328 then some (jr xs sep,()) else none⟩:=by
 subst hf
 rintro ⟨xs,sep,⟨⟩⟩ y hxy ρ ok w args hn hH hE
 have hxy:(if xs.length≤140737488355328∧(jr xs sep).size≤140737488355328 then some (jr xs sep,()) else none)=some y:=hxy
 split at hxy<;>cases hxy
 rename_i hr
 obtain ⟨v,h0,hv⟩:=kg (i:=0) (c:=.sl e .str xs) hE rfl
 obtain ⟨u,h1,hu⟩:=kg (i:=1) (c:=.str sep) hE rfl
 have hu:u=.string sep:=hu
 subst hu
 obtain ⟨A,cap,k1,k2,k3⟩:=hv
 cases k1
 rw [BI hn h0 h1]
 have hlen:(Lib.join (xs.map (·.data.toList)) sep.data.toList).length≤140737488355328:=by
  have:=hr.2
  simpa [jr,ByteArray.size] using this
 have fin:(Calls P (ρs.f 156) #[.slice A xs.length cap,.string sep] w fun e' w'=>e'=.returned (.string (jr xs sep))∧Below w.heap.size w w')→Calls P (ρs.f 156) #[.slice A xs.length cap,.string sep] w fun e' w'=>∃v ρ' ok',e'=.returned v∧ew ρ' ok' w' (fun _=>none) 1000∧
  eH ρ' ok' w' 1000 (Lv.put (fun _=>none) 0 (some (.v false [.str (jr xs sep)]))) #[v]∧lL (fun _=>none) ρ ok w (fun _=>none) ρ' ok' w':=by
  intro hc
  refine hc.mono ?_
  rintro e' w' ⟨rfl,hb⟩
  exact ll (so:=⟨[(0,.v false [.str])],[],[],1000,[]⟩) (y:=(jr xs sep,())) hd hb hH (fun l o h=>by cases h) (jS fun _ _ _ _=>⟨_,rfl,rfl⟩)
 rcases k3 with rfl|⟨b,o,rfl,hb,hx⟩
 ·refine fin ((Any.strings_Join_none L X A cap sep w).mono ?_)
  rintro e' w' ⟨rfl,rfl⟩
  exact ⟨by simp [jr,Lib.join],Below.refl _ _⟩
 ·refine fin ((Any.strings_Join L X b o cap xs sep w ?_ (hH.okl b hb) hr.1 k2 hlen).mono ?_)
  ·intro j x hj
   obtain ⟨cs,hc,hcs⟩:=hx j x hj
   cases hc
   have:=hcs 0 _ rfl
   simpa [Ty.n] using this
  ·rintro e' w' ⟨rfl,hb⟩
   exact ⟨rfl,hb⟩
end Lv
end
section
namespace Lv
open Go Go.RowKit
end Lv
end
section
namespace Lv
open Go Go.RowKit Go.ChangeShapes Go.WideShapes Go.ChangeAt
variable [gG] {H:Type} {enc:TypeId×Value→H}
theorem yB {C : Checked} {g : FuncId} {fn : Func} {s : ChangeSpec} {os : Os} {l : List (Ty × Bool)} {rt : TypeId} {F : TS ⟨my 0 l,[],[],0,[]⟩ → Option (TS qT)} {laid : List (String × DataW Unit)}
    (own:ownKnob C.prog.godebug=none) (started:os.Started) (noInit:C.prog.inits.idxOf? g=none) (hfn:C.prog.funcs[g]?=some fn) (hl:laidOutB C.prog=true)
    (witness:∃(w:World) (tape:Tape) (i:Input),w.os=os∧(w.forCall tape i).Shaped C.prog∧i.vars=[]∧Input.okWide C.prog (w.forCall tape i) .any w.heap.size g i∧
      ((s.pre enc C.prog fn [] false (w.forCall tape i).memory i.args∧laidMetH C.prog laid (w.forCall tape i).memory)∧sizedMet enc C.prog fn (OpenSpec.ofChange s) false (w.forCall tape i).memory i.args)∧({}:Assume).holds C.prog (lone (Frame.enter C.prog g i.args .normal) [] (w.forCall tape i)))
    (hvars:s.vars=[]) (hspec:∀ds:List (DataW H),ds.length=l.length→s.fn H ds={results:=[.lit (.bool true)],args:=ds})
    (hrt:fn.resultTypes=#[rt]) (hru:C.prog.underlying rt=some .bool) (hp:sL C.prog fn.params.toList l=true)
    (hs:fk C.prog g ⟨l.length,⟨my 0 l,[],[],0,[]⟩,qT,F⟩) (hF:∀x:pL l,vA C.prog l x→F (pu 0 l x)=some (true,()))
    (hG:∀W:World,W.ShapedOpen C.prog→laidMetH C.prog laid W→Glb (· <W.heap.size) W):
    ReturnsInHanded {} C os g .any (fun w args=>(s.pre enc C.prog fn [] false w args∧laidMetH C.prog laid w)∧sizedMet enc C.prog fn (OpenSpec.ofChange s) false w args) (s.post enc C.prog fn false true false false):=by
  refine returnsInHanded_of_calls own started noInit witness ?_
  intro w tape i _ hsh _ hok hpre hholds
  obtain ⟨_,_,_,fn',hfn',_,_,_,_,hval0⟩:=hok
  have e:fn'=fn:=Option.some.inj (hfn'.symm.trans hfn)
  subst e
  obtain ⟨⟨⟨ds,gs,before,hw,hc⟩,hlaid⟩,hz⟩:=hpre
  have hw':=DataW.Whole.of_heap (w':=w.forCall tape i) (by rfl) hw
  have hlaid':laidMetH C.prog laid (w.forCall tape i):=laidMetH.of_heap (w:=(w.forCall tape i).memory) (w':=w.forCall tape i) (by rfl) hlaid
  have main:Calls C.prog g i.args (w.forCall tape i) fun e W'=>∃v,e=.returned v∧s.post enc C.prog fn' false true false false (w.forCall tape i) i.args v W':=by
    generalize w.forCall tape i=W at hw' hlaid' hsh hval0
    have hsz:=hz.weights hw
    have hW:=hw'
    have hW':=hw'
    obtain ⟨p,q,hA,hV,rfl,_,_⟩:=hW
    rw [hvars] at hV
    obtain ⟨rfl,rfl⟩:=trodVars_none hV
    have hlen:∀{ts:List TypeId} {vs:List Value} {ds:List (DataW H)} {ps:List MemPlace} {l:List (Ty×Bool)},sL C.prog ts l=true→DataW.TrodAll enc C.prog W 0 (fun _=>true) true ts vs ds ps→vs.length=l.length∧ds.length=l.length:=by
      intro ts
      induction ts with
      |nil=>
        intro vs ds ps l hp h
        obtain ⟨rfl,rfl,rfl⟩:=trodAll_nil h
        match l,hp with
        | [],_=>exact ⟨rfl,rfl⟩
      |cons t ts ih=>
        intro vs ds ps l hp h
        obtain ⟨v,vs,d,ds,p,q,rfl,rfl,rfl,_,h2⟩:=trodAll_cons h
        match l,hp with
        |(ty,a)::l,hp=>
          simp only [sL,Bool.and_eq_true] at hp
          obtain ⟨e1,e2⟩:=ih hp.2 h2
          exact ⟨by simp [e1],by simp [e2]⟩
    obtain ⟨hl1,hl2⟩:=hlen hp hA
    have hv0:s.plain.varTypes C.prog=[]:=by
      have:s.plain.vars=[]:=hvars
      unfold DataSpec.varTypes
      rw [this];rfl
    have hval':∀(j:Nat) (t:TypeId) (v:Value),fn'.params.toList[j]?=some t→i.args.toList[j]?=some v→Value.okWide C.prog W .any w.heap.size t v:=fun j t v e1 e2=>by
      have:=hval0 j t v (by simpa using e1) (by simpa using e2)
      exact this
    have hsz:(DataW.weightsEach C.prog (fn'.params.toList++s.plain.varTypes C.prog) (ds++ [])).all (· ≤reachBytes)=true:=hsz
    rw [hv0,List.append_nil,List.append_nil] at hsz
    obtain ⟨x,k1,k2⟩:=ng hp hA (fun j t v e1 e2=>hval' j t v e1 e2) hsz
    refine (wU hs (hF x k2) (by rw [←Array.length_toList,hl1]) k1 (hG _ hsh hlaid')).mono ?_
    rintro e w' ⟨rfl,hb⟩
    refine ⟨_,rfl,ds,[],p++ [],[],p,[],hW',?_,?_,?_,hb.frame _,fun h=>by cases h⟩
    · rw [List.append_nil,hspec ds hl2,hrt]
      exact trodAll_mk1 (shut_bool hru _)
    · rw [List.append_nil,hspec ds hl2]
      exact mz hl hb hp hA
    · rw [List.append_nil,hspec ds hl2,hvars]
      rfl
  refine main.mono fun e W' ⟨v,he,hp⟩=>?_
  subst he
  exact ChangeSpec.post_blind hp
end Lv
end
section
namespace Lv
open Go Go.RowKit
section
variable [gG]
theorem ur {P:Program} {f:Nat} {F:ByteArray→ByteArray→Int} (h:∀a b w,Calls P f #[.string a,.string b] w fun e w'=>e=.returned (.int .i64 (F a b))∧w'=w):
 fk P f ⟨2,⟨[(0,.v false [.str]),(1,.v false [.str])],[],[],0,[]⟩,⟨[(0,.v false [.int .i64])],[],[],1000,[]⟩,fun (a,b,_)=>some (F a b,())⟩:=by
 rintro ⟨a,b,u⟩ y hy ρ ok w args hn hH hE
 cases hy
 obtain ⟨v0,e0,c0,k0,r0⟩:=hE 0 (.v false [.str a]) rfl
 obtain ⟨v1,e1,c1,k1,r1⟩:=hE 1 (.v false [.str b]) rfl
 cases k0;cases k1
 have r0:v0=.string a:=r0
 have r1:v1=.string b:=r1
 subst r0 r1
 have ha:args=#[.string a,.string b]:=by
  obtain ⟨l⟩:=args
  match l,hn,e0,e1 with
  | [x,y],_,e0,e1=>simp at e0 e1;subst e0 e1;rfl
 subst ha
 refine (h a b w).mono ?_
 rintro e w' ⟨rfl,rfl⟩
 refine ⟨_,ρ,ok,rfl,⟨fun l o h=>(by cases h),hH.okl,fun l o b h=>(by cases h),fun l m o p b h=>(by cases h),hH.gl⟩,?_,
  ⟨rfl,rfl,ji.rfl,Nat.le_refl _,fun _ _ _=>rfl,fun _ h=>h,fun _ h=> .inl h,fun _ _ h=>(by cases h),fun _ _ _ h=>(by cases h)⟩⟩
 intro t s hs
 have hs:Lv.put (fun _=>none) 0 (some (fE.v false [.int .i64 (F a b)])) t=some s:=hs
 simp only [Lv.put] at hs
 split at hs
 ·rename_i ht
  have:=Nat.eq_of_beq_eq_true ht
  subst this
  cases hs
  exact ⟨_,rfl,_,rfl,rfl⟩
 ·cases hs
end
end Lv
end
section
set_option maxRecDepth 100000
namespace Go.Proofs.Ytpoffnlnhdbpmaa
open Go Lv Go.Proofs Go.RowKit Go.Shelf
def Tryz.lays171_ren:Go.Shelf.Ren:=⟨fun|171=>230|243=>260|246=>285|283=>301|284=>302|285=>303|286=>304|129=>315|317=>314|318=>316|319=>317|320=>318|337=>326|338=>327|n=>n,fun|3=>3|9=>9|2=>2|4=>4|171=>323|0=>0|53=>185|37=>261|5=>5|173=>326|212=>336|51=>303|20=>20|213=>337|46=>222|232=>354|233=>355|n=>n,fun|17=>1|18=>2|19=>3|n=>n⟩
theorem Tryz.lays171:Go.Proofs.LaysM.n171 Tryz.prog Tryz.lays171_ren where
 mixed:=by kernel_rfl
 f129:=Tryz.func315.trans (congrArg some (by kernel_rfl))
 f171:=Tryz.func230.trans (congrArg some (by kernel_rfl))
 f243:=Tryz.func260.trans (congrArg some (by kernel_rfl))
 f246:=Tryz.func285.trans (congrArg some (by kernel_rfl))
 f283:=Tryz.func301.trans (congrArg some (by kernel_rfl))
 f284:=Tryz.func302.trans (congrArg some (by kernel_rfl))
 f285:=Tryz.func303.trans (congrArg some (by kernel_rfl))
 f286:=Tryz.func304.trans (congrArg some (by kernel_rfl))
 f317:=Tryz.func314.trans (congrArg some (by kernel_rfl))
 f318:=Tryz.func316.trans (congrArg some (by kernel_rfl))
 f319:=Tryz.func317.trans (congrArg some (by kernel_rfl))
 f320:=Tryz.func318.trans (congrArg some (by kernel_rfl))
 f337:=Tryz.func326.trans (congrArg some (by kernel_rfl))
 f338:=Tryz.func327.trans (congrArg some (by kernel_rfl))
 t0:=Tryz.underlying0
 a0:=Tryz.isAgg0
 z0:=Tryz.sizeOf0
 v0:=Tryz.zeroValue0
 t2:=Tryz.underlying2
 a2:=Tryz.isAgg2
 z2:=Tryz.sizeOf2
 v2:=Tryz.zeroValue2
 t3:=Tryz.underlying3
 a3:=Tryz.isAgg3
 z3:=Tryz.sizeOf3
 v3:=Tryz.zeroValue3
 t4:=Tryz.underlying4
 a4:=Tryz.isAgg4
 z4:=Tryz.sizeOf4
 v4:=Tryz.zeroValue4
 t5:=Tryz.underlying5
 a5:=Tryz.isAgg5
 z5:=Tryz.sizeOf5
 v5:=Tryz.zeroValue5
 t9:=Tryz.underlying9
 a9:=Tryz.isAgg9
 z9:=Tryz.sizeOf9
 v9:=Tryz.zeroValue9
 t20:=Tryz.underlying20
 a20:=Tryz.isAgg20
 z20:=Tryz.sizeOf20
 v20:=Tryz.zeroValue20
 t37:=Tryz.underlying261
 a37:=Tryz.isAgg261
 z37:=Tryz.sizeOf261
 v37:=Tryz.zeroValue261
 t46:=Tryz.underlying222
 a46:=Tryz.isAgg222
 z46:=Tryz.sizeOf222
 v46:=Tryz.zeroValue222
 t51:=Tryz.underlying303
 a51:=Tryz.isAgg303
 z51:=Tryz.sizeOf303
 v51:=Tryz.zeroValue303
 t53:=Tryz.underlying185
 a53:=Tryz.isAgg185
 z53:=Tryz.sizeOf185
 v53:=Tryz.zeroValue185
 t171:=Tryz.underlying323
 a171:=Tryz.isAgg323
 z171:=Tryz.sizeOf323
 v171:=Tryz.zeroValue323
 t173:=Tryz.underlying326
 a173:=Tryz.isAgg326
 z173:=Tryz.sizeOf326
 v173:=Tryz.zeroValue326
 t212:=Tryz.underlying336
 a212:=Tryz.isAgg336
 z212:=Tryz.sizeOf336
 v212:=Tryz.zeroValue336
 t213:=Tryz.underlying337
 a213:=Tryz.isAgg337
 z213:=Tryz.sizeOf337
 t232:=Tryz.underlying354
 a232:=Tryz.isAgg354
 z232:=Tryz.sizeOf354
 v232:=Tryz.zeroValue354
 t233:=Tryz.underlying355
 a233:=Tryz.isAgg355
 z233:=Tryz.sizeOf355
 v233:=Tryz.zeroValue355
 g17:=by kernel_rfl
 g18:=by kernel_rfl
 g19:=by kernel_rfl
 i0:=by kernel_rfl
 i2:=by kernel_rfl
 i3:=by kernel_rfl
 i4:=by kernel_rfl
 i5:=by kernel_rfl
 i9:=by kernel_rfl
 i20:=by kernel_rfl
 i37:=by kernel_rfl
 i46:=by kernel_rfl
 i51:=by kernel_rfl
 i53:=by kernel_rfl
 i171:=by kernel_rfl
 i173:=by kernel_rfl
 i212:=by kernel_rfl
 i232:=by kernel_rfl
 i233:=by kernel_rfl
 m17:=by kernel_rfl
 m18:=by kernel_rfl
 m19:=by kernel_rfl
def Tryz.lays144_ren:Go.Shelf.Ren:=⟨fun|144=>293|143=>307|219=>321|217=>333|225=>334|224=>335|267=>336|266=>343|314=>344|n=>n,fun|9=>9|4=>4|3=>3|5=>5|46=>222|146=>304|51=>303|n=>n,fun|1=>0|n=>n⟩
theorem Tryz.lays144:Go.Proofs.Lays.n144 Tryz.prog Tryz.lays144_ren where
 mixed:=by kernel_rfl
 f143:=Tryz.func307.trans (congrArg some (by kernel_rfl))
 f144:=Tryz.func293.trans (congrArg some (by kernel_rfl))
 f217:=Tryz.func333.trans (congrArg some (by kernel_rfl))
 f219:=Tryz.func321.trans (congrArg some (by kernel_rfl))
 f224:=Tryz.func335.trans (congrArg some (by kernel_rfl))
 f225:=Tryz.func334.trans (congrArg some (by kernel_rfl))
 f266:=Tryz.func343.trans (congrArg some (by kernel_rfl))
 f267:=Tryz.func336.trans (congrArg some (by kernel_rfl))
 f314:=Tryz.func344.trans (congrArg some (by kernel_rfl))
 t3:=Tryz.underlying3
 a3:=Tryz.isAgg3
 z3:=Tryz.sizeOf3
 v3:=Tryz.zeroValue3
 t4:=Tryz.underlying4
 a4:=Tryz.isAgg4
 z4:=Tryz.sizeOf4
 v4:=Tryz.zeroValue4
 t5:=Tryz.underlying5
 a5:=Tryz.isAgg5
 z5:=Tryz.sizeOf5
 v5:=Tryz.zeroValue5
 t9:=Tryz.underlying9
 a9:=Tryz.isAgg9
 z9:=Tryz.sizeOf9
 v9:=Tryz.zeroValue9
 t46:=Tryz.underlying222
 a46:=Tryz.isAgg222
 z46:=Tryz.sizeOf222
 v46:=Tryz.zeroValue222
 t51:=Tryz.underlying303
 a51:=Tryz.isAgg303
 z51:=Tryz.sizeOf303
 v51:=Tryz.zeroValue303
 t146:=Tryz.underlying304
 a146:=Tryz.isAgg304
 z146:=Tryz.sizeOf304
 v146:=Tryz.zeroValue304
 g1:=by kernel_rfl
def Tryz.lays155_ren:Go.Shelf.Ren:=⟨fun|155=>313|154=>325|138=>338|165=>233|143=>307|166=>234|197=>339|169=>235|195=>346|218=>347|240=>261|241=>262|219=>321|260=>348|276=>286|277=>287|217=>333|225=>334|224=>335|267=>336|266=>343|314=>344|n=>n,fun|9=>9|3=>3|4=>4|72=>263|0=>0|76=>266|105=>352|21=>21|5=>5|70=>260|20=>20|37=>261|75=>265|127=>293|164=>314|46=>222|119=>368|139=>371|138=>370|146=>304|51=>303|80=>201|n=>n,fun|1=>0|3=>6|4=>7|n=>n⟩
theorem Tryz.lays155:Go.Proofs.Lays.n155 Tryz.prog Tryz.lays155_ren where
 mixed:=by kernel_rfl
 f138:=Tryz.func338.trans (congrArg some (by kernel_rfl))
 f143:=Tryz.func307.trans (congrArg some (by kernel_rfl))
 f154:=Tryz.func325.trans (congrArg some (by kernel_rfl))
 f155:=Tryz.func313.trans (congrArg some (by kernel_rfl))
 f165:=Tryz.func233.trans (congrArg some (by kernel_rfl))
 f166:=Tryz.func234.trans (congrArg some (by kernel_rfl))
 f169:=Tryz.func235.trans (congrArg some (by kernel_rfl))
 f195:=Tryz.func346.trans (congrArg some (by kernel_rfl))
 f197:=Tryz.func339.trans (congrArg some (by kernel_rfl))
 f217:=Tryz.func333.trans (congrArg some (by kernel_rfl))
 f218:=Tryz.func347.trans (congrArg some (by kernel_rfl))
 f219:=Tryz.func321.trans (congrArg some (by kernel_rfl))
 f224:=Tryz.func335.trans (congrArg some (by kernel_rfl))
 f225:=Tryz.func334.trans (congrArg some (by kernel_rfl))
 f240:=Tryz.func261.trans (congrArg some (by kernel_rfl))
 f241:=Tryz.func262.trans (congrArg some (by kernel_rfl))
 f260:=Tryz.func348.trans (congrArg some (by kernel_rfl))
 f266:=Tryz.func343.trans (congrArg some (by kernel_rfl))
 f267:=Tryz.func336.trans (congrArg some (by kernel_rfl))
 f276:=Tryz.func286.trans (congrArg some (by kernel_rfl))
 f277:=Tryz.func287.trans (congrArg some (by kernel_rfl))
 f314:=Tryz.func344.trans (congrArg some (by kernel_rfl))
 t0:=Tryz.underlying0
 a0:=Tryz.isAgg0
 z0:=Tryz.sizeOf0
 v0:=Tryz.zeroValue0
 t3:=Tryz.underlying3
 a3:=Tryz.isAgg3
 z3:=Tryz.sizeOf3
 v3:=Tryz.zeroValue3
 t4:=Tryz.underlying4
 a4:=Tryz.isAgg4
 z4:=Tryz.sizeOf4
 v4:=Tryz.zeroValue4
 t5:=Tryz.underlying5
 a5:=Tryz.isAgg5
 z5:=Tryz.sizeOf5
 v5:=Tryz.zeroValue5
 t9:=Tryz.underlying9
 a9:=Tryz.isAgg9
 z9:=Tryz.sizeOf9
 v9:=Tryz.zeroValue9
 t20:=Tryz.underlying20
 a20:=Tryz.isAgg20
 z20:=Tryz.sizeOf20
 v20:=Tryz.zeroValue20
 t21:=Tryz.underlying21
 a21:=Tryz.isAgg21
 z21:=Tryz.sizeOf21
 v21:=Tryz.zeroValue21
 t37:=Tryz.underlying261
 a37:=Tryz.isAgg261
 z37:=Tryz.sizeOf261
 v37:=Tryz.zeroValue261
 t46:=Tryz.underlying222
 a46:=Tryz.isAgg222
 z46:=Tryz.sizeOf222
 v46:=Tryz.zeroValue222
 t51:=Tryz.underlying303
 a51:=Tryz.isAgg303
 z51:=Tryz.sizeOf303
 v51:=Tryz.zeroValue303
 t70:=Tryz.underlying260
 a70:=Tryz.isAgg260
 z70:=Tryz.sizeOf260
 v70:=Tryz.zeroValue260
 t72:=Tryz.underlying263
 a72:=Tryz.isAgg263
 z72:=Tryz.sizeOf263
 v72:=Tryz.zeroValue263
 t75:=Tryz.underlying265
 a75:=Tryz.isAgg265
 z75:=Tryz.sizeOf265
 v75:=Tryz.zeroValue265
 t76:=Tryz.underlying266
 a76:=Tryz.isAgg266
 z76:=Tryz.sizeOf266
 v76:=Tryz.zeroValue266
 t105:=Tryz.underlying352
 a105:=Tryz.isAgg352
 z105:=Tryz.sizeOf352
 v105:=Tryz.zeroValue352
 t119:=Tryz.underlying368
 a119:=Tryz.isAgg368
 z119:=Tryz.sizeOf368
 t127:=Tryz.underlying293
 a127:=Tryz.isAgg293
 z127:=Tryz.sizeOf293
 v127:=Tryz.zeroValue293
 t138:=Tryz.underlying370
 a138:=Tryz.isAgg370
 z138:=Tryz.sizeOf370
 v138:=Tryz.zeroValue370
 t139:=Tryz.underlying371
 a139:=Tryz.isAgg371
 z139:=Tryz.sizeOf371
 v139:=Tryz.zeroValue371
 t146:=Tryz.underlying304
 a146:=Tryz.isAgg304
 z146:=Tryz.sizeOf304
 v146:=Tryz.zeroValue304
 t164:=Tryz.underlying314
 a164:=Tryz.isAgg314
 z164:=Tryz.sizeOf314
 v164:=Tryz.zeroValue314
 g1:=by kernel_rfl
 g3:=by kernel_rfl
 g4:=by kernel_rfl
def Tryz.lays156_ren:Go.Shelf.Ren:=⟨fun|156=>206|165=>233|166=>234|169=>235|240=>261|241=>262|276=>286|277=>287|n=>n,fun|31=>157|9=>9|3=>3|4=>4|0=>0|20=>20|72=>263|76=>266|70=>260|37=>261|75=>265|127=>293|164=>314|5=>5|80=>201|n=>n,fun|n=>n⟩
theorem Tryz.lays156:Go.Proofs.Lays.n156 Tryz.prog Tryz.lays156_ren where
 mixed:=by kernel_rfl
 f156:=Tryz.func206.trans (congrArg some (by kernel_rfl))
 f165:=Tryz.func233.trans (congrArg some (by kernel_rfl))
 f166:=Tryz.func234.trans (congrArg some (by kernel_rfl))
 f169:=Tryz.func235.trans (congrArg some (by kernel_rfl))
 f240:=Tryz.func261.trans (congrArg some (by kernel_rfl))
 f241:=Tryz.func262.trans (congrArg some (by kernel_rfl))
 f276:=Tryz.func286.trans (congrArg some (by kernel_rfl))
 f277:=Tryz.func287.trans (congrArg some (by kernel_rfl))
 t0:=Tryz.underlying0
 a0:=Tryz.isAgg0
 z0:=Tryz.sizeOf0
 v0:=Tryz.zeroValue0
 t3:=Tryz.underlying3
 a3:=Tryz.isAgg3
 z3:=Tryz.sizeOf3
 v3:=Tryz.zeroValue3
 t4:=Tryz.underlying4
 a4:=Tryz.isAgg4
 z4:=Tryz.sizeOf4
 v4:=Tryz.zeroValue4
 t9:=Tryz.underlying9
 a9:=Tryz.isAgg9
 z9:=Tryz.sizeOf9
 v9:=Tryz.zeroValue9
 t20:=Tryz.underlying20
 a20:=Tryz.isAgg20
 z20:=Tryz.sizeOf20
 v20:=Tryz.zeroValue20
 t31:=Tryz.underlying157
 a31:=Tryz.isAgg157
 z31:=Tryz.sizeOf157
 v31:=Tryz.zeroValue157
 t37:=Tryz.underlying261
 a37:=Tryz.isAgg261
 z37:=Tryz.sizeOf261
 v37:=Tryz.zeroValue261
 t70:=Tryz.underlying260
 a70:=Tryz.isAgg260
 z70:=Tryz.sizeOf260
 v70:=Tryz.zeroValue260
 t72:=Tryz.underlying263
 a72:=Tryz.isAgg263
 z72:=Tryz.sizeOf263
 v72:=Tryz.zeroValue263
 t75:=Tryz.underlying265
 a75:=Tryz.isAgg265
 z75:=Tryz.sizeOf265
 v75:=Tryz.zeroValue265
 t76:=Tryz.underlying266
 a76:=Tryz.isAgg266
 z76:=Tryz.sizeOf266
 v76:=Tryz.zeroValue266
 t127:=Tryz.underlying293
 a127:=Tryz.isAgg293
 z127:=Tryz.sizeOf293
 v127:=Tryz.zeroValue293
 t164:=Tryz.underlying314
 a164:=Tryz.isAgg314
 z164:=Tryz.sizeOf314
 v164:=Tryz.zeroValue314
def Tryz.lays106_ren:Go.Shelf.Ren:=⟨fun|106=>174|213=>201|265=>221|n=>n,fun|9=>9|3=>3|n=>n,fun|n=>n⟩
theorem Tryz.lays106:Go.Proofs.Lays.n106 Tryz.prog Tryz.lays106_ren where
 mixed:=by kernel_rfl
 f106:=Tryz.func174.trans (congrArg some (by kernel_rfl))
 f213:=Tryz.func201.trans (congrArg some (by kernel_rfl))
 f265:=Tryz.func221.trans (congrArg some (by kernel_rfl))
 t3:=Tryz.underlying3
 a3:=Tryz.isAgg3
 z3:=Tryz.sizeOf3
 v3:=Tryz.zeroValue3
 t9:=Tryz.underlying9
 a9:=Tryz.isAgg9
 z9:=Tryz.sizeOf9
 v9:=Tryz.zeroValue9
def Tryz.lays172_ren:Go.Shelf.Ren:=⟨fun|172=>305|244=>319|245=>320|247=>328|279=>329|280=>330|281=>331|282=>332|287=>340|316=>341|171=>230|205=>342|321=>349|322=>350|243=>260|246=>285|283=>301|284=>302|285=>303|286=>304|129=>315|317=>314|318=>316|319=>317|320=>318|337=>326|338=>327|n=>n,fun|9=>9|3=>3|75=>265|76=>266|4=>4|5=>5|167=>345|37=>261|0=>0|85=>346|2=>2|168=>348|53=>185|175=>356|46=>222|210=>360|127=>293|145=>367|143=>365|21=>21|171=>323|173=>326|212=>336|51=>303|20=>20|213=>337|232=>354|233=>355|80=>201|n=>n,fun|15=>4|16=>5|17=>1|18=>2|19=>3|n=>n⟩
theorem Tryz.lays172:Go.Proofs.LaysC.n172 Tryz.prog Tryz.lays172_ren where
 mixed:=by kernel_rfl
 f129:=Tryz.func315.trans (congrArg some (by kernel_rfl))
 f171:=Tryz.func230.trans (congrArg some (by kernel_rfl))
 f172:=Tryz.func305.trans (congrArg some (by kernel_rfl))
 f205:=Tryz.func342.trans (congrArg some (by kernel_rfl))
 f243:=Tryz.func260.trans (congrArg some (by kernel_rfl))
 f244:=Tryz.func319.trans (congrArg some (by kernel_rfl))
 f245:=Tryz.func320.trans (congrArg some (by kernel_rfl))
 f246:=Tryz.func285.trans (congrArg some (by kernel_rfl))
 f247:=Tryz.func328.trans (congrArg some (by kernel_rfl))
 f279:=Tryz.func329.trans (congrArg some (by kernel_rfl))
 f280:=Tryz.func330.trans (congrArg some (by kernel_rfl))
 f281:=Tryz.func331.trans (congrArg some (by kernel_rfl))
 f282:=Tryz.func332.trans (congrArg some (by kernel_rfl))
 f283:=Tryz.func301.trans (congrArg some (by kernel_rfl))
 f284:=Tryz.func302.trans (congrArg some (by kernel_rfl))
 f285:=Tryz.func303.trans (congrArg some (by kernel_rfl))
 f286:=Tryz.func304.trans (congrArg some (by kernel_rfl))
 f287:=Tryz.func340.trans (congrArg some (by kernel_rfl))
 f316:=Tryz.func341.trans (congrArg some (by kernel_rfl))
 f317:=Tryz.func314.trans (congrArg some (by kernel_rfl))
 f318:=Tryz.func316.trans (congrArg some (by kernel_rfl))
 f319:=Tryz.func317.trans (congrArg some (by kernel_rfl))
 f320:=Tryz.func318.trans (congrArg some (by kernel_rfl))
 f321:=Tryz.func349.trans (congrArg some (by kernel_rfl))
 f322:=Tryz.func350.trans (congrArg some (by kernel_rfl))
 f337:=Tryz.func326.trans (congrArg some (by kernel_rfl))
 f338:=Tryz.func327.trans (congrArg some (by kernel_rfl))
 t0:=Tryz.underlying0
 a0:=Tryz.isAgg0
 z0:=Tryz.sizeOf0
 v0:=Tryz.zeroValue0
 t2:=Tryz.underlying2
 a2:=Tryz.isAgg2
 z2:=Tryz.sizeOf2
 v2:=Tryz.zeroValue2
 t3:=Tryz.underlying3
 a3:=Tryz.isAgg3
 z3:=Tryz.sizeOf3
 v3:=Tryz.zeroValue3
 t4:=Tryz.underlying4
 a4:=Tryz.isAgg4
 z4:=Tryz.sizeOf4
 v4:=Tryz.zeroValue4
 t5:=Tryz.underlying5
 a5:=Tryz.isAgg5
 z5:=Tryz.sizeOf5
 v5:=Tryz.zeroValue5
 t9:=Tryz.underlying9
 a9:=Tryz.isAgg9
 z9:=Tryz.sizeOf9
 v9:=Tryz.zeroValue9
 t20:=Tryz.underlying20
 a20:=Tryz.isAgg20
 z20:=Tryz.sizeOf20
 v20:=Tryz.zeroValue20
 t21:=Tryz.underlying21
 a21:=Tryz.isAgg21
 z21:=Tryz.sizeOf21
 v21:=Tryz.zeroValue21
 t37:=Tryz.underlying261
 a37:=Tryz.isAgg261
 z37:=Tryz.sizeOf261
 v37:=Tryz.zeroValue261
 t46:=Tryz.underlying222
 a46:=Tryz.isAgg222
 z46:=Tryz.sizeOf222
 v46:=Tryz.zeroValue222
 t51:=Tryz.underlying303
 a51:=Tryz.isAgg303
 z51:=Tryz.sizeOf303
 v51:=Tryz.zeroValue303
 t53:=Tryz.underlying185
 a53:=Tryz.isAgg185
 z53:=Tryz.sizeOf185
 v53:=Tryz.zeroValue185
 t75:=Tryz.underlying265
 a75:=Tryz.isAgg265
 z75:=Tryz.sizeOf265
 v75:=Tryz.zeroValue265
 t76:=Tryz.underlying266
 a76:=Tryz.isAgg266
 z76:=Tryz.sizeOf266
 v76:=Tryz.zeroValue266
 t85:=Tryz.underlying346
 a85:=Tryz.isAgg346
 z85:=Tryz.sizeOf346
 v85:=Tryz.zeroValue346
 t127:=Tryz.underlying293
 a127:=Tryz.isAgg293
 z127:=Tryz.sizeOf293
 v127:=Tryz.zeroValue293
 t143:=Tryz.underlying365
 a143:=Tryz.isAgg365
 z143:=Tryz.sizeOf365
 v143:=Tryz.zeroValue365
 t145:=Tryz.underlying367
 a145:=Tryz.isAgg367
 z145:=Tryz.sizeOf367
 v145:=Tryz.zeroValue367
 t167:=Tryz.underlying345
 a167:=Tryz.isAgg345
 z167:=Tryz.sizeOf345
 v167:=Tryz.zeroValue345
 t168:=Tryz.underlying348
 a168:=Tryz.isAgg348
 z168:=Tryz.sizeOf348
 v168:=Tryz.zeroValue348
 t171:=Tryz.underlying323
 a171:=Tryz.isAgg323
 z171:=Tryz.sizeOf323
 v171:=Tryz.zeroValue323
 t173:=Tryz.underlying326
 a173:=Tryz.isAgg326
 z173:=Tryz.sizeOf326
 v173:=Tryz.zeroValue326
 t175:=Tryz.underlying356
 a175:=Tryz.isAgg356
 z175:=Tryz.sizeOf356
 v175:=Tryz.zeroValue356
 t210:=Tryz.underlying360
 a210:=Tryz.isAgg360
 z210:=Tryz.sizeOf360
 v210:=Tryz.zeroValue360
 t212:=Tryz.underlying336
 a212:=Tryz.isAgg336
 z212:=Tryz.sizeOf336
 v212:=Tryz.zeroValue336
 t213:=Tryz.underlying337
 a213:=Tryz.isAgg337
 z213:=Tryz.sizeOf337
 t232:=Tryz.underlying354
 a232:=Tryz.isAgg354
 z232:=Tryz.sizeOf354
 v232:=Tryz.zeroValue354
 t233:=Tryz.underlying355
 a233:=Tryz.isAgg355
 z233:=Tryz.sizeOf355
 v233:=Tryz.zeroValue355
 g15:=by kernel_rfl
 g16:=by kernel_rfl
 g17:=by kernel_rfl
 g18:=by kernel_rfl
 g19:=by kernel_rfl
 t80:=Tryz.underlying201
 a80:=Tryz.isAgg201
 z80:=Tryz.sizeOf201
 v80:=Tryz.zeroValue201
 i0:=by kernel_rfl
 i2:=by kernel_rfl
 i3:=by kernel_rfl
 i4:=by kernel_rfl
 i5:=by kernel_rfl
 i9:=by kernel_rfl
 i20:=by kernel_rfl
 i21:=by kernel_rfl
 i37:=by kernel_rfl
 i46:=by kernel_rfl
 i51:=by kernel_rfl
 i53:=by kernel_rfl
 i75:=by kernel_rfl
 i76:=by kernel_rfl
 i80:=by kernel_rfl
 i85:=by kernel_rfl
 i127:=by kernel_rfl
 i143:=by kernel_rfl
 i145:=by kernel_rfl
 i167:=by kernel_rfl
 i168:=by kernel_rfl
 i171:=by kernel_rfl
 i173:=by kernel_rfl
 i175:=by kernel_rfl
 i210:=by kernel_rfl
 i212:=by kernel_rfl
 i232:=by kernel_rfl
 i233:=by kernel_rfl
 m15:=by kernel_rfl
 m16:=by kernel_rfl
 m17:=by kernel_rfl
 m18:=by kernel_rfl
 m19:=by kernel_rfl
 c0:=by kernel_rfl
 c2:=by kernel_rfl
 c3:=by kernel_rfl
 c4:=by kernel_rfl
 c5:=by kernel_rfl
 c9:=by kernel_rfl
 c20:=by kernel_rfl
 c21:=by kernel_rfl
 c37:=by kernel_rfl
 c46:=by kernel_rfl
 c51:=by kernel_rfl
 c53:=by kernel_rfl
 c75:=by kernel_rfl
 c76:=by kernel_rfl
 c80:=by kernel_rfl
 c85:=by kernel_rfl
 c127:=by kernel_rfl
 c143:=by kernel_rfl
 c145:=by kernel_rfl
 c167:=by kernel_rfl
 c168:=by kernel_rfl
 c171:=by kernel_rfl
 c173:=by kernel_rfl
 c175:=by kernel_rfl
 c210:=by kernel_rfl
 c212:=by kernel_rfl
 c213:=by kernel_rfl
 c232:=by kernel_rfl
 c233:=by kernel_rfl
@[reducible] noncomputable def jD : List (String × Nat × (Array Value → Prop)) := [
 ("internal/bytealg.MaxLen", 0, fun cs => ∃ m, cs[0]? = some (.int .i64 m)),
 ("internal/strconv.uint64pow10", 1, fun cs => cs = (Lib.pow10Tab.map fun z => Value.int .u64 z).toArray),
 ("strconv.ErrSyntax", 4, fun cs => ∃ t p, cs = #[.iface t p]),
 ("strconv.ErrRange", 5, fun cs => ∃ t p, cs = #[.iface t p])]
noncomputable instance hasG:gG:=varG Tryz.prog jD false
theorem g0 {w:World} (h:gG.hold w):∃m,w.cell? ⟨0,0,none⟩=some (.int .i64 m):=by
 have h:∀v∈jD,qq Tryz.prog w v:=h
 obtain ⟨h1,cs,h2,m,h3⟩:=h (jD[0]'(by simp [jD])) (by simp [jD])
 exact ⟨m,(World.var?_cell h1 h2 0).trans h3⟩
theorem g1 {w : World} (h : gG.hold w) : Lib.TabIs Tryz.prog w "internal/strconv.uint64pow10" .u64 Lib.pow10Tab := by
 have h:∀v∈jD,qq Tryz.prog w v:=h
 obtain ⟨h1,cs,h2,rfl⟩:=h (jD[1]'(by simp [jD])) (by simp [jD])
 exact h2
theorem g2 {w : World} (h : gG.hold w) : ∃ t p, w.var? Tryz.prog "strconv.ErrSyntax" = some #[.iface t p] := by
 have h:∀v∈jD,qq Tryz.prog w v:=h
 obtain ⟨h1,cs,h2,t,p,rfl⟩:=h (jD[2]'(by simp [jD])) (by simp [jD])
 exact ⟨t,p,h2⟩
theorem g3 {w : World} (h : gG.hold w) : ∃ t p, w.var? Tryz.prog "strconv.ErrRange" = some #[.iface t p] := by
 have h:∀v∈jD,qq Tryz.prog w v:=h
 obtain ⟨h1,cs,h2,t,p,rfl⟩:=h (jD[3]'(by simp [jD])) (by simp [jD])
 exact ⟨t,p,h2⟩
theorem ut (w:World) (k:Nat) (os:Array Obj):Below w.heap.size w (Sort.grow (w.drewN k) os):=
 ⟨rfl,rfl,rfl,by simp [Sort.grow],fun b hb=>by simp [Sort.grow,Array.getElem?_append_left,hb]⟩
noncomputable def dB (n:Int):ByteArray:=⟨(Lib.itoa n).toArray⟩
noncomputable def BJ:Int×Unit→Option (ByteArray×Unit):=fun (n,_)=>if -9223372036854775808≤n∧n≤9223372036854775807 then some (dB n,()) else none
theorem Av:fk Tryz.prog 230 ⟨1,⟨[(0,.v false [.int .i64])],[],[],0,[]⟩,⟨[(0,.v false [.str])],[],[],1000,[]⟩,BJ⟩:=
 yx (F:=dB) rfl fun n w h0 h1 hg=>(Any.strconv_Itoa Tryz.lays171 n h0 h1 w (g1 hg)).mono (by
  rintro e w' ⟨rfl,k,os,rfl⟩
  exact ⟨rfl,ut w k os⟩)
noncomputable def qs:ByteArray×ByteArray×Unit→Option (Bool×Unit):=fun (a,b,_)=>if a.size<4294967281 then some (Lib.contains a.data.toList b.data.toList,()) else none
theorem sQ:fk Tryz.prog 293 ⟨2,⟨[(0,.v false [.str]),(1,.v false [.str])],[],[],0,[]⟩,⟨[(0,.v false [.bool])],[],[],1000,[]⟩,qs⟩:=
 wV (F:=fun a b=>Lib.contains a.data.toList b.data.toList) (C:=fun a _=>a.size<4294967281) rfl fun a b w hc hg=>by
  obtain ⟨m,hm⟩:=g0 hg
  refine (Any.strings_Contains Tryz.lays144 a b m w hc hm).mono ?_
  rintro e w' ⟨rfl,rfl⟩
  exact ⟨rfl,Below.refl _ _⟩
theorem bldX:Builder.Extra Tryz.prog Tryz.lays156_ren where
 sizeBuilder:=by kernel_rfl
 liesBuilder:=by kernel_rfl
 t5:=by kernel_rfl
 a5:=run_isAgg_plain (d:=.int .u8) (by kernel_rfl) rfl
 z5:=fun w=>by rfl
 v5:=fun w=>by rfl
 infoByte:=by kernel_rfl
 cellsByte:=by kernel_rfl
 sizeByte:=by kernel_rfl
 neB5:=by decide
noncomputable def lU (a b c:ByteArray):ByteArray:=⟨(Lib.replaceAll a.data.toList b.data.toList c.data.toList).toArray⟩
noncomputable def sR:ByteArray×ByteArray×ByteArray×Unit→Option (ByteArray×Unit):=fun (a,b,c,_)=>if a.size<4294967281∧1≤b.size∧a.size+Lib.countB a b*c.size≤140737488355328 then some (lU a b c,()) else none
theorem uu:fk Tryz.prog 313 ⟨3,⟨[(0,.v false [.str]),(1,.v false [.str]),(2,.v false [.str])],[],[],0,[]⟩,⟨[(0,.v false [.str])],[],[],1000,[]⟩,sR⟩:=
 un (F:=lU) (C:=fun a b c=>a.size<4294967281∧1≤b.size∧a.size+Lib.countB a b*c.size≤140737488355328) rfl fun a b c w hc hg=>by
  obtain ⟨m,hm⟩:=g0 hg
  exact Any.strings_ReplaceAll Tryz.lays155 {bldX with} a b c m w hc.1 hm hc.2.1 hc.2.2
theorem Aw:fk Tryz.prog 206 ⟨2,⟨[(0,.v false [.sl 9 .str]),(1,.v false [.str])],[],[],0,[]⟩,⟨[(0,.v false [.str])],[],[],1000,[]⟩,fun (xs,sep,_)=>if xs.length≤140737488355328∧(jr xs sep).size≤140737488355328 then some (jr xs sep,()) else none⟩:=
 wY rfl Tryz.lays156 bldX rfl
theorem yC:fk Tryz.prog 261 ⟨1,⟨[(0,.v false [.ptr 0 0])],[(0,true,.box 263 [.np 0,.ref 1]),(1,true,.arr 5 (.int .u8))],[],2,[]⟩,
 ⟨[(0,.tup [])],[(0,true,.box 263 [.np 0,.ref 1000]),(1000,true,.arr 5 (.int .u8))],[],1001,[]⟩,fun (bs,_)=>some (bs,())⟩:=
 pv rfl (ρs:=Tryz.lays156_ren) {Tryz.lays156 with} bldX.toX72 rfl rfl
theorem wZ:fk Tryz.prog 235 ⟨1,⟨[(0,.v false [.ptr 0 0])],[(0,true,.box 263 [.np 0,.ref 1]),(1,true,.arr 5 (.int .u8))],[],2,[]⟩,⟨[(0,.v false [.str])],[],[],1000,[]⟩,
 fun (bs,_)=>if (∀x∈bs,0≤x∧x<256) then some (bytesOf bs,()) else none⟩:=
 ov rfl (ρs:=Tryz.lays156_ren) {Tryz.lays156 with} bldX rfl rfl rfl
noncomputable def iA (s:ByteArray):Int×Bool:=match Lib.atoiAll s.data.toList with
 | .ok v=>(v,true)
 | .range=>(Lib.atoiSat s.data.toList,false)
 |_=>(0,false)
noncomputable def BK:ByteArray×Unit→Option (Int×Bool×Unit):=fun (a,_)=>if a.size≤281474976710656 then some ((iA a).1,(iA a).2,()) else none
theorem Ax:fk Tryz.prog 305 ⟨1,⟨[(0,.v false [.str])],[],[],0,[]⟩,⟨[(0,.tup [(false,[.int .i64]),(false,[.ifc])])],[],[],1000,[]⟩,BK⟩:=
  wW (F:=iA) (C:=fun a=>a.size≤281474976710656) rfl fun a w hc hg=>by
    cases h:Lib.atoiAll a.data.toList with
    |ok v=>
      refine (Any.strconv_Atoi_ok Tryz.lays172 a (by omega) v h w).mono ?_
      rintro e w' ⟨rfl,hw⟩
      refine ⟨.nilIface,by simp [iA,h],.inl ⟨by simp [iA,h],rfl⟩,?_⟩
      rcases hw with rfl|⟨t,rfl⟩
      · exact Below.refl _ _
      · exact Lib.below_freeze ((Below.drew (Below.refl _ w)).alloc (Nat.le_refl _) _) (p:=⟨w.heap.size,_,none⟩) (Nat.le_refl _) 1
    |range=>
      obtain ⟨t,p,hv⟩:=g3 hg
      refine (Any.strconv_Atoi_range_var Tryz.lays172 a hc h t p w hv).mono ?_
      rintro e w' ⟨N,rfl,_,_,hb⟩
      refine ⟨.iface (Tryz.lays172_ren.t 168) (.pointer (some ⟨N,0,none⟩)),?_,.inr ⟨by simp [iA,h],_,_,rfl⟩,hb⟩
      simp [iA,h]
    |_=>
      obtain ⟨t,p,hv⟩:=g2 hg
      refine (Any.strconv_Atoi_syntax_var Tryz.lays172 a hc h t p w hv).mono ?_
      rintro e w' ⟨N,rfl,_,_,hb⟩
      refine ⟨.iface (Tryz.lays172_ren.t 168) (.pointer (some ⟨N,0,none⟩)),?_,.inr ⟨by simp [iA,h],_,_,rfl⟩,hb⟩
      simp [iA,h]
noncomputable def uv (a b:ByteArray):Int:=Lib.compareBytes a.data.toList b.data.toList
theorem uw:fk Tryz.prog 174 ⟨2,⟨[(0,.v false [.str]),(1,.v false [.str])],[],[],0,[]⟩,⟨[(0,.v false [.int .i64])],[],[],1000,[]⟩,fun (a,b,_)=>some (uv a b,())⟩:=
 ur (F:=uv) fun a b w=>Any.strings_Compare Tryz.lays106 a b w
end Go.Proofs.Ytpoffnlnhdbpmaa
end
section
set_option maxRecDepth 100000
namespace Go.Proofs.Ytpoffnlnhdbpmaa
open Go Lv Go.Proofs Go.RowKit Go.Shelf
theorem Ay {P:Program} (w:World) {t kt et:TypeId} (es:Array MapEntry) (c:Nat) (s:ByteArray) (v:Value) (hu:P.underlying t=some (.map kt et)) (huk:P.underlying kt=some .string)
 (hf:Instr.findNow .string (.string s) es.toList 0=some none):
 (Instr.mapUpdate t (.map (some w.heap.size)) (.string s) v).run P (w.alloc (.map es c))=.ok () (w.alloc (.map (es.push ⟨.string s,v,c⟩) (c+1))):=by
 have g2:(w.alloc (.map es c)).heap[w.heap.size]?=some (.map es c):=(MapKept.heap_alloc w _).1
 have hchk:=MapKept.run_checkKey (P:=P) (w:=w.alloc (.map es c)) (kt:=kt) huk (k:=.string s) trivial
 unfold Instr.mapUpdate
 simp only [Sem.run_bind,run_underlying hu,Result.andThen_ok,MapKept.run_getObj_map g2,hchk false 9999,Instr.findKey,run_underlying huk,hf,Sem.run_pure,MapKept.run_setObj_map _ g2]
 show Result.ok () {w.alloc (.map es c) with heap:=(w.heap.push (.map es c)).setIfInBounds w.heap.size _}=_
 have:(w.heap.push (.map es c)).setIfInBounds w.heap.size (.map (es.push ⟨.string s,v,c⟩) (c+1))=w.heap.push (.map (es.push ⟨.string s,v,c⟩) (c+1)):=by
  apply Array.toList_inj.1
  simp
 rw [this]
 rfl
def jT:Array MapEntry:=#[⟨.string ⟨#[110,117,108,108]⟩,.agg #[.int .i64 0,.int .i64 0,.string ⟨#[]⟩],0⟩,⟨.string ⟨#[102,97,108,115,101]⟩,.agg #[.int .i64 1,.int .i64 0,.string ⟨#[]⟩],1⟩,⟨.string ⟨#[116,114,117,101]⟩,.agg #[.int .i64 1,.int .i64 1,.string ⟨#[]⟩],2⟩]
end Go.Proofs.Ytpoffnlnhdbpmaa
end
section
set_option maxRecDepth 100000
namespace Go.Proofs.Ytpoffnlnhdbpmaa
open Go Lv Go.Proofs Go.RowKit Go.Shelf
def fstC:Code→Code
 | .seq x _=>x
 |_=> .skip
def yD:Code→Code
 | .seq _ y=>y
 |_=> .skip
noncomputable def cc:Code:=Tryz.f259.body.getD .skip
noncomputable def cR0:Code:=fstC cc
noncomputable def cLP:Code:=fstC (yD cc)
noncomputable def cRS:Code:=yD (yD cc)
theorem cc_eq:cc=.seq cR0 (.seq cLP cRS):=by kernel_rfl
theorem ux {P:Program} (w:World) {t kt et:TypeId} (es:Array MapEntry) (c:Nat) (s:ByteArray) (v:Value) {n:Nat} (hn:n=w.heap.size) (hu:P.underlying t=some (.map kt et)) (huk:P.underlying kt=some .string)
 (hf:Instr.findNow .string (.string s) es.toList 0=some none):
 (Instr.mapUpdate t (.map (some n)) (.string s) v).run P (w.alloc (.map es c))=.ok () (w.alloc (.map (es.push ⟨.string s,v,c⟩) (c+1))):=by
 subst hn
 exact Ay w es c s v hu huk hf
theorem p3a (h:Array Obj) (x y z:Obj):(((h.push x).push y).push z)[h.size]?=some x:=by
 simp only [Array.getElem?_push,Array.size_push,if_true]
 try (simp;try (intro h;omega))
theorem p3b (h:Array Obj) (x y z:Obj):(((h.push x).push y).push z)[h.size+1]?=some y:=by
 simp only [Array.getElem?_push,Array.size_push,if_true]
 try (simp;try (intro h;omega))
theorem p3c (h:Array Obj) (x y z:Obj):(((h.push x).push y).push z)[h.size+1+1]?=some z:=by
 simp only [Array.getElem?_push,Array.size_push,if_true]
 try (simp;try (intro h;omega))
theorem xa {es:Array MapEntry} {seen:Array Nat} (h:(leftOf es seen).size=0) {e:MapEntry} (he:e∈es.toList):seen.contains e.born=true:=by
 unfold leftOf at h
 have h:=Array.eq_empty_of_size_eq_zero h
 rw [Array.filter_eq_empty_iff] at h
 have:=h e (by simpa using he)
 simpa using this
theorem Ch {w:World} {r:Nat} {o o':Obj} (h:w.heap[r]?=some o):(ChangeMaps.setBlock w r o').heap[r]?=some o':=by
 have:=(Array.getElem?_eq_some_iff.1 h).1
 simp [ChangeMaps.setBlock,this]
theorem uy {w:World} {r i:Nat} {o':Obj} (h:r≠i):(ChangeMaps.setBlock w r o').heap[i]?=w.heap[i]?:=by
 simp [ChangeMaps.setBlock,Array.getElem?_setIfInBounds,h]
theorem Cj (w:World) (n:Nat) (o':Obj):(ChangeMaps.setBlock w (n+1+1) o').heap[n]?=w.heap[n]?:=uy (by omega)
theorem Cl (w:World) (n:Nat) (o':Obj):(ChangeMaps.setBlock w (n+1+1) o').heap[n+1]?=w.heap[n+1]?:=uy (by omega)
theorem Cn {w0 w:World} {n:Nat} {o':Obj} (h:Below n w0 w):Below n w0 (ChangeMaps.setBlock w (n+1+1) o'):=
 ⟨h.os,h.tape,h.output,by simpa [ChangeMaps.setBlock] using h.size,fun k hk=>(uy (by omega)).trans (h.block k hk)⟩
theorem qX {W:World} {n i:Nat} {vs:Array Value} {t:TypeId} {v:Value} (h:W.heap[n]?=some (.cells vs t)) (hv:vs[i]?=some v) (o:Obj):(W.alloc o).cell? ⟨n,i,none⟩=some v:=by
 have hlt:=(Array.getElem?_eq_some_iff.1 h).1
 have:(W.alloc o).heap[n]?=some (.cells vs t):=by
  show (W.heap.push o)[n]?=_
  rw [Array.getElem?_push,if_neg (by omega)]
  exact h
 simp [World.cell?,this,hv]
theorem qY {W:World} {n:Nat} {x:Obj} (h:W.heap[n]?=some x) (o:Obj):(W.alloc o).heap[n]?=some x:=by
 have hlt:=(Array.getElem?_eq_some_iff.1 h).1
 show (W.heap.push o)[n]?=_
 rw [Array.getElem?_push,if_neg (by omega)]
 exact h
theorem xb:∀e∈jT.toList,∀f∈jT.toList,e.born=f.born→e=f:=by
 intro e he f hf h
 have m3:e∈ [(⟨.string ⟨#[110,117,108,108]⟩,.agg #[.int .i64 0,.int .i64 0,.string ⟨#[]⟩],0⟩:MapEntry),⟨.string ⟨#[102,97,108,115,101]⟩,.agg #[.int .i64 1,.int .i64 0,.string ⟨#[]⟩],1⟩,⟨.string ⟨#[116,114,117,101]⟩,.agg #[.int .i64 1,.int .i64 1,.string ⟨#[]⟩],2⟩]:=he
 have m4:f∈ [(⟨.string ⟨#[110,117,108,108]⟩,.agg #[.int .i64 0,.int .i64 0,.string ⟨#[]⟩],0⟩:MapEntry),⟨.string ⟨#[102,97,108,115,101]⟩,.agg #[.int .i64 1,.int .i64 0,.string ⟨#[]⟩],1⟩,⟨.string ⟨#[116,114,117,101]⟩,.agg #[.int .i64 1,.int .i64 1,.string ⟨#[]⟩],2⟩]:=hf
 simp only [List.mem_cons,List.not_mem_nil,or_false] at m3 m4
 rcases m3 with rfl|rfl|rfl<;>rcases m4 with rfl|rfl|rfl<;>simp at h<;>rfl
theorem bnil {s:ByteArray} (h:s.toList=[]):s=⟨#[]⟩:=by
 rw [ByteArray.toList_eq] at h
 exact Go.WideShapes.bytes_inj h
theorem Az (w : World) (a b : Int) (s : ByteArray) (Q : Exit → Act → World → Prop)
    (hn:∀(act:Act) (w1:World),act.tmps.size=25→act.tmps[1]?=some (.pointer (some ⟨w.heap.size,0,none⟩))→act.defers=[]→Below w.heap.size w w1→w1.heap[w.heap.size]?=some (.cells #[.int .i64 a,.int .i64 b,.string s] 47)→(∀e∈jT.toList,e.val≠.agg #[.int .i64 a,.int .i64 b,.string s])→Q .normal act w1)
    (hr:∀(act:Act) (w1:World) (e:MapEntry),e∈jT.toList→e.val=.agg #[.int .i64 a,.int .i64 b,.string s]→act.tmps.size=25→act.tmps[2]?=some e.key→act.defers=[]→Below w.heap.size w w1→Q .ret act w1):cLP.wp Tryz.prog Q ⟨#[.agg #[.int .i64 a,.int .i64 b,.string s],.pointer (some ⟨w.heap.size,0,none⟩),.string ⟨#[]⟩,undef,undef,undef,undef,undef,undef,undef,undef,undef,undef,undef,undef,undef,undef,undef,undef,undef,undef,undef,undef,undef,undef],[]⟩ (w.alloc (.cells #[.int .i64 a,.int .i64 b,.string s] 47)):=by
  dsimp only [cLP,yD,fstC,cc,Tryz.f259,Option.getD]
  go_wp2
  simp only [run_makeMap,Result.andThen]
  go_wp2
  rw [ux _ #[] 0 _ _ (by simp) (kt:=9) (et:=47) (by kernel_rfl) (by kernel_rfl) (by kernel_rfl)]
  simp only [Result.andThen]
  go_wp2
  rw [ux _ _ 1 _ _ (by simp) (kt:=9) (et:=47) (by kernel_rfl) (by kernel_rfl) (by kernel_rfl)]
  simp only [Result.andThen]
  go_wp2
  rw [ux _ _ 2 _ _ (by simp) (kt:=9) (et:=47) (by kernel_rfl) (by kernel_rfl) (by kernel_rfl)]
  simp only [Result.andThen]
  go_wp2
  rw [run_range_map _ 309 9 47 _ _ _ (by kernel_rfl) (by rw [show w.heap.size+1=(w.alloc (.cells #[.int .i64 a,.int .i64 b,.string s] 47)).heap.size by simp];exact (MapKept.heap_alloc _ _).1)]
  simp only [Result.andThen]
  go_wp2
  refine wp_loop (fun a' w'=>∃(x3 x4 x8 x9 x10 x11 x12 x13 x14 x15:Value) (seen:Array Nat),a'=⟨#[.agg #[.int .i64 a,.int .i64 b,.string s],.pointer (some ⟨w.heap.size,0,none⟩),.string ⟨#[]⟩,x3,x4,undef,.map (some (w.heap.size+1)),.pointer (some ⟨w.heap.size+1+1,0,none⟩),x8,x9,x10,x11,x12,x13,x14,x15,undef,undef,undef,undef,undef,undef,undef,undef,undef],[]⟩∧
      w'.heap[w.heap.size]?=some (.cells #[.int .i64 a,.int .i64 b,.string s] 47)∧w'.heap[w.heap.size+1]?=some (.map jT 3)∧w'.heap[w.heap.size+1+1]?=some (.mapIter (some (w.heap.size+1)) 3 seen 3)∧Below w.heap.size w w'∧(∀e∈jT.toList,seen.contains e.born=true→e.val≠.agg #[.int .i64 a,.int .i64 b,.string s]))
    (fun _ w'=>(leftOf jT (w'.iterSeen (w.heap.size+1+1))).size) ⟨undef,undef,undef,undef,undef,undef,undef,undef,undef,undef,#[],rfl,?_,?_,?_,?_,?_⟩ ?_
  · exact p3a _ _ _ _
  · exact p3b _ _ _ _
  · exact p3c _ _ _ _
  · refine (((Below.refl w.heap.size w).alloc (Nat.le_refl _) _).alloc (by simp) _).alloc (by simp;omega) _
  · intro e _ h
    simp at h
  rintro _ w1 ⟨x3,x4,x8,x9,x10,x11,x12,x13,x14,x15,seen,rfl,h1,h2,h3,hB,h4⟩
  go_wp2
  have c0:w1.cell? ⟨w.heap.size,0,none⟩=some (.int .i64 a):=by simp [World.cell?,h1]
  have c1:w1.cell? ⟨w.heap.size,1,none⟩=some (.int .i64 b):=by simp [World.cell?,h1]
  have c2:w1.cell? ⟨w.heap.size,2,none⟩=some (.string s):=by simp [World.cell?,h1]
  rcases run_next_at (P:=Tryz.prog) w1 0 _ _ _ _ _ _ _ h3 h2 (by decide) (by decide) with ⟨g1,g2⟩|⟨e,he,w2,hw2,g2⟩
  · rw [g2]
    simp only [Result.andThen]
    go_wp2
    refine hn _ _ rfl rfl rfl hB h1 fun e he=>h4 e he ?_
    exact xa g1 he
  · obtain ⟨m1,m2⟩:=mem_left he
    have hB2:Below w.heap.size w w2:=by rcases hw2 with rfl|rfl;exact hB;exact hB.drew
    have k1:w2.heap[w.heap.size]?=some (.cells #[.int .i64 a,.int .i64 b,.string s] 47):=by rcases hw2 with rfl|rfl;exact h1;exact h1
    have k2:w2.heap[w.heap.size+1]?=some (.map jT 3):=by rcases hw2 with rfl|rfl;exact h2;exact h2
    have k3:w2.heap[w.heap.size+1+1]?=some (.mapIter (some (w.heap.size+1)) 3 seen 3):=by rcases hw2 with rfl|rfl;exact h3;exact h3
    rw [g2]
    clear g2 hw2 c0 c1 c2
    generalize hW:ChangeMaps.setBlock w2 (w.heap.size+1+1) (.mapIter (some (w.heap.size+1)) 3 (seen.push e.born) 3)=W
    have hB3:Below w.heap.size w W:=hW▸Cn hB2
    have j1:W.heap[w.heap.size]?=some (.cells #[.int .i64 a,.int .i64 b,.string s] 47):=hW▸(Cj w2 w.heap.size _).trans k1
    have j2:W.heap[w.heap.size+1]?=some (.map jT 3):=hW▸(Cl w2 w.heap.size _).trans k2
    have j3:W.heap[w.heap.size+1+1]?=some (.mapIter (some (w.heap.size+1)) 3 (seen.push e.born) 3):=hW▸Ch k3
    clear hW
    simp only [Result.andThen]
    go_wp2
    rw [run_entry_at W (w.heap.size+1+1) (w.heap.size+1) 3 seen jT 3 e j3 j2 m1 (by decide)]
    simp only [Result.andThen]
    have m3:e∈ [(⟨.string ⟨#[110,117,108,108]⟩,.agg #[.int .i64 0,.int .i64 0,.string ⟨#[]⟩],0⟩:MapEntry),⟨.string ⟨#[102,97,108,115,101]⟩,.agg #[.int .i64 1,.int .i64 0,.string ⟨#[]⟩],1⟩,⟨.string ⟨#[116,114,117,101]⟩,.agg #[.int .i64 1,.int .i64 1,.string ⟨#[]⟩],2⟩]:=m1
    have hlt:w.heap.size<W.heap.size:=by have:=(Array.getElem?_eq_some_iff.1 j1).1;omega
    have c0:∀o,(W.alloc o).cell? ⟨w.heap.size,0,none⟩=some (.int .i64 a):=qX j1 rfl
    have c1:∀o,(W.alloc o).cell? ⟨w.heap.size,1,none⟩=some (.int .i64 b):=qX j1 rfl
    have c2:∀o,(W.alloc o).cell? ⟨w.heap.size,2,none⟩=some (.string s):=qX j1 rfl
    have fin:∀o,e.val≠.agg #[.int .i64 a,.int .i64 b,.string s]→((W.alloc o).heap[w.heap.size]?=some (.cells #[.int .i64 a,.int .i64 b,.string s] 47)∧(W.alloc o).heap[w.heap.size+1]?=some (.map jT 3)∧
        ∃x,(W.alloc o).heap[w.heap.size+1+1]?=some (.mapIter (some (w.heap.size+1)) 3 x 3)∧Below w.heap.size w (W.alloc o)∧∀e∈jT.toList,x.contains e.born=true→e.val≠.agg #[.int .i64 a,.int .i64 b,.string s])∧
        (leftOf jT ((W.alloc o).iterSeen (w.heap.size+1+1))).size<(leftOf jT (w1.iterSeen (w.heap.size+1+1))).size:=fun o hne=>by
      have i3:(W.alloc o).heap[w.heap.size+1+1]?=some (.mapIter (some (w.heap.size+1)) 3 (seen.push e.born) 3):=qY j3 o
      refine ⟨⟨qY j1 o,qY j2 o,_,i3,hB3.alloc (Nat.le_of_lt hlt) o,fun e' he' hs=>?_⟩,?_⟩
      · by_cases hb:e'.born=e.born
        · have:e'=e:=xb e' he' e m1 hb
          rw [this];exact hne
        · refine h4 e' he' ?_
          simp only [Array.contains_push,Bool.or_eq_true,beq_iff_eq] at hs
          rcases hs with hs|hs
          · exact hs
          · exact absurd hs hb
      · have e1:(W.alloc o).iterSeen (w.heap.size+1+1)=seen.push e.born:=by unfold World.iterSeen;rw [i3]
        have e2:w1.iterSeen (w.heap.size+1+1)=seen:=by unfold World.iterSeen;rw [h3]
        rw [e1,e2]
        exact left_shrinks jT seen e he
    clear j2 j3 h1 h2 h3 hB h4 he m2
    simp only [List.mem_cons,List.not_mem_nil,or_false] at m3
    rcases m3 with rfl|rfl|rfl
    · have fin:=fin (.cells #[.int .i64 0,.int .i64 0,.string ⟨#[]⟩] 47)
      go_wp2
      · rename_i q1 q2 q3
        have q3:=bnil q3
        subst q1;subst q2;subst q3
        exact hr _ _ _ m1 rfl rfl rfl rfl (hB3.alloc (Nat.le_of_lt hlt) _)
      · rename_i q1 q2 q3
        subst q1;subst q2
        obtain ⟨⟨f1,f2,x,f3,f4,f5⟩,f6⟩:=fin fun hh=>by simp at hh;exact q3 (by rw [←hh];exact ByteArray.toList_eq _)
        exact ⟨⟨(Array.getElem?_eq_some_iff.1 f1).2,(Array.getElem?_eq_some_iff.1 f2).2,x,f3,f4,by simpa using f5⟩,f6⟩
      · rename_i q1 q2
        subst q1
        obtain ⟨⟨f1,f2,x,f3,f4,f5⟩,f6⟩:=fin fun hh=>by simp at hh;exact q2 hh.1.symm
        exact ⟨⟨(Array.getElem?_eq_some_iff.1 f1).2,(Array.getElem?_eq_some_iff.1 f2).2,x,f3,f4,by simpa using f5⟩,f6⟩
      · rename_i q1
        obtain ⟨⟨f1,f2,x,f3,f4,f5⟩,f6⟩:=fin fun hh=>by simp at hh;exact q1 hh.1.symm
        exact ⟨⟨(Array.getElem?_eq_some_iff.1 f1).2,(Array.getElem?_eq_some_iff.1 f2).2,x,f3,f4,by simpa using f5⟩,f6⟩
    · have fin:=fin (.cells #[.int .i64 1,.int .i64 0,.string ⟨#[]⟩] 47)
      go_wp2
      · rename_i q1 q2 q3
        have q3:=bnil q3
        subst q1;subst q2;subst q3
        exact hr _ _ _ m1 rfl rfl rfl rfl (hB3.alloc (Nat.le_of_lt hlt) _)
      · rename_i q1 q2 q3
        subst q1;subst q2
        obtain ⟨⟨f1,f2,x,f3,f4,f5⟩,f6⟩:=fin fun hh=>by simp at hh;exact q3 (by rw [←hh];exact ByteArray.toList_eq _)
        exact ⟨⟨(Array.getElem?_eq_some_iff.1 f1).2,(Array.getElem?_eq_some_iff.1 f2).2,x,f3,f4,by simpa using f5⟩,f6⟩
      · rename_i q1 q2
        subst q1
        obtain ⟨⟨f1,f2,x,f3,f4,f5⟩,f6⟩:=fin fun hh=>by simp at hh;exact q2 hh.1.symm
        exact ⟨⟨(Array.getElem?_eq_some_iff.1 f1).2,(Array.getElem?_eq_some_iff.1 f2).2,x,f3,f4,by simpa using f5⟩,f6⟩
      · rename_i q1
        obtain ⟨⟨f1,f2,x,f3,f4,f5⟩,f6⟩:=fin fun hh=>by simp at hh;exact q1 hh.1.symm
        exact ⟨⟨(Array.getElem?_eq_some_iff.1 f1).2,(Array.getElem?_eq_some_iff.1 f2).2,x,f3,f4,by simpa using f5⟩,f6⟩
    · have fin:=fin (.cells #[.int .i64 1,.int .i64 1,.string ⟨#[]⟩] 47)
      go_wp2
      · rename_i q1 q2 q3
        have q3:=bnil q3
        subst q1;subst q2;subst q3
        exact hr _ _ _ m1 rfl rfl rfl rfl (hB3.alloc (Nat.le_of_lt hlt) _)
      · rename_i q1 q2 q3
        subst q1;subst q2
        obtain ⟨⟨f1,f2,x,f3,f4,f5⟩,f6⟩:=fin fun hh=>by simp at hh;exact q3 (by rw [←hh];exact ByteArray.toList_eq _)
        exact ⟨⟨(Array.getElem?_eq_some_iff.1 f1).2,(Array.getElem?_eq_some_iff.1 f2).2,x,f3,f4,by simpa using f5⟩,f6⟩
      · rename_i q1 q2
        subst q1
        obtain ⟨⟨f1,f2,x,f3,f4,f5⟩,f6⟩:=fin fun hh=>by simp at hh;exact q2 hh.1.symm
        exact ⟨⟨(Array.getElem?_eq_some_iff.1 f1).2,(Array.getElem?_eq_some_iff.1 f2).2,x,f3,f4,by simpa using f5⟩,f6⟩
      · rename_i q1
        obtain ⟨⟨f1,f2,x,f3,f4,f5⟩,f6⟩:=fin fun hh=>by simp at hh;exact q1 hh.1.symm
        exact ⟨⟨(Array.getElem?_eq_some_iff.1 f1).2,(Array.getElem?_eq_some_iff.1 f2).2,x,f3,f4,by simpa using f5⟩,f6⟩
end Go.Proofs.Ytpoffnlnhdbpmaa
end
section
set_option maxRecDepth 100000
namespace Go.Proofs.Ytpoffnlnhdbpmaa
open Go Lv Go.Proofs Go.RowKit Go.Shelf
theorem r0_wp (w:World) (a b:Int) (s:ByteArray) (Q:Exit→Act→World→Prop)
 (h:Q .normal ⟨#[.agg #[.int .i64 a,.int .i64 b,.string s],.pointer (some ⟨w.heap.size,0,none⟩),.string ⟨#[]⟩,undef,undef,undef,undef,undef,undef,undef,undef,undef,undef,undef,undef,undef,undef,undef,undef,undef,undef,undef,undef,undef,undef],[]⟩ (w.alloc (.cells #[.int .i64 a,.int .i64 b,.string s] 47))):
 cR0.wp Tryz.prog Q ⟨#[.agg #[.int .i64 a,.int .i64 b,.string s],undef,undef,undef,undef,undef,undef,undef,undef,undef,undef,undef,undef,undef,undef,undef,undef,undef,undef,undef,undef,undef,undef,undef,undef],[]⟩ w:=by
 dsimp only [cR0,yD,fstC,cc,Tryz.f259,Option.getD]
 go_wp2
 exact h
noncomputable def cst (a b:Int) (s:ByteArray):St:=⟨fun t=>if t=1 then some (.v false [.ptr 1000 0]) else none,fun l=>if l=1000 then some (.box 47 [.int .i64 a,.int .i64 b,.str s]) else none,1001,[]⟩
def csi:Sh:=⟨[(0,.v true [.int .i64,.int .i64,.str])],[],[],0,[]⟩
def cso:Sh:=⟨[(0,.v false [.str])],[],[],1000,[]⟩
noncomputable def cfin (cx:Cx) (o:Out):Option (TS cso):=match o with
 | .normal st=>evF.fin cx Tryz.f259.results.toList cso st
 | .ret st=>evF.fin cx Tryz.f259.results.toList cso st
 | .exit _ _=>none
 | .pan _ _=>none
theorem yE:jo 25 (writes cRS)=true:=by kernel_rfl
theorem yF {cx : Cx} (hcx : gT Tryz.prog cx) (hdr : jz Tryz.prog cx) (h : H) (F : TS csi → Option (TS cso))
    (hret:∀a b s y e,F (a,b,s,())=some y→e∈jT.toList→e.val=.agg #[.int .i64 a,.int .i64 b,.string s]→e.key=.string y.1)
    (hrest:∀a b s y,F (a,b,s,())=some y→(∀e∈jT.toList,e.val≠.agg #[.int .i64 a,.int .i64 b,.string s])→evC cx inl0 (TS cso) cRS h (cst a b s) (cfin cx)=some y):
    fk Tryz.prog 259 ⟨1,csi,cso,F⟩:=by
  rintro ⟨a,b,s,⟨⟩⟩ y hxy ρ ok w args hn hH hE
  have hn:args.size=1:=hn
  obtain ⟨v,hv,hV⟩:=hE 0 (.v true [.int .i64 a,.int .i64 b,.str s]) rfl
  obtain ⟨vs,rfl,hA⟩:=hV
  have hargs:args=#[.agg #[.int .i64 a,.int .i64 b,.string s]]:=by
    have hvs:vs=[.int .i64 a,.int .i64 b,.string s]:=by
      rcases hA with _|⟨h1,hA⟩
      rcases hA with _|⟨h2,hA⟩
      rcases hA with _|⟨h3,hA⟩
      rcases hA with _|_
      have h1:_=_:=h1
      have h2:_=_:=h2
      have h3:_=_:=h3
      rw [h1,h2,h3]
    rw [hvs] at hv
    apply Array.ext
    · rw [hn];rfl
    · intro i hi _
      have:i=0:=by omega
      subst this
      have:=(Array.getElem?_eq_some_iff.1 hv).2
      simpa using this
  subst hargs
  have hbody:Tryz.f259.body=some cc:=by kernel_rfl
  refine calls_of_wp Tryz.func259 hbody ?_
  have hnt:(#[.agg #[.int .i64 a,.int .i64 b,.string s]]:Array Value)++Array.replicate (Tryz.f259.ntmps-(#[.agg #[.int .i64 a,.int .i64 b,.string s]]:Array Value).size) undef=#[.agg #[.int .i64 a,.int .i64 b,.string s],undef,undef,undef,undef,undef,undef,undef,undef,undef,undef,undef,undef,undef,undef,undef,undef,undef,undef,undef,undef,undef,undef,undef,undef]:=by kernel_rfl
  rw [hnt,cc_eq]
  have hH0:∀l o,eO csi id (a,b,s,()) l=some o→False:=fun l o h=>by cases h
  refine wp_seq (r0_wp w a b s _ ?_)
  show (Code.seq cLP cRS).wp _ _ _ _
  refine wp_seq (Az w a b s _ ?_ ?_)
  · intro act w1 a1 a2 a3 hB hb hne
    show cRS.wp _ _ _ _
    have hev:=hrest a b s y hxy hne
    let ρ':Nat→Value:=fun l=>if l=1000 then .pointer (some ⟨w.heap.size,0,none⟩) else ρ l
    have hS:gU ok ok w w1:=fun b h=>⟨h,hB.block b (hH.okl b h)⟩
    have hp1:∀l o,(cst a b s).hp l=some o→l=1000∧o=.box 47 [.int .i64 a,.int .i64 b,.str s]:=fun l o h=>by
      simp only [cst] at h
      split at h
      · rename_i hl;cases h;exact ⟨hl,rfl⟩
      · cases h
    have hr1:ρ' 1000=.pointer (some ⟨w.heap.size,0,none⟩):=by simp [ρ']
    have hH1:ew ρ' ok w1 (cst a b s).hp (cst a b s).nx:=by
      refine ⟨fun l o ho=>?_,fun b hb=>Nat.lt_of_lt_of_le (hH.okl b hb) hB.size,fun l o b ho _ hbl=>?_,fun l m o p b ho hp _ _ _ _=>?_,hH.gl.move hS⟩
      · obtain ⟨rfl,rfl⟩:=hp1 l o ho
        refine ⟨by show 1000<1001;decide,w.heap.size,[.int .i64 a,.int .i64 b,.string s],hr1,hb,?_⟩
        exact .cons rfl (.cons rfl (.cons rfl .nil))
      · obtain ⟨rfl,rfl⟩:=hp1 l o ho
        rw [hr1] at hbl
        cases hbl
        exact fun hok=>absurd (hH.okl _ hok) (Nat.lt_irrefl _)
      · rw [(hp1 l o ho).1,(hp1 m p hp).1]
    have hG:gV ρ ok w (eO csi id (a,b,s,())) 1000 [] ρ' ok w1 (cst a b s).hp (cst a b s).nx:=by
      refine ⟨hB.os,hB.tape,⟨hB.output,fun e=>by cases e⟩,hB.size,by show 1000≤1001;decide,fun b hb _=>hB.block b hb,fun l hl=>?_,fun _ h=>h,fun _ h=> .inl h,fun l hl _=>?_,fun l hl o ho=>?_,fun l o b hl ho _ hbl=>?_⟩
      · have:l≠1000:=by omega
        simp [ρ',this]
      · have:l≠1000:=by omega
        have e1:eO csi id (a,b,s,()) l=none:=by rfl
        rw [e1]
        simp [cst,this]
      · have:=(hp1 l o ho).1;omega
      · obtain ⟨rfl,rfl⟩:=hp1 l o ho
        rw [hr1] at hbl
        cases hbl
        exact .inl (Nat.le_refl _)
    have hE1:eH ρ' ok w1 (cst a b s).nx (cst a b s).env act.tmps:=by
      intro t sl hsl
      simp only [cst] at hsl
      split at hsl
      · rename_i ht
        cases hsl
        subst ht
        exact ⟨_,a2,_,rfl,by show 1000<1001;decide,w.heap.size,hr1,rfl⟩
      · cases hsl
    refine jA hcx (vo _ _) hdr cRS (TS cso) h (cst a b s) (cfin cx) y hev ρ' ok w1 act hH1 hE1 (fun t ht=>by rw [a1];exact jp.1 yE t ht) _ ?_ ?_
    · intro o e a' w' k1 k2 ⟨ρ2,ok2,D,g1,g2,g3,g4,g5⟩
      have fin:∀st',evF.fin cx Tryz.f259.results.toList cso st'=some y→o.st=st'→a'.defers=[]∧∃v,(results Tryz.f259 a'.tmps).run Tryz.prog w'=.ok v w'∧∃u ρ' ok',Ending.returned v=.returned u∧ew ρ' ok' w' (eO cso id y) cso.nn∧eH ρ' ok' w' cso.nn (ik cso id y) #[u]∧lL (eO csi id (a,b,s,())) ρ ok w (eO cso id y) ρ' ok' w':=by
        intro st' hk ho
        subst ho
        obtain ⟨sl,hs⟩:=oB hk
        obtain ⟨v,r1,r2⟩:=ul (P:=Tryz.prog) (fn:=Tryz.f259) hcx.tab g2 g3 hs
        refine ⟨g5.defers.trans a3,v,r1,?_⟩
        exact qO (so:=cso) (by decide) hk g2 (fun s' hs'=>by rw [hs] at hs';cases hs';exact r2) (hG.trans g4)
      cases o with
      |normal st'=>
        cases k2
        exact fin st' k1 rfl
      |ret st'=>
        cases k2
        exact fin st' k1 rfl
      |exit id st'=>cases k1
      |pan n st'=>cases k2
    · intro n st' a' w' k1 _
      cases k1
  · intro act w1 e he hval a1 a2 a3 hB
    have hk:=hret a b s y e hxy he hval
    refine ⟨a3,.string y.1,?_,?_⟩
    · have hres:Tryz.f259.results=#[.tmp 2]:=by kernel_rfl
      rw [results_tmp hres act.tmps Tryz.prog w1]
      rw [Array.getD_eq_getD_getElem?,a2,hk]
      rfl
    · exact ll (so:=cso) rfl hB hH (fun l o h=>by cases h) (jS (fun ρ ok w nx=>⟨_,rfl,rfl⟩))
noncomputable def nS (M:Int→Int→ByteArray→Option (ByteArray×Unit)):Int×Int×ByteArray×Unit→Option (ByteArray×Unit):=fun (a,b,s,_)=>
 let e:ByteArray:=(⟨#[]⟩:ByteArray)
 bif (a==(0:Int))&&(b==(0:Int))&&(s==e) then some ((⟨#[110,117,108,108]⟩:ByteArray),())
 else bif (a==(1:Int))&&(b==(0:Int))&&(s==e) then some ((⟨#[102,97,108,115,101]⟩:ByteArray),())
 else bif (a==(1:Int))&&(b==(1:Int))&&(s==e) then some ((⟨#[116,114,117,101]⟩:ByteArray),())
 else M a b s
theorem Co {s:ByteArray} (h:(s==(⟨#[]⟩:ByteArray))=true):s=⟨#[]⟩:=by
 have h:(s.data==#[])=true:=h
 have h:=eq_of_beq h
 cases s;simp at h;rw [h]
theorem agg3 {a b c d:Int} {s t:ByteArray} (h:Value.agg #[.int .i64 a,.int .i64 b,.string s]=.agg #[.int .i64 c,.int .i64 d,.string t]):a=c∧b=d∧s=t:=by
 simp at h;exact h
theorem xc {cx : Cx} (hcx : gT Tryz.prog cx) (hdr : jz Tryz.prog cx) (h : H) (M : Int → Int → ByteArray → Option (ByteArray × Unit))
    (hev:∀a b s,evC cx inl0 (TS cso) cRS h (cst a b s) (cfin cx)=M a b s):fk Tryz.prog 259 ⟨1,csi,cso,nS M⟩:=by
  refine yF hcx hdr h (nS M) (fun a b s y e hF he hv=>?_) (fun a b s y hF hne=>?_)
  · have m3:e∈ [(⟨.string ⟨#[110,117,108,108]⟩,.agg #[.int .i64 0,.int .i64 0,.string ⟨#[]⟩],0⟩:MapEntry),⟨.string ⟨#[102,97,108,115,101]⟩,.agg #[.int .i64 1,.int .i64 0,.string ⟨#[]⟩],1⟩,⟨.string ⟨#[116,114,117,101]⟩,.agg #[.int .i64 1,.int .i64 1,.string ⟨#[]⟩],2⟩]:=he
    simp only [List.mem_cons,List.not_mem_nil,or_false] at m3
    rcases m3 with rfl|rfl|rfl
    · obtain ⟨rfl,rfl,rfl⟩:=agg3 hv
      have:nS M (0,0,⟨#[]⟩,())=some ((⟨#[110,117,108,108]⟩:ByteArray),()):=rfl
      have hh:=this.symm.trans hF
      cases hh;rfl
    · obtain ⟨rfl,rfl,rfl⟩:=agg3 hv
      have:nS M (1,0,⟨#[]⟩,())=some ((⟨#[102,97,108,115,101]⟩:ByteArray),()):=rfl
      have hh:=this.symm.trans hF
      cases hh;rfl
    · obtain ⟨rfl,rfl,rfl⟩:=agg3 hv
      have:nS M (1,1,⟨#[]⟩,())=some ((⟨#[116,114,117,101]⟩:ByteArray),()):=rfl
      have hh:=this.symm.trans hF
      cases hh;rfl
  · rw [hev]
    have no:∀(x y:Int) (k:ByteArray) (n:Nat),(⟨.string k,.agg #[.int .i64 x,.int .i64 y,.string ⟨#[]⟩],n⟩:MapEntry)∈jT.toList→((a==x)&&(b==y)&&(s==(⟨#[]⟩:ByteArray)))=false:=by
      intro x y k n hm
      cases hb:((a==x)&&(b==y)&&(s==(⟨#[]⟩:ByteArray))) with
      |false=>rfl
      |true=>
        simp only [Bool.and_eq_true,beq_iff_eq] at hb
        have h3:=Co hb.2
        exact absurd (by rw [hb.1.1,hb.1.2,h3]) (hne _ hm)
    have n1:=no 0 0 _ _ (show (⟨.string ⟨#[110,117,108,108]⟩,.agg #[.int .i64 0,.int .i64 0,.string ⟨#[]⟩],0⟩:MapEntry)∈jT.toList by simp [jT])
    have n2:=no 1 0 _ _ (show (⟨.string ⟨#[102,97,108,115,101]⟩,.agg #[.int .i64 1,.int .i64 0,.string ⟨#[]⟩],1⟩:MapEntry)∈jT.toList by simp [jT])
    have n3:=no 1 1 _ _ (show (⟨.string ⟨#[116,114,117,101]⟩,.agg #[.int .i64 1,.int .i64 1,.string ⟨#[]⟩],2⟩:MapEntry)∈jT.toList by simp [jT])
    unfold nS at hF
    simp only [n1,n2,n3,cond_false] at hF
    exact hF
end Go.Proofs.Ytpoffnlnhdbpmaa
end
