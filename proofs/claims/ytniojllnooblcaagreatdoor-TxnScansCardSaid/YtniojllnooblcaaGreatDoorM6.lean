import Derived.Test.YtniojllnooblcaaGreatDoorM5
import Derived.RangeFuncNested
import Derived.RangeFuncBound
import Derived.RangeFuncBox
import Derived.RangeFuncCalls
import Derived.RangeFuncLeaves
import Derived.Shelf.Abstract
import Derived.Shelf.RegionOpen
import Derived.WalkKit
import Derived.OwnWalkIn
import Derived.TacticsInMore
import Derived.LoopNIn
import Derived.LoopIn
import Derived.Maps.AppendAt
import Derived.Test.YtniojllnooblcaaGreatDoorM4
set_option linter.all false
set_option linter.unusedVariables false
set_option linter.unusedSimpArgs false
set_option linter.unusedSectionVars false
section
namespace Go.Proofs.Ytniojllnooblcaa
open Go Lv Go.Proofs Go.RowKit Go.Shelf
attribute [local go_sem] Oper.semAt_some
abbrev bk (n:Nat):List (Fin n):=(List.finRange n).reverse
theorem bk_len (n:Nat):(bk n).length=n:=by simp [bk]
theorem bk_at {n k:Nat} (h:k<n):(bk n)[k]'(by rw [bk_len];exact h)=⟨n-1-k,by omega⟩:=by
  simp [bk,List.getElem_reverse]
theorem bk_take {n k:Nat} (h:k<n):(bk n).take k++ [⟨n-1-k,by omega⟩]=(bk n).take (k+1):=by
  rw [←bk_at h,List.take_append_getElem]
theorem bk_more {n k m:Nat} (h:m+k+1=n) (hm:m<n):(bk n).take k++ [⟨m,hm⟩]=(bk n).take (k+1):=by
  rw [←bk_take (by omega)]
  congr 3;omega
/--a write's three cells -/
abbrev wc (c:Nat→Value×Value×Value) (j:Nat):Value:=.agg #[(c j).1,(c j).2.1,(c j).2.2]
set_option maxRecDepth 100000 in
set_option maxHeartbeats 2000000 in
/--slices.Backward's closure,over a list of writes:for every body that keeps what lay below n₀ -/
theorem back_in (F : Fence) (n : Nat) (h60 : F.fn 60) (hro : F.round = none) (hn : 1 ≤ n) (l Bs n₀ b off len cap : Nat) (c : Nat → Value × Value × Value) (hreach : len ≤ 140737488351) (hb : b < n₀) (hBn : Bs < n₀) (J Jx : List (Fin len) → World → Prop)
    (hY:∀pre x W,J pre W→pre.length<len→YieldAt F (n-1) Tryz.prog l #[.int .i64 (x.1:Int),wc c x.1] W fun e W'=>
      (e=.returned (.bool true)∧J (pre++ [x]) W'∧Below n₀ W W')∨(e=.returned (.bool false)∧Jx (pre++ [x]) W'))
    (W:World) (hBs:W.cell? ⟨Bs,0,none⟩=some (.slice (some ⟨b,off,none⟩) len cap))
    (hc0:∀j,j<len→W.cell? ⟨b,off+j*3,none⟩=some (c j).1) (hc1:∀j,j<len→W.cell? ⟨b,off+j*3+1,none⟩=some (c j).2.1) (hc2:∀j,j<len→W.cell? ⟨b,off+j*3+2,none⟩=some (c j).2.2) (h0:J [] W):
    CallsIn F n Tryz.prog 60 #[.func (.yield l) #[] #[],.pointer (some ⟨Bs,0,none⟩)] W fun e W'=>(∃v,e=.returned v)∧
      ((∃ys,ys=bk len∧J ys W')∨(∃pre,pre<+:bk len∧Jx pre W')):=by
  refine callsIn_of_wp Tryz.func60 rfl h60 ?_ hro
  simp only [Tryz.ntmps60,List.size_toArray,List.length_cons,List.length_nil,Nat.reduceAdd,Nat.reduceSub,Array.replicate_succ,Array.replicate_zero,List.push_toArray,List.append_toArray,List.nil_append,List.cons_append]
  gi_wp2
  gi_loopw [3] (fun i wr=>∃k:Nat,k≤len∧i=.int .i64 ((len:Int)-1-k)∧J ((bk len).take k) wr∧Below n₀ W wr)
    (fun i _=>(intOf i+1).toNat)
  case atStart=>exact ⟨0,Nat.zero_le _,by simp,h0,Below.refl _ _⟩
  case round=>
    obtain ⟨k,hk,rfl,hJs,hnx⟩:=hrel
    by_cases hlt:k<len
    · obtain ⟨m,hm⟩:∃m,m+k+1=len:=⟨len-1-k,by omega⟩
      have hml:m<len:=by omega
      have hcx0:wr.cell? ⟨b,off+m*3,none⟩=some (c m).1:=(hnx.cell (p:=⟨b,off+m*3,none⟩) hb).trans (hc0 _ hml)
      have hcx1:wr.cell? ⟨b,off+m*3+1,none⟩=some (c m).2.1:=(hnx.cell (p:=⟨b,off+m*3+1,none⟩) hb).trans (hc1 _ hml)
      have hcx2:wr.cell? ⟨b,off+m*3+2,none⟩=some (c m).2.2:=(hnx.cell (p:=⟨b,off+m*3+2,none⟩) hb).trans (hc2 _ hml)
      have hbs:wr.cell? ⟨Bs,0,none⟩=some (.slice (some ⟨b,off,none⟩) len cap):=(hnx.cell (p:=⟨Bs,0,none⟩) hBn).trans hBs
      obtain ⟨fn,tmps,assign,body,hy,hR⟩:=hY _ ⟨m,hml⟩ wr hJs (by rw [List.length_take,bk_len];omega)
      dsimp only at hy
      rw [show (len:Int)-1-k=(m:Int) by omega]
      gi_wp2
      refine hR.mono ?_
      rintro e W3 (⟨rfl,hJ3,hk3⟩|⟨rfl,hJx3⟩)
      · gi_wp2
        go_roundw
        case rel=>exact ⟨k+1,by omega,by congr 1<;>omega,by rw [←bk_more hm hml];exact hJ3,hnx.trans hk3⟩
        case measure=>simp [intOf]<;>omega
      · gi_wp2
        refine bodyPost_ret (results_none rfl _ _ _) rfl ?_
        exact ⟨⟨_,rfl⟩,.inr ⟨_,by rw [bk_more hm hml];exact List.take_prefix _ _,hJx3⟩⟩
    · obtain rfl:k=len:=by omega
      rw [show (k:Int)-1-k=-1 by omega]
      gi_wp2
      go_end0
      exact ⟨⟨_,rfl⟩,.inl ⟨_,rfl,by rw [List.take_of_length_le (by rw [bk_len];omega)] at hJs;exact hJs⟩⟩
set_option maxRecDepth 100000 in
set_option maxHeartbeats 1000000 in
/--of no writes:no round -/
theorem back0_in (F:Fence) (n:Nat) (h60:F.fn 60) (hro:F.round=none) (l Bs cap:Nat) (A:Option Addr) (J:List (Fin 0)→World→Prop) (W:World) (hBs:W.cell? ⟨Bs,0,none⟩=some (.slice A 0 cap)) (h0:J [] W):
    CallsIn F n Tryz.prog 60 #[.func (.yield l) #[] #[],.pointer (some ⟨Bs,0,none⟩)] W fun e W'=>(∃v,e=.returned v)∧J [] W':=by
  refine callsIn_of_wp Tryz.func60 rfl h60 ?_ hro
  simp only [Tryz.ntmps60,List.size_toArray,List.length_cons,List.length_nil,Nat.reduceAdd,Nat.reduceSub,Array.replicate_succ,Array.replicate_zero,List.push_toArray,List.append_toArray,List.nil_append,List.cons_append]
  gi_wp2
  gi_loopw [3] (fun i wr=>i=.int .i64 (-1)∧J [] wr) (fun _ _=>0)
  case atStart=>exact ⟨rfl,h0⟩
  case round=>
    obtain ⟨rfl,hJs⟩:=hrel
    gi_wp2
    go_end0
    exact ⟨⟨_,rfl⟩,hJs⟩
set_option maxHeartbeats 1000000 in
theorem backward_in (F:Fence) (n:Nat) (h30:F.fn 30) (hro:F.round=none) (a:Option Addr) (len cap:Nat) (w:World):
    CallsIn F n Tryz.prog 30 #[.slice a len cap] w fun e w'=>e=.returned (.func (.func 60) #[] #[.pointer (some ⟨w.heap.size,0,none⟩)])∧w'=w.alloc (.cells #[.slice a len cap] 35):=by
  refine callsIn_of_wp Tryz.func30 rfl h30 ?_ hro
  simp only [Tryz.ntmps30,List.size_toArray,List.length_cons,List.length_nil,Nat.reduceAdd,Nat.reduceSub,Array.replicate_succ,Array.replicate_zero,List.push_toArray,List.append_toArray,List.nil_append,List.cons_append]
  gi_wp2
  go_ret
  exact ⟨rfl,rfl⟩
/--the writes lie in memory -/
def WsAt (n₀ : Nat) (W : World) (A : Option Addr) (len : Nat) (c : Nat → Value × Value × Value) : Prop :=
  len≤140737488351∧(len=0∨∃b off,A=some ⟨b,off,none⟩∧b<n₀∧(∀j,j<len→W.cell? ⟨b,off+j*3,none⟩=some (c j).1)∧(∀j,j<len→W.cell? ⟨b,off+j*3+1,none⟩=some (c j).2.1)∧
    (∀j,j<len→W.cell? ⟨b,off+j*3+2,none⟩=some (c j).2.2))
theorem back_stops (F:Fence) (n:Nat) (h60:F.fn 60) (hro:F.round=none) (hn:1≤n) (Bs n₀ len cap:Nat) (A:Option Addr) (c:Nat→Value×Value×Value) (w:World) (hBs:Bs<n₀) (hn₀:n₀≤w.heap.size)
    (hc:w.cell? ⟨Bs,0,none⟩=some (.slice A len cap)) (hI:WsAt n₀ w A len c):
    SeqStopsK F n Tryz.prog 60 #[.pointer (some ⟨Bs,0,none⟩)] (fun x:Fin len=>#[Value.int .i64 (x.1:Int),wc c x.1]) (Below n₀) (fun ys=>ys=bk len) (fun pre=>pre<+:bk len) len w:=fun l J Jx W hW _ _ hY h0=>by
  have hc':=(hW.cell (p:=⟨Bs,0,none⟩) (Nat.lt_of_lt_of_le hBs hn₀)).trans hc
  rcases hI.2 with rfl|⟨b,off,rfl,hb,k0,k1,k2⟩
  · exact (back0_in F n h60 hro l Bs cap A J W hc' h0).mono fun e W' ⟨he,hj⟩=>⟨he,.inl ⟨_,by rfl,hj⟩⟩
  · have hb':b<w.heap.size:=Nat.lt_of_lt_of_le hb hn₀
    exact back_in F n h60 hro hn l Bs n₀ b off len cap c hI.1 hb hBs J Jx hY W hc' (fun j hj=>(hW.cell (p:=⟨b,off+j*3,none⟩) hb').trans (k0 j hj)) (fun j hj=>(hW.cell (p:=⟨b,off+j*3+1,none⟩) hb').trans (k1 j hj)) (fun j hj=>(hW.cell (p:=⟨b,off+j*3+2,none⟩) hb').trans (k2 j hj)) h0
end Go.Proofs.Ytniojllnooblcaa
end
section
namespace Go.Proofs.Ytniojllnooblcaa
open Go Lv Go.Proofs Go.RowKit Go.Shelf
theorem of_t (w:tWriteT) (tb:ByteArray) (k:tValueT):txn_of.F (w.1,w.2.1,w.2.2,tb,k.1,k.2.1,k.2.2,())=some (ofP w tb k,()):=by
  rw [txn_of.eq];unfold txn_of.B ofP
  simp only []
  cases (w.1.toList==tb.toList) with
  |false=>rfl
  |true=>
    obtain ⟨a,b,r⟩:=w
    cases r with
    |nil=>rfl
    |cons x r=>
      have d1:decide ((((x::r:List tValueT).length:Nat):Int)>0)=true:=by simp
      have d2:(decide (0≤(0:Int))&&decide ((0:Int)<(((x::r:List tValueT).length:Nat):Int)))=true:=by simp
      simp only [cond_true,d1,d2,Bool.true_and]
      rfl
theorem repH0 {ok:Nat→Prop} {w:World} (hk:∀b,ok b→b<w.heap.size) (hg:Glb ok w) (hp:Heap) (h:∀l o,hp l=some o→False) (ρ:Nat→Value) (nx:Nat):RepH ρ ok w hp nx:=
  ⟨fun l o ho=>(h l o ho).elim,hk,fun l o b ho=>(h l o ho).elim,fun l m o p b ho=>(h l o ho).elim,hg⟩
theorem below_of {hin:Heap} {ρ ρ':Nat→Value} {ok ok':Nat→Prop} {w w':World} {hout:Heap} (h:Exits hin ρ ok w hout ρ' ok' w') (hn:∀l o,hin l=some o→False):Below w.heap.size w w':=
  ⟨h.os,h.tape,h.output.1,h.size,fun b hb=>h.same b hb fun l o ho=>(hn l o ho).elim⟩
/--what holds of the data that lies about -/
structure At (ok:Nat→Prop) (w:World):Prop where
  lt:∀b,ok b→b<w.heap.size
  gl:Glb ok w
theorem At.go {ok:Nat→Prop} {w w':World} {n:Nat} (h:At ok w) (hn:w.heap.size≤n) (hb:Below n w w'):At ok w':=
  ⟨fun b k=>Nat.lt_of_lt_of_le (h.lt b k) hb.size,h.gl.move fun b k=>⟨k,hb.block b (Nat.lt_of_lt_of_le (h.lt b k) hn)⟩⟩
theorem repE_nil {ρ ok w nx tmps}:RepE ρ ok w nx (fun _=>none) tmps:=fun t s h=>by cases h
theorem repE_put {ρ ok w nx env tmps} {i:Nat} {v:Value} {s:Slot} (h:RepE ρ ok w nx env tmps) (hv:tmps[i]?=some v) (hs:SlotR ρ ok w nx s v):RepE ρ ok w nx (Lv.put env i (some s)) tmps:=by
  intro t u hu
  simp only [Lv.put] at hu
  split at hu
  · rename_i ht
    cases hu
    rw [Nat.eq_of_beq_eq_true ht]
    exact ⟨v,hv,hs⟩
  · exact h t u hu
theorem of_calls {ok:Nat→Prop} {w:World} (h:At ok w) (x:tWriteT) (a b c:Value) (hx:K ok w tWrite x [a,b,c]) (tb:ByteArray) (k:tValueT):
    Calls Tryz.prog 31 #[.agg #[a,b,c],.string tb,.agg #[.int .i64 k.1,.int .i64 k.2.1,.string k.2.2]] w fun e w'=>e=.returned (.bool (ofP x tb k))∧Below w.heap.size w w':=by
  obtain ⟨_,_,e1,h1,_,_,e2,h2,h3⟩:=hx
  cases h1;cases h2
  obtain ⟨x0,x1,x2⟩:=x
  simp at e1
  subst e2
  obtain ⟨rfl,rfl,rfl⟩:a=.string x0∧b=.bool x1∧_:=by simpa using e1
  refine (txn_of.ok (x0,x1,x2,tb,k.1,k.2.1,k.2.2,()) (ofP (x0,x1,x2) tb k,()) (of_t (x0,x1,x2) tb k) (fun _=> .nilIface) ok w _ rfl (repH0 h.lt h.gl _ (fun l o h=>by cases h) _ _) ?_).mono ?_
  · show RepE _ _ _ _ (Lv.put (Lv.put (Lv.put (fun _=>none) 2 (some (.v true [.int .i64 k.1,.int .i64 k.2.1,.str k.2.2]))) 1 (some (.v false [.str tb]))) 0 (some (.v true [.str x0,.bool x1,.sl 27 tValue x2]))) _
    refine repE_put (repE_put (repE_put repE_nil rfl ?_) rfl ?_) rfl ?_
    · exact ⟨[.int .i64 k.1,.int .i64 k.2.1,.string k.2.2],rfl,.cons rfl (.cons rfl (.cons rfl .nil))⟩
    · exact ⟨_,rfl,rfl⟩
    · exact ⟨[_,_,_],rfl,.cons rfl (.cons rfl (.cons h3 .nil))⟩
  · rintro e w' ⟨v,ρ',ok',rfl,_,hE,hX⟩
    obtain ⟨u,e1,d,e2,h2⟩:=hE 0 (.v false [.bool (ofP (x0,x1,x2) tb k)]) rfl
    cases e1;cases e2
    have h2:v=.bool (ofP (x0,x1,x2) tb k):=h2
    exact ⟨by rw [h2],below_of hX fun l o h=>by cases h⟩
abbrev flat (xs:List tValueT):List Value:=xs.flatMap fun x=> [.int .i64 x.1,.int .i64 x.2.1,.string x.2.2]
theorem rows_flat {ok:Nat→Prop} {w:World} {xs:List tValueT} {vs:List Value} (h:Lv.Rows ok w tValue xs vs):vs=flat xs:=by
  obtain ⟨css,rfl,h⟩:=h
  induction h with
  |nil=>rfl
  |cons h _ ih=>
    rw [List.flatten_cons,ih]
    obtain ⟨_,_,rfl,rfl,_,_,rfl,rfl,rfl⟩:=h
    rfl
theorem flat_rows (ok:Nat→Prop) (w:World) (xs:List tValueT):Lv.Rows ok w tValue xs (flat xs):=by
  refine ⟨xs.map fun x=> [.int .i64 x.1,.int .i64 x.2.1,.string x.2.2],by rw [flat,List.flatMap_def],?_⟩
  induction xs with
  |nil=>exact .nil
  |cons x r ih=>exact .cons ⟨[.int .i64 x.1],[.int .i64 x.2.1,.string x.2.2],rfl,rfl,[.int .i64 x.2.1],[.string x.2.2],rfl,rfl,rfl⟩ ih
/--a list of values that is ours:laid from B on -/
def Ours (B:Nat) (W:World) (v:Value) (xs:List tValueT):Prop:=W.ownsRow B 27 3 v xs.length (flat xs)
theorem ours_of {ρ:Nat→Value} {ok:Nat→Prop} {w:World} {nx l:Nat} {xs:List tValueT} (h:ObR ρ ok w nx l (.arr 27 tValue xs)) {B:Nat} (hb:∀b,blk (ρ l)=some b→B≤b):Ours B w (ρ l) xs:=by
  obtain ⟨inner,h1,h2⟩:=h
  have h2:=rows_flat h2
  subst h2
  refine ⟨h1.1,?_⟩
  rcases h1.2 with hn|⟨g,cap,cur,e,h0,rest⟩
  · exact .inl hn
  · exact .inr ⟨g,cap,cur,e,hb g (by rw [e];rfl),rest⟩
theorem clone_calls {ok:Nat→Prop} {w:World} (h:At ok w) (xs ys:List tValueT) (v:Value) (hx:K ok w (.sl 27 tValue) xs [v]) (hF:slices_Clone_api_Row_api_Value.F (xs,())=some (ys,())):
    Calls Tryz.prog 32 #[v] w fun e w'=>∃u,e=.returned u∧Ours w.heap.size w' u ys∧Below w.heap.size w w':=by
  refine (slices_Clone_api_Row_api_Value.ok (xs,()) (ys,()) hF (fun _=> .nilIface) ok w _ rfl (repH0 h.lt h.gl _ (fun l o h=>by cases h) _ _) ?_).mono ?_
  · show RepE _ _ _ _ (Lv.put (fun _=>none) 0 (some (.v false [.sl 27 tValue xs]))) _
    exact repE_put repE_nil rfl ⟨_,rfl,hx⟩
  · rintro e w' ⟨v,ρ',ok',rfl,hH,hE,hX⟩
    obtain ⟨u,e1,d,e2,h2⟩:=hE 0 (.v false [.ref 1000]) rfl
    cases e1;cases e2
    have h2:v=ρ' 1000:=h2.2.1
    subst h2
    refine ⟨_,rfl,ours_of (hH.ob 1000 _ rfl).2 fun b hb=>?_,below_of hX fun l o h=>by cases h⟩
    rcases hX.new 1000 (.arr 27 tValue ys) b rfl (Nat.le_refl _) rfl hb with h|⟨m,p,h,_⟩
    · exact h
    · cases h
end Go.Proofs.Ytniojllnooblcaa
end
section
set_option maxRecDepth 100000
namespace Go.Proofs.Ytniojllnooblcaa
open Go Lv Go.Proofs Go.RowKit Go.Shelf
def snd9:Code→Code
  | .seq _ y=>y
  |_=> .skip
/--txn.Row behind its loop -/
noncomputable def rest9:Code:=snd9 (snd9 (Tryz.f9.body.getD .skip))
noncomputable def st9 (l:List tRelT) (tb:ByteArray) (k:tValueT):St:=
  ⟨fun t=>if t=0 then some (.v false [.sl 74 tRel l]) else if t=6 then some (.v false [.ptr 1000 0]) else if t=7 then some (.v false [.ptr 1001 0]) else if t=8 then some (.v false [.ptr 1002 0]) else if t=9 then some (.v false [.ptr 1003 0]) else none,
   fun l=>if l=1000 then some (.box 9 [.str tb]) else if l=1001 then some (.box 27 [.int .i64 k.1,.int .i64 k.2.1,.str k.2.2]) else if l=1002 then some (.box 46 [.val (.slice none 0 0)]) else if l=1003 then some (.box 4 [.bool false]) else none,1004,[]⟩
def rowOf:Ob→Option (List tValueT)
  | .arr e (.pair (.int .i64) (.pair (.int .i64) .str)) xs=>if Nat.beq e 27=true then some xs else none
  |_=>none
def pick9 : Out → Option (Bool × List tValueT)
  | .ret st=>match st.hp 1002,st.hp 1003 with
    |some (.box e [.ref l]),some (.box f [.bool b])=>if (Nat.beq e 46&&Nat.beq f 4)=true then (st.hp l).bind fun o=>(rowOf o).map fun xs=>(b,xs) else none
    |_,_=>none
  |_=>none
theorem rest_ev (l:List tRelT) (tb:ByteArray) (k:tValueT):evC crel_Get inl0 (Bool×List tValueT) rest9 .n (st9 l tb k) pick9=
    (reads_Look.F (l,tb,())).bind fun y=>(rel_Get.F (y.1,y.2.1,k.1,k.2.1,k.2.2,())).bind fun z=>some (z.2.1,z.2.2.1):=by kernel_rfl
theorem rest_writes:allBlt 38 (writes rest9)=true:=by kernel_rfl
theorem hp9 (l:List tRelT) (tb:ByteArray) (k:tValueT) (n:Nat) (o:Ob) (h:(st9 l tb k).hp n=some o):
    (n=1000∧o=.box 9 [.str tb])∨(n=1001∧o=.box 27 [.int .i64 k.1,.int .i64 k.2.1,.str k.2.2])∨(n=1002∧o=.box 46 [.val (.slice none 0 0)])∨(n=1003∧o=.box 4 [.bool false]):=by
  simp only [st9] at h
  split at h
  · cases h;exact .inl ⟨by assumption,rfl⟩
  split at h
  · cases h;exact .inr (.inl ⟨by assumption,rfl⟩)
  split at h
  · cases h;exact .inr (.inr (.inl ⟨by assumption,rfl⟩))
  split at h
  · cases h;exact .inr (.inr (.inr ⟨by assumption,rfl⟩))
  cases h
theorem notin_of {t:Nat} {l:List Nat} (h:(l.all fun u=> !Nat.beq u t)=true):t∉l:=fun hm=>by
  have:=List.all_eq_true.1 h t hm
  rw [Nat.beq_refl] at this;cases this
def rho9 (n0:Nat):Nat→Value:=fun l=> .pointer (some ⟨n0+(l-1000),0,none⟩)
theorem pick_some {o:Out} {y:Bool×List tValueT} (h:pick9 o=some y):∃st l,o=.ret st∧st.hp 1002=some (.box 46 [.ref l])∧st.hp 1003=some (.box 4 [.bool y.1])∧st.hp l=some (.arr 27 tValue y.2):=by
  unfold pick9 at h
  split at h<;>try (cases h;done)
  rename_i st
  split at h<;>try (cases h;done)
  rename_i e l f b h1 h2
  split at h<;>try (cases h;done)
  rename_i hh
  simp only [Bool.and_eq_true] at hh
  obtain ⟨o,ho,hy⟩:=Option.bind_eq_some_iff.1 h
  obtain ⟨xs,hx,rfl⟩:=Option.map_eq_some_iff.1 hy
  have e1:=Nat.eq_of_beq_eq_true hh.1
  have e2:=Nat.eq_of_beq_eq_true hh.2
  subst e1 e2
  unfold rowOf at hx
  split at hx<;>try (cases hx;done)
  split at hx<;>try (cases hx;done)
  rename_i e3
  cases hx
  have e3:=Nat.eq_of_beq_eq_true e3
  subst e3
  exact ⟨st,l,rfl,h1,h2,ho⟩
theorem rest_wp {ok : Nat → Prop} {w W : World} (h : At ok w) (hB : Below w.heap.size w W) (l : List tRelT) (tb : ByteArray) (k : tValueT) (y : Bool × List tValueT) (rv : Value) (hl : K ok w (.sl 74 tRel) l [rv])
    (hF:((reads_Look.F (l,tb,())).bind fun y=>(rel_Get.F (y.1,y.2.1,k.1,k.2.1,k.2.2,())).bind fun z=>some (z.2.1,z.2.2.1))=some y)
    (h6:W.heap[w.heap.size]?=some (.cells #[.string tb] 9 (0,0))) (h7:W.heap[w.heap.size+1]?=some (.cells #[.int .i64 k.1,.int .i64 k.2.1,.string k.2.2] 27 (0,0)))
    (h8:W.heap[w.heap.size+2]?=some (.cells #[.slice none 0 0] 46 (0,0))) (h9:W.heap[w.heap.size+3]?=some (.cells #[.bool false] 4 (0,0))) (a:Act) (hs:a.tmps.size=38)
    (a0:a.tmps[0]?=some rv) (a6:a.tmps[6]?=some (.pointer (some ⟨w.heap.size,0,none⟩))) (a7:a.tmps[7]?=some (.pointer (some ⟨w.heap.size+1,0,none⟩))) (a8:a.tmps[8]?=some (.pointer (some ⟨w.heap.size+2,0,none⟩))) (a9:a.tmps[9]?=some (.pointer (some ⟨w.heap.size+3,0,none⟩)))
    {D:Nat} (hD:w.heap.size+4≤D) {d:Obj} (hK:W.heap[D]?=some d)
    (Q:Exit→Act→World→Prop) (hQ:∀a' W' v,a'.defers=a.defers→a'.tmps[8]?=a.tmps[8]?→a'.tmps[9]?=a.tmps[9]?→W'.heap[w.heap.size+2]?=some (.cells #[v] 46 (0,0))→W'.heap[w.heap.size+3]?=some (.cells #[.bool y.1] 4 (0,0))→
      Ours w.heap.size W' v y.2→Below w.heap.size w W'→W'.heap[D]?=some d→Q .ret a' W'):rest9.wp Tryz.prog Q a W:=by
  have hS:Same ok ok w W:=fun b hb=>⟨hb,hB.block b (h.lt b hb)⟩
  have hH:RepH (rho9 w.heap.size) ok W (st9 l tb k).hp (st9 l tb k).nx:=by
    refine ⟨fun n o ho=>?_,fun b hb=>Nat.lt_of_lt_of_le (h.lt b hb) hB.size,fun n o b ho _ hb hok=>?_,fun n m o p b ho hp _ _ h1 h2=>?_,h.gl.move hS⟩
    · rcases hp9 l tb k n o ho with ⟨rfl,rfl⟩|⟨rfl,rfl⟩|⟨rfl,rfl⟩|⟨rfl,rfl⟩
      · exact ⟨by show 1000<1004;decide,_,_,rfl,h6,.cons rfl .nil⟩
      · exact ⟨by show 1001<1004;decide,_,_,rfl,h7,.cons rfl (.cons rfl (.cons rfl .nil))⟩
      · exact ⟨by show 1002<1004;decide,_,_,rfl,h8,.cons ⟨rfl,rfl⟩ .nil⟩
      · exact ⟨by show 1003<1004;decide,_,_,rfl,h9,.cons rfl .nil⟩
    · have:b=w.heap.size+(n-1000):=by cases hb;rfl
      have:=h.lt b hok
      omega
    · have e1:b=w.heap.size+(n-1000):=by cases h1;rfl
      have e2:b=w.heap.size+(m-1000):=by cases h2;rfl
      have g1:1000≤n:=by rcases hp9 l tb k n o ho with ⟨rfl,_⟩|⟨rfl,_⟩|⟨rfl,_⟩|⟨rfl,_⟩<;>omega
      have g2:1000≤m:=by rcases hp9 l tb k m p hp with ⟨rfl,_⟩|⟨rfl,_⟩|⟨rfl,_⟩|⟨rfl,_⟩<;>omega
      omega
  have hE:RepE (rho9 w.heap.size) ok W (st9 l tb k).nx (st9 l tb k).env a.tmps:=by
    intro t s hs'
    simp only [st9] at hs'
    split at hs'
    · rename_i ht;subst ht;cases hs';exact ⟨_,a0,_,rfl,K_move hS hl⟩
    split at hs'
    · rename_i ht;subst ht;cases hs';exact ⟨_,a6,_,rfl,by show 1000<1004;decide,_,rfl,rfl⟩
    split at hs'
    · rename_i ht;subst ht;cases hs';exact ⟨_,a7,_,rfl,by show 1001<1004;decide,_,rfl,rfl⟩
    split at hs'
    · rename_i ht;subst ht;cases hs';exact ⟨_,a8,_,rfl,by show 1002<1004;decide,_,rfl,rfl⟩
    split at hs'
    · rename_i ht;subst ht;cases hs';exact ⟨_,a9,_,rfl,by show 1003<1004;decide,_,rfl,rfl⟩
    cases hs'
  refine evC_ok cxrel_Get (inl0_ok _ _) (drawnOk cxrel_Get mixed) rest9 (Bool×List tValueT) .n (st9 l tb k) pick9 y ((rest_ev l tb k).trans hF) (rho9 w.heap.size) ok W a hH hE (fun t ht=>by rw [hs];exact allBlt_iff.1 rest_writes t ht) Q ?_ ?_
  · rintro o e a' W' k1 k2 ⟨ρ',ok',Dn,g1,g2,g3,g4,g5⟩
    obtain ⟨st',l',rfl,p2,p3,pl⟩:=pick_some k1
    cases k2
    obtain ⟨_,b8,vs8,r8,m8,c8⟩:=g2.ob 1002 _ p2
    obtain ⟨_,b9,vs9,r9,m9,c9⟩:=g2.ob 1003 _ p3
    rw [g4.rho 1002 (by show 1002<1004;decide)] at r8
    rw [g4.rho 1003 (by show 1003<1004;decide)] at r9
    obtain rfl:b8=w.heap.size+2:=by cases r8;rfl
    obtain rfl:b9=w.heap.size+3:=by cases r9;rfl
    obtain ⟨v8,rfl,q8⟩:=c8.one
    obtain ⟨v9,rfl,q9⟩:=c9.one
    have q9:v9=.bool y.1:=q9
    subst q9
    have q8:v8=ρ' l':=q8.2.1
    subst q8
    have own:∀n o,(st9 l tb k).hp n=some o→∃b,rho9 w.heap.size n=.pointer (some ⟨b,0,none⟩)∧w.heap.size≤b∧b<w.heap.size+4:=fun n o ho=>by
      rcases hp9 l tb k n o ho with ⟨rfl,_⟩|⟨rfl,_⟩|⟨rfl,_⟩|⟨rfl,_⟩<;>exact ⟨_,rfl,by omega,by omega⟩
    have hb:Below w.heap.size W W':=⟨g4.os,g4.tape,g4.output.1,g4.size,fun b hb=>g4.same b (Nat.lt_of_lt_of_le hb hB.size) fun n _ _ o ho _ hbl=>by
      obtain ⟨b',e1,e2,_⟩:=own n o ho
      rw [e1] at hbl;have hbl:some b'=some b:=hbl;cases hbl;omega⟩
    refine hQ a' W' _ g5.defers (g5.same 8 ?_) (g5.same 9 ?_) m8 m9 (ours_of (g2.ob l' _ pl).2 fun b hbl=>?_) (hB.trans hb) ((g4.same D (Array.getElem?_eq_some_iff.1 hK).1 fun n _ _ o ho _ hbl=>?_).trans hK)
    · exact notin_of (by kernel_rfl)
    · exact notin_of (by kernel_rfl)
    · by_cases hlt:l'<1004
      · obtain ⟨p,e1,_⟩:=g4.stay l' hlt _ pl
        obtain ⟨b',e2,e3,_⟩:=own l' p e1
        rw [g4.rho l' hlt,e2] at hbl
        cases hbl;exact e3
      · rcases g4.nb l' _ b (by show 1004≤l';omega) pl rfl hbl with h'|⟨m,_,_,p,e1,_,e2⟩
        · exact Nat.le_trans hB.size h'
        · obtain ⟨b',e3,e4,_⟩:=own m p e1
          rw [e3] at e2;cases e2;exact e4
    · obtain ⟨b',e1,_,e2⟩:=own n o ho
      rw [e1] at hbl;have hbl:some b'=some D:=hbl;cases hbl;omega
  · intro n st' a' w' k1 _
    cases k1
end Go.Proofs.Ytniojllnooblcaa
end
section
namespace Go.Proofs.Ytniojllnooblcaa
open Go Lv Go.Proofs Go.RowKit Go.Shelf
attribute [local go_sem] Oper.semAt_some
theorem hit_clone (xs:List tValueT) (h:xs.length≤4398046511104):slices_Clone_api_Row_api_Value.F (xs,())=some (xs,()):=by
  rw [slices_Clone_api_Row_api_Value.eq];unfold slices_Clone_api_Row_api_Value.B
  have hb:Nat.ble (([]:List tValueT).length+xs.length) 4398046511104=true:=Nat.ble_eq_true_of_le (by simp;omega)
  simp only [hb]
  cases xs with
  |nil=>unfold both;simp
  |cons a r=>rfl
theorem Ours.shape {B:Nat} {W:World} {v:Value} {xs:List tValueT} (h:Ours B W v xs):∃A n c,v=.slice A n c:=by
  rcases h.2 with ⟨e,_⟩|⟨g,cap,cur,e,_⟩<;>exact ⟨_,_,_,e⟩
theorem Ours.low {B B':Nat} {W:World} {v:Value} {xs:List tValueT} (h:Ours B W v xs) (hb:B'≤B):Ours B' W v xs:=by
  refine ⟨h.1,?_⟩
  rcases h.2 with hn|⟨g,cap,cur,e,h0,rest⟩
  · exact .inl hn
  · exact .inr ⟨g,cap,cur,e,Nat.le_trans hb h0,rest⟩
theorem Ours.set {B:Nat} {W:World} {v:Value} {xs:List tValueT} (h:Ours B W v xs) {b:Nat} (hb:b<B) (u:Value):Ours B (W.setCell ⟨b,0,none⟩ u) v xs:=by
  refine ⟨h.1,?_⟩
  rcases h.2 with hn|⟨g,cap,cur,e,h0,hc,rest⟩
  · exact .inl hn
  · exact .inr ⟨g,cap,cur,e,h0,((grownBy_setCell' W b u).block g (Array.getElem?_eq_some_iff.1 hc).1 fun e'=>by cases e';omega).trans hc,rest⟩
theorem keeps_below {B:Nat} {W W':World} (h:Below W.heap.size W W'):KeepsFrom B W W':=⟨h.size,fun i o _ hi _=>(h.block i (Array.getElem?_eq_some_iff.1 hi).1).trans hi⟩
theorem Ours.go {B:Nat} {W W':World} {row:Option Nat} {v:Value} {xs:List tValueT} (h:Ours B W v xs) (hg:W.grownBy W' row) (hr:∀r,row=some r→∃o:Obj,W.heap[r]?=some o∧o.isCells=false):Ours B W' v xs:=by
  refine ⟨h.1,?_⟩
  rcases h.2 with hn|⟨g,cap,cur,e,h0,hc,rest⟩
  · exact .inl hn
  · refine .inr ⟨g,cap,cur,e,h0,(hg.block g (Array.getElem?_eq_some_iff.1 hc).1 fun e'=>?_).trans hc,rest⟩
    obtain ⟨o,ho,hn⟩:=hr g e'.symm
    rw [hc] at ho;cases ho;cases hn
theorem boxed_go {W W':World} {row:Option Nat} {B:Nat} {t:TypeId} {v:Value} (h:Boxed W B t v) (hg:W.grownBy W' row) (hr:∀r,row=some r→∃o:Obj,W.heap[r]?=some o∧o.isCells=false):Boxed W' B t v:=
  h.kept hg fun e'=>by
    obtain ⟨o,ho,hn⟩:=hr B e'.symm
    rw [show W.heap[B]?=_ from h] at ho;cases ho;cases hn
theorem hit1 {x:tWriteT} (h:x.2.1=true):hitP x=(false,[]):=by rw [hitP,if_pos h]
theorem hit0 {x:tWriteT} (h:x.2.1=false):hitP x=(true,x.2.2):=by rw [hitP,if_neg (by rw [h];simp)]
theorem rev_map (ws:List tWriteT):ws.reverse=(bk ws.length).map fun j=>ws[j]:=by
  rw [bk,List.map_reverse,show (List.finRange ws.length).map (fun j=>ws[j])=ws from ?_]
  apply List.ext_getElem
  · simp
  · intro i h1 h2
    simp
theorem last_at {ws:List tWriteT} {tb:ByteArray} {k:tValueT} {pre:List (Fin ws.length)} {j:Fin ws.length} (h:pre++ [j]<+:bk ws.length) (h1:∀i∈pre,ofP ws[i] tb k=false) (h2:ofP ws[j] tb k=true):lastW ws tb k=some ws[j]:=by
  obtain ⟨t,ht⟩:=h
  unfold lastW
  rw [rev_map,←ht,List.find?_map,List.find?_append,List.find?_append]
  have:List.find? ((fun w=>ofP w tb k)∘fun j=>ws[j]) pre=none:=by
    rw [List.find?_eq_none]
    intro i hi
    simp only [Function.comp,h1 i hi]
    simp
  rw [this,List.find?_cons_of_pos (by simp only [Function.comp,h2])]
  rfl
theorem last_no {ws:List tWriteT} {tb:ByteArray} {k:tValueT} (h:∀i∈bk ws.length,ofP ws[i] tb k=false):lastW ws tb k=none:=by
  unfold lastW
  rw [rev_map,List.find?_map]
  have:List.find? ((fun w=>ofP w tb k)∘fun j=>ws[j]) (bk ws.length)=none:=by
    rw [List.find?_eq_none]
    intro i hi
    simp only [Function.comp,h i hi]
    simp
  rw [this];rfl
/--how the loop is left:the last write of the key decided -/
def LeftBy (n0:Nat) (w:World) (ws:List tWriteT) (tb:ByteArray) (k:tValueT) (c:Code) (pre:List (Fin ws.length)) (W:World):Prop:=
  (c=.ret∧(∃pre' j,pre=pre'++ [j]∧(∀i∈pre',ofP ws[i] tb k=false)∧ofP ws[j] tb k=true∧(∃v,Boxed W (n0+1+1) 46 v∧Boxed W (n0+1+1+1) 4 (.bool (hitP ws[j]).1)∧Ours n0 W v (hitP ws[j]).2)))∧Below n0 w W
theorem left_own {B n0:Nat} {w:World} {ws:List tWriteT} {tb:ByteArray} {k:tValueT} (hn:n0≤w.heap.size) (hB:n0≤B) (c:Code):OwnFrom B (LeftBy n0 w ws tb k c):=by
  refine OwnFrom.and ?_ (ownFrom_below hn hB)
  rintro pre W W' row ⟨hc,pre',j,e,h1,h2,v,b1,b2,b3⟩ hg hr
  exact ⟨hc,pre',j,e,h1,h2,v,boxed_go b1 hg fun r e=>(hr r e).2,boxed_go b2 hg fun r e=>(hr r e).2,b3.go hg fun r e=>(hr r e).2⟩
theorem results9 (tmps:Array Value) (W:World) (b8 b9:Nat) (v:Value) (x:Bool) (h8:tmps[8]?=some (.pointer (some ⟨b8,0,none⟩))) (h9:tmps[9]?=some (.pointer (some ⟨b9,0,none⟩))) (k8:Boxed W b8 46 v) (k9:Boxed W b9 4 (.bool x)):
    (results Tryz.f9 tmps).run Tryz.prog W=.ok (.tuple #[v,.bool x]) W:=by
  have hr:Tryz.f9.results=#[.cell 8 46,.cell 9 4]:=by kernel_rfl
  unfold results
  rw [hr,Array.mapM_eq_mapM_toList]
  have d8:tmps.getD 8 undef=.pointer (some ⟨b8,0,none⟩):=by rw [Array.getD_eq_getD_getElem?,h8];rfl
  have d9:tmps.getD 9 undef=.pointer (some ⟨b9,0,none⟩):=by rw [Array.getD_eq_getD_getElem?,h9];rfl
  have l8:=run_loadV (P:=Tryz.prog) (w:=W) (t:=46) (i:=⟨.sl 27,1,24,5864062014805,[.slice none 0 0],some (.sl 27 tValue)⟩) (tab_ok 46 _ (by kernel_rfl)) (b:=b8) (off:=0) (cs:=[v]) (by kernel_rfl) (fun j u hj=>by
    match j,hj with
    |0,hj=>simp at hj;subst hj;exact k8.cell)
  have l9:=run_loadV (P:=Tryz.prog) (w:=W) (t:=4) (i:=⟨.bool,1,1,140737488355328,[.bool false],some .bool⟩) (tab_ok 4 _ (by kernel_rfl)) (b:=b9) (off:=0) (cs:=[.bool x]) (by kernel_rfl) (fun j u hj=>by
    match j,hj with
    |0,hj=>simp at hj;subst hj;exact k9.cell)
  have g8:(if (⟨.sl 27,1,24,5864062014805,[.slice none 0 0],some (.sl 27 tValue)⟩:TI).agg=true then Value.agg [v].toArray else [v].getD 0 undef)=v:=if_neg (by decide)
  have g9:(if (⟨.bool,1,1,140737488355328,[.bool false],some .bool⟩:TI).agg=true then Value.agg [.bool x].toArray else [Value.bool x].getD 0 undef)=.bool x:=if_neg (by decide)
  rw [g8] at l8
  rw [g9] at l9
  simp only [Sem.run_bind,Sem.run_map,map_eq_pure_bind,List.mapM_cons,List.mapM_nil,d8,d9,asAddr,Sem.run_pure,Result.andThen_ok,l8,l9]
  rfl
theorem row_end {w W:World} {D:Nat} {tmps:Array Value} {v:Value} {y:Bool×List tValueT} {b8 b9:Nat} (h8:tmps[8]?=some (.pointer (some ⟨b8,0,none⟩))) (h9:tmps[9]?=some (.pointer (some ⟨b9,0,none⟩)))
    (k8:Boxed W b8 46 v) (k9:Boxed W b9 4 (.bool y.1)) (ho:Ours w.heap.size W v y.2) (hb:Below w.heap.size w W) (hD:w.heap.size≤D) (hK:W.heap[D]?=some (.deferred (some []))):
    bodyPostM Fence.wide 3 Tryz.prog Tryz.f9 (fun e w'=>∃v,e=.returned (.tuple #[v,.bool y.1])∧Ours w.heap.size w' v y.2∧Below w.heap.size w w') .ret ⟨tmps,[{target:=.collected D,args:=#[]}]⟩ W:=by
  have hr:∀r,some D=some r→∃o:Obj,W.heap[r]?=some o∧o.isCells=false:=fun r e=>by cases e;exact ⟨_,hK,rfl⟩
  have hg:=grownBy_putObj' W D (.deferred none)
  refine ⟨by simp,.inl ⟨_,_,rfl,run_takeDeferred hK,?_⟩⟩
  exact ⟨_,results9 tmps _ b8 b9 v y.1 h8 h9 (boxed_go k8 hg hr) (boxed_go k9 hg hr),v,rfl,ho.go hg hr,hb.trans ((Below.refl _ W).grown hg hb.size fun k e=>by cases e;exact hD)⟩
theorem five_al (w:World) (o1 o2 o3 o4 o5:Obj):((((((w.alloc o1).alloc o2).alloc o3).alloc o4).alloc o5).heap[w.heap.size]?=some o1)∧((((((w.alloc o1).alloc o2).alloc o3).alloc o4).alloc o5).heap[w.heap.size+1]?=some o2)∧
    ((((((w.alloc o1).alloc o2).alloc o3).alloc o4).alloc o5).heap[w.heap.size+2]?=some o3)∧((((((w.alloc o1).alloc o2).alloc o3).alloc o4).alloc o5).heap[w.heap.size+3]?=some o4)∧((((((w.alloc o1).alloc o2).alloc o3).alloc o4).alloc o5).heap[w.heap.size+4]?=some o5):=by
  simp only [World.alloc,Array.getElem?_push,Array.size_push]
  refine ⟨?_,?_,?_,?_,?_⟩<;>simp<;>(repeat (first|rw [if_neg (by omega)]|rw [if_pos (by omega)]|rfl))
set_option maxRecDepth 100000 in
set_option maxHeartbeats 4000000 in
theorem row_calls {ok : Nat → Prop} {w : World} (h : At ok w) (rv : Value) (l : List tRelT) (hl : K ok w (.sl 74 tRel) l [rv]) (A : Option Addr) (cap : Nat) (ws : List tWriteT) (c : Nat → Value × Value × Value) (hw : WsAt w.heap.size w A ws.length c)
    (hk:∀j x,ws[j]?=some x→K ok w tWrite x [(c j).1,(c j).2.1,(c j).2.2]) (tb:ByteArray) (k:tValueT) (y:Bool×List tValueT) (hF:rowP l ws tb k=some y):
    Calls Tryz.prog 9 #[rv,.slice A ws.length cap,.string tb,.agg #[.int .i64 k.1,.int .i64 k.2.1,.string k.2.2]] w fun e w'=>∃v,e=.returned (.tuple #[v,.bool y.1])∧Ours w.heap.size w' v y.2∧Below w.heap.size w w':=by
  refine (callsIn_wide (n:=3)).1 ?_
  refine callsIn_of_wp_marks Tryz.func9 rfl trivial ?_
  simp only [Tryz.ntmps9,List.size_toArray,List.length_cons,List.length_nil,Nat.reduceAdd,Nat.reduceSub,Array.replicate_succ,Array.replicate_zero,List.push_toArray,List.append_toArray,List.nil_append,List.cons_append]
  gi_wp2_with (refine ⟨trivial,?_⟩;gi_at_call 30;refine (backward_in _ _ trivial rfl _ _ _ _).mono ?_;rintro e w' ⟨rfl,rfl⟩)
  obtain ⟨W0,hW0⟩:∃W0,(((((w.alloc (.cells #[.string tb] 9)).alloc (.cells #[.int .i64 k.1,.int .i64 k.2.1,.string k.2.2] 27)).alloc (.cells #[.slice none 0 0] 46)).alloc (.cells #[.bool false] 4)).alloc (.cells #[.slice A ws.length cap] 35))=W0:=⟨_,rfl⟩
  have hsz:W0.heap.size=w.heap.size+5:=by rw [←hW0];simp
  have hb0:Below w.heap.size w W0:=by rw [←hW0];exact (((((Below.refl _ w).alloc (Nat.le_refl _) _).alloc (by simp) _).alloc (by simp;omega) _).alloc (by simp;omega) _).alloc (by simp;omega) _
  try rw [hW0]
  obtain ⟨h6,h7,h8,h9,h10⟩:=five_al w (.cells #[.string tb] 9) (.cells #[.int .i64 k.1,.int .i64 k.2.1,.string k.2.2] 27) (.cells #[.slice none 0 0] 46) (.cells #[.bool false] 4) (.cells #[.slice A ws.length cap] 35)
  rw [hW0] at h6 h7 h8 h9 h10
  have hsm:∀x∈ws,x.2.2.length≤4398046511104:=by
    unfold rowP at hF
    cases hall:ws.all (fun w=>Nat.ble w.2.2.length 4398046511104) with
    |false=>rw [hall] at hF;cases hF
    |true=>exact fun x hx=>Nat.le_of_ble_eq_true (List.all_eq_true.1 hall x hx)
  have hc:∀x:Fin ws.length,∃A' n' p',(c x.1).1=.string ws[x].1∧(c x.1).2.1=.bool ws[x].2.1∧(c x.1).2.2=.slice A' n' p'∧K ok w (.sl 27 tValue) ws[x].2.2 [.slice A' n' p']:=fun x=>by
    obtain ⟨_,_,q1,q2,_,_,q3,q4,q5⟩:=hk x.1 ws[x] (List.getElem?_eq_getElem x.2)
    cases q2;cases q4;cases q3
    obtain ⟨A',p',q6,q7⟩:=q5
    cases q6
    simp only [List.cons_append,List.nil_append,List.cons.injEq,and_true] at q1
    exact ⟨A',_,p',q1.1,q1.2.1,q1.2.2,A',p',rfl,q7⟩
  refine wpIn_rangeFunc_ownH rfl (by decide) (gf:=60) (lb:=#[.pointer (some ⟨w.heap.size+1+1+1+1,0,none⟩)]) rfl trivial (enters_of Tryz.func60 (by kernel_rfl) rfl)
    (back_stops _ _ trivial rfl (by decide) (w.heap.size+1+1+1+1) W0.heap.size ws.length cap A c W0 (by omega) (Nat.le_refl _) ?cell ?wsat) belowK_t (belowK_b (Nat.le_refl _)) (Below.refl _ _) (fun _=>rfl)
    (fun pre W=>(∀i∈pre,ofP ws[i] tb k=false)∧Below W0.heap.size W0 W) (LeftBy w.heap.size w ws tb k) (OwnFrom.and (ownFrom_pure _ _) (ownFrom_below (Nat.le_refl _) (Nat.le_refl _))) (left_own (Nat.le_refl _) (by omega))
    ⟨fun _ h=>(by cases h),Below.refl _ _⟩
    (fun x a' W=>∃Bx,W0.heap.size≤Bx∧W.heap[Bx]?=some (.cells #[(c x.1).1,(c x.1).2.1,(c x.1).2.2] 68 (0,0))∧a'={tmps:=#[rv,.slice A ws.length cap,.string tb,.agg #[.int .i64 k.1,.int .i64 k.2.1,.string k.2.2],undef,undef,.pointer (some ⟨w.heap.size,0,none⟩),.pointer (some ⟨w.heap.size+1,0,none⟩),
      .pointer (some ⟨w.heap.size+1+1,0,none⟩),.pointer (some ⟨w.heap.size+1+1+1,0,none⟩),undef,.pointer (some ⟨Bx,0,none⟩),undef,undef,.slice A ws.length cap,.func (.func 60) #[] #[.pointer (some ⟨w.heap.size+1+1+1+1,0,none⟩)],
      .int .i64 (x.1:Int),wc c x.1,undef,undef,undef,undef,undef,undef,undef,undef,undef,undef,undef,undef,undef,undef,undef,undef,undef,undef,undef,undef],defers:=[]}) ?hAx ?assign ?body ?done ?stop
  case cell=>
    simp [World.cell?,h10]
  case wsat=>
    refine ⟨hw.1,hw.2.imp id ?_⟩
    rintro ⟨b,off,q0,q1,q2,q3,q4⟩
    exact ⟨b,off,q0,by omega,fun j hj=>(hb0.cell (p:=⟨b,off+j*3,none⟩) q1).trans (q2 j hj),fun j hj=>(hb0.cell (p:=⟨b,off+j*3+1,none⟩) q1).trans (q3 j hj),fun j hj=>(hb0.cell (p:=⟨b,off+j*3+2,none⟩) q1).trans (q4 j hj)⟩
  case hAx=>
    rintro x a' s W W' row ⟨Bx,q1,q2,q3⟩ hg hr
    refine ⟨Bx,q1,(hg.block Bx (Array.getElem?_eq_some_iff.1 q2).1 fun e'=>?_).trans q2,q3⟩
    obtain ⟨_,o,ho,hn⟩:=hr Bx e'.symm
    rw [q2] at ho;cases ho;cases hn
  case assign=>
    rintro l pre x W K ⟨hi,hB⟩ hK
    obtain ⟨A',n',p',e1,e2,e3,hkx⟩:=hc x
    simp only [e1,e2,e3,wc] at hK ⊢
    gi_wp2
    have hbw:=(Below.refl W0.heap.size W).alloc hB.size (.cells #[.string ws[x].1,.bool ws[x].2.1,.slice A' n' p'] 68)
    exact hK _ _ ((KeepsOthers.alloc _ _).from _) hbw ⟨hi,hB.trans hbw⟩ ⟨W.heap.size,hB.size,World.alloc_heap_new W _,rfl⟩
  case body=>
    rintro l pre x a' W hl' ⟨r,hr⟩ ⟨hi,hB⟩ ⟨Bx,hBx,hcx,rfl⟩ hlt
    obtain ⟨A',n',p',e1,e2,e3,hkx⟩:=hc x
    simp only [e1,e2,e3,wc] at hcx ⊢
    have x0:W.cell? ⟨Bx,0,none⟩=some (.string ws[x].1):=by simp [World.cell?,hcx]
    have x1:W.cell? ⟨Bx,1,none⟩=some (.bool ws[x].2.1):=by simp [World.cell?,hcx]
    have x2:W.cell? ⟨Bx,2,none⟩=some (.slice A' n' p'):=by simp [World.cell?,hcx]
    have hn:∀m,m<5→W.heap[w.heap.size+m]?=W0.heap[w.heap.size+m]?:=fun m hm=>hB.block _ (by omega)
    have b6:W.cell? ⟨w.heap.size,0,none⟩=some (.string tb):=by have:=hB.block w.heap.size (by omega);simp [World.cell?,this,h6]
    have b70:W.cell? ⟨w.heap.size+1,0,none⟩=some (.int .i64 k.1):=by have:=hn 1 (by omega);simp [World.cell?,this,h7]
    have b71:W.cell? ⟨w.heap.size+1,1,none⟩=some (.int .i64 k.2.1):=by have:=hn 1 (by omega);simp [World.cell?,this,h7]
    have b72:W.cell? ⟨w.heap.size+1,2,none⟩=some (.string k.2.2):=by have:=hn 1 (by omega);simp [World.cell?,this,h7]
    have b8:Boxed W (w.heap.size+1+1) 46 (.slice none 0 0):=(hn 2 (by omega)).trans h8
    have b9:Boxed W (w.heap.size+1+1+1) 4 (.bool false):=(hn 3 (by omega)).trans h9
    have b8c:=b8.cell
    have b8f:=b8.frozen
    have b9c:=b9.cell
    have b9f:=b9.frozen
    have hat:At ok W:=h.go (Nat.le_refl _) (hb0.trans (hB.mono (by omega)))
    have hof:=of_calls hat ws[x] (.string ws[x].1) (.bool ws[x].2.1) (.slice A' n' p') (by have:=hk x.1 ws[x] (List.getElem?_eq_getElem x.2);rw [e1,e2,e3] at this;exact K_move (fun b hb=>⟨hb,((hb0.trans (hB.mono (by omega))).block b (h.lt b hb))⟩) this) tb k
    cases hofp:ofP ws[x] tb k with
    |false=>
      rw [hofp] at hof
      gi_wp2_with (refine ⟨trivial,?_⟩;gi_at_call 31;refine (CallsIn.inRound l (callsIn_wide.2 hof)).mono ?_;rintro e W2 ⟨rfl,hb2⟩)
      exact ⟨keeps_below hb2,hb2.mono hB.size,fun i hi'=>by
        rcases List.mem_append.1 hi' with h|h
        · exact hi i h
        · cases List.mem_singleton.1 h;exact hofp,hB.trans (hb2.mono hB.size)⟩
    |true=>
      rw [hofp] at hof
      cases hd:ws[x].2.1 with
      |true=>
        rw [hd] at hof hcx x1
        gi_wp2_with (refine ⟨trivial,?_⟩;gi_at_call 31;refine (CallsIn.inRound l (callsIn_wide.2 hof)).mono ?_;rintro e W2 ⟨rfl,hb2⟩;have y1:=(hb2.cell (p:=⟨Bx,1,none⟩) (by exact (Array.getElem?_eq_some_iff.1 hcx).1)).trans x1;have b8':Boxed W2 (w.heap.size+1+1) 46 (.slice none 0 0):=(hb2.block _ b8.lt).trans b8;have b9':Boxed W2 (w.heap.size+1+1+1) 4 (.bool false):=(hb2.block _ b9.lt).trans b9;have b8c':=b8'.cell;have b8f':=b8'.frozen;have b9c':=b9'.cell;have b9f':=b9'.frozen)
        have hnb:Below w.heap.size w W2:=hb0.trans ((hB.mono (by omega)).trans (hb2.mono (Nat.le_trans (by omega) hB.size)))
        refine ⟨(keeps_below hb2).trans (((KeepsOthers.setCell _ _ _).from _).trans ((KeepsOthers.setCell _ _ _).from _)),⟨rfl,pre,x,rfl,hi,hofp,.slice none 0 0,(b8'.set _).other (by omega) _,?_,?_⟩,?_⟩
        · rw [hit1 hd];exact (b9'.other (by omega) _).set _
        · rw [hit1 hd];exact ⟨rfl,.inl ⟨rfl,rfl⟩⟩
        · exact (hnb.setCell (p:=⟨w.heap.size+1+1,0,none⟩) (by show w.heap.size≤w.heap.size+1+1;omega) _).setCell (p:=⟨w.heap.size+1+1+1,0,none⟩) (by show w.heap.size≤w.heap.size+1+1+1;omega) _
      |false=>
        rw [hd] at hof hcx x1
        have hcl:ws[x].2.2.length≤4398046511104:=hsm _ (List.getElem_mem x.2)
        gi_wp2_with (first
          |(refine ⟨trivial,?_⟩;gi_at_call 31;refine (CallsIn.inRound l (callsIn_wide.2 hof)).mono ?_;rintro e W2 ⟨rfl,hb2⟩;have y1:=(hb2.cell (p:=⟨Bx,1,none⟩) (by exact (Array.getElem?_eq_some_iff.1 hcx).1)).trans x1;have y2:=(hb2.cell (p:=⟨Bx,2,none⟩) (by exact (Array.getElem?_eq_some_iff.1 hcx).1)).trans x2;have hnb:Below w.heap.size w W2:=hb0.trans ((hB.mono (by omega)).trans (hb2.mono (Nat.le_trans (by omega) hB.size)));have hcc:=clone_calls (h.go (Nat.le_refl _) hnb) ws[x].2.2 ws[x].2.2 (.slice A' n' p') (K_move (fun b hb=>⟨hb,hnb.block b (h.lt b hb)⟩) hkx) (hit_clone _ hcl))
          |(refine ⟨trivial,?_⟩;gi_at_call 32;refine (CallsIn.inRound l (callsIn_wide.2 hcc)).mono ?_;rintro e W3 ⟨u,rfl,hours,hb3⟩;obtain ⟨A3,n3,c3,rfl⟩:=hours.shape;have b8':Boxed W3 (w.heap.size+1+1) 46 (.slice none 0 0):=(hb3.block _ (Nat.lt_of_lt_of_le b8.lt hb2.size)).trans ((hb2.block _ b8.lt).trans b8);have b9':Boxed W3 (w.heap.size+1+1+1) 4 (.bool false):=(hb3.block _ (Nat.lt_of_lt_of_le b9.lt hb2.size)).trans ((hb2.block _ b9.lt).trans b9);have b8c':=b8'.cell;have b8f':=b8'.frozen;have b9c':=b9'.cell;have b9f':=b9'.frozen))
        refine ⟨(keeps_below hb2).trans ((keeps_below hb3).trans (((KeepsOthers.setCell _ _ _).from _).trans ((KeepsOthers.setCell _ _ _).from _))),⟨rfl,pre,x,rfl,hi,hofp,.slice A3 n3 c3,(b8'.set _).other (by omega) _,?_,?_⟩,?_⟩
        · rw [hit0 hd];exact (b9'.other (by omega) _).set _
        · rw [hit0 hd]
          have hsz2:=hnb.size
          have hsz3:=hb2.size
          have hsz4:=hB.size
          exact ((hours.set (by omega) _).set (by omega) _).low (by omega)
        · exact ((hnb.trans (hb3.mono hnb.size)).setCell (p:=⟨w.heap.size+1+1,0,none⟩) (by show w.heap.size≤w.heap.size+1+1;omega) _).setCell (p:=⟨w.heap.size+1+1+1,0,none⟩) (by show w.heap.size≤w.heap.size+1+1+1;omega) _
  case stop=>
    rintro D cd pre W hD hSp ⟨⟨rfl,pre',j,rfl,q1,q2,v,q3,q4,q5⟩,q6⟩ hK
    gi_wp2
    have hz:y=hitP ws[j]:=by
      unfold rowP at hF
      have hl:lastW ws tb k=some ws[j]:=last_at hSp q1 q2
      rw [hl] at hF
      cases hall:ws.all (fun w=>Nat.ble w.2.2.length 4398046511104) with
      |false=>rw [hall] at hF;cases hF
      |true=>rw [hall] at hF;cases hF;rfl
    rw [hz]
    exact row_end rfl rfl q3 q4 q5 q6 (by omega) hK
  case done=>
    rintro D xs W hD rfl ⟨hi,hB⟩ hK
    have hl':lastW ws tb k=none:=last_no hi
    have hlk:((reads_Look.F (l,tb,())).bind fun y=>(rel_Get.F (y.1,y.2.1,k.1,k.2.1,k.2.2,())).bind fun z=>some (z.2.1,z.2.2.1))=some y:=by
      unfold rowP at hF
      rw [hl'] at hF
      cases hall:ws.all (fun w=>Nat.ble w.2.2.length 4398046511104) with
      |false=>rw [hall] at hF;cases hF
      |true=>rw [hall] at hF;exact hF
    have hn:∀m,m<5→W.heap[w.heap.size+m]?=W0.heap[w.heap.size+m]?:=fun m hm=>hB.block _ (by omega)
    refine ‹∀(a:Act) (w:World),_→_› _ _ ?_
    refine wpIn_wide.2 ?_
    refine rest_wp h (hb0.trans (hB.mono (by omega))) l tb k y rv hl hlk ((hB.block _ (by omega)).trans h6) ((hn 1 (by omega)).trans h7) ((hn 2 (by omega)).trans h8) ((hn 3 (by omega)).trans h9) _ rfl rfl rfl rfl rfl rfl (D:=D) (by omega) hK _ ?_
    rintro ⟨tm,df⟩ W' v hdf a8 a9 k8 k9 ho hbb hK'
    subst hdf
    exact row_end a8 a9 k8 k9 ho hbb (by omega) hK'
end Go.Proofs.Ytniojllnooblcaa
end
section
set_option maxRecDepth 100000
namespace Go.Proofs.Ytniojllnooblcaa
open Go Lv Go.Proofs Go.RowKit Go.Shelf
def Tryz.lays6_ren:Go.Shelf.Ren:=⟨fun|6=>28|15=>59|14=>58|28=>101|29=>102|20=>93|21=>94|22=>95|23=>96|24=>97|25=>98|26=>99|27=>100|46=>128|47=>129|48=>130|49=>131|50=>132|57=>162|n=>n,fun|22=>45|24=>27|25=>50|3=>3|39=>138|0=>0|53=>183|55=>185|4=>4|46=>177|45=>176|50=>129|5=>5|9=>9|66=>218|70=>222|76=>248|77=>249|n=>n,fun|n=>n⟩
theorem Tryz.lays6:Go.Proofs.SlLaysF0.n6 Tryz.prog Tryz.lays6_ren where
  mixed:=by kernel_rfl
  f6:=⟨Tryz.f28.name,by kernel_rfl,Tryz.func28.trans (congrArg some (by kernel_rfl))⟩
  f14:=⟨Tryz.f58.name,by kernel_rfl,Tryz.func58.trans (congrArg some (by kernel_rfl))⟩
  f15:=Tryz.func59.trans (congrArg some (by kernel_rfl))
  f20:=⟨Tryz.f93.name,by kernel_rfl,Tryz.func93.trans (congrArg some (by kernel_rfl))⟩
  f21:=⟨Tryz.f94.name,by kernel_rfl,Tryz.func94.trans (congrArg some (by kernel_rfl))⟩
  f22:=⟨Tryz.f95.name,by kernel_rfl,Tryz.func95.trans (congrArg some (by kernel_rfl))⟩
  f23:=⟨Tryz.f96.name,by kernel_rfl,Tryz.func96.trans (congrArg some (by kernel_rfl))⟩
  f24:=⟨Tryz.f97.name,by kernel_rfl,Tryz.func97.trans (congrArg some (by kernel_rfl))⟩
  f25:=⟨Tryz.f98.name,by kernel_rfl,Tryz.func98.trans (congrArg some (by kernel_rfl))⟩
  f26:=⟨Tryz.f99.name,by kernel_rfl,Tryz.func99.trans (congrArg some (by kernel_rfl))⟩
  f27:=⟨Tryz.f100.name,by kernel_rfl,Tryz.func100.trans (congrArg some (by kernel_rfl))⟩
  f28:=Tryz.func101.trans (congrArg some (by kernel_rfl))
  f29:=Tryz.func102.trans (congrArg some (by kernel_rfl))
  f46:=⟨Tryz.f128.name,by kernel_rfl,Tryz.func128.trans (congrArg some (by kernel_rfl))⟩
  f47:=Tryz.func129.trans (congrArg some (by kernel_rfl))
  f48:=Tryz.func130.trans (congrArg some (by kernel_rfl))
  f49:=⟨Tryz.f131.name,by kernel_rfl,Tryz.func131.trans (congrArg some (by kernel_rfl))⟩
  f50:=⟨Tryz.f132.name,by kernel_rfl,Tryz.func132.trans (congrArg some (by kernel_rfl))⟩
  f57:=⟨Tryz.f162.name,by kernel_rfl,Tryz.func162.trans (congrArg some (by kernel_rfl))⟩
  t0:=Tryz.underlying0
  a0:=Tryz.isAgg0
  z0:=Tryz.sizeOf0
  v0:=Tryz.zeroValue0
  t3:=Tryz.underlying3
  a3:=Tryz.isAgg3
  z3:=Tryz.sizeOf3
  v3:=Tryz.zeroValue3
  t4:=Tryz.underlying4
  a4:=Tryz.isAgg4
  z4:=Tryz.sizeOf4
  v4:=Tryz.zeroValue4
  t5:=Tryz.underlying5
  a5:=Tryz.isAgg5
  z5:=Tryz.sizeOf5
  v5:=Tryz.zeroValue5
  t9:=Tryz.underlying9
  a9:=Tryz.isAgg9
  z9:=Tryz.sizeOf9
  v9:=Tryz.zeroValue9
  t22:=Tryz.underlying45
  a22:=Tryz.isAgg45
  z22:=Tryz.sizeOf45
  v22:=Tryz.zeroValue45
  t25:=Tryz.underlying50
  a25:=Tryz.isAgg50
  z25:=Tryz.sizeOf50
  v25:=Tryz.zeroValue50
  t39:=Tryz.underlying138
  a39:=Tryz.isAgg138
  z39:=Tryz.sizeOf138
  v39:=Tryz.zeroValue138
  t45:=Tryz.underlying176
  a45:=Tryz.isAgg176
  z45:=Tryz.sizeOf176
  v45:=Tryz.zeroValue176
  t46:=Tryz.underlying177
  a46:=Tryz.isAgg177
  z46:=Tryz.sizeOf177
  v46:=Tryz.zeroValue177
  t50:=Tryz.underlying129
  a50:=Tryz.isAgg129
  z50:=Tryz.sizeOf129
  v50:=Tryz.zeroValue129
  t53:=Tryz.underlying183
  a53:=Tryz.isAgg183
  z53:=Tryz.sizeOf183
  v53:=Tryz.zeroValue183
  t55:=Tryz.underlying185
  a55:=Tryz.isAgg185
  z55:=Tryz.sizeOf185
  v55:=Tryz.zeroValue185
  t66:=Tryz.underlying218
  a66:=Tryz.isAgg218
  z66:=Tryz.sizeOf218
  v66:=Tryz.zeroValue218
  t70:=Tryz.underlying222
  a70:=Tryz.isAgg222
  z70:=Tryz.sizeOf222
  v70:=Tryz.zeroValue222
  t76:=Tryz.underlying248
  a76:=Tryz.isAgg248
  z76:=Tryz.sizeOf248
  v76:=Tryz.zeroValue248
  t77:=Tryz.underlying249
  a77:=Tryz.isAgg249
  z77:=Tryz.sizeOf249
  v77:=Tryz.zeroValue249
namespace Srt
attribute [-instance] hasG
noncomputable local instance hasT:HasG:=varG Tryz.prog gvars true
theorem cx0:CxOk PP c0:=CxOk.nilP tab_ok eqs_ok
theorem cmp_isNaN_int_ev (x:TS cmp_isNaN_int.si):evF c0 inl0 (Tryz.f91.body.getD .skip) Tryz.f91.results.toList cmp_isNaN_int.h cmp_isNaN_int.si cmp_isNaN_int.so x=cmp_isNaN_int.B x:=by kernel_rfl
theorem cmp_isNaN_int_ok:SpecOk PP 91 ⟨1,cmp_isNaN_int.si,cmp_isNaN_int.so,cmp_isNaN_int.F⟩:=fn_stk cx0 (inl0_ok _ _) mixed cmp_isNaN_int.fn cmp_isNaN_int.h (by kernel_rfl) cmp_isNaN_int_ev
noncomputable def spcmp_isNaN_int:List (Nat×List (Nat×AK)×Lv.Spec):=(91,[],⟨1,cmp_isNaN_int.si,cmp_isNaN_int.so,cmp_isNaN_int.F⟩)::sp0
noncomputable abbrev ccmp_isNaN_int:Cx:=⟨tabAt tab0,eqAt eqs0,specAt spcmp_isNaN_int,0,specPAt sq0⟩
theorem cxcmp_isNaN_int:CxOk PP ccmp_isNaN_int:=cx0.consS [] cmp_isNaN_int.fn.enters cmp_isNaN_int_ok
theorem cmp_Compare_int_ev (x:TS cmp_Compare_int.si):evF ccmp_isNaN_int inl0 (Tryz.f56.body.getD .skip) Tryz.f56.results.toList cmp_Compare_int.h cmp_Compare_int.si cmp_Compare_int.so x=cmp_Compare_int.B x:=by kernel_rfl
theorem cmp_Compare_int_ok:SpecOk PP 56 ⟨2,cmp_Compare_int.si,cmp_Compare_int.so,cmp_Compare_int.F⟩:=fn_stk cxcmp_isNaN_int (inl0_ok _ _) mixed cmp_Compare_int.fn cmp_Compare_int.h (by kernel_rfl) cmp_Compare_int_ev
noncomputable def spcmp_Compare_int:List (Nat×List (Nat×AK)×Lv.Spec):=(56,[],⟨2,cmp_Compare_int.si,cmp_Compare_int.so,cmp_Compare_int.F⟩)::spcmp_isNaN_int
noncomputable abbrev ccmp_Compare_int:Cx:=⟨tabAt tab0,eqAt eqs0,specAt spcmp_Compare_int,0,specPAt sq0⟩
theorem cxcmp_Compare_int:CxOk PP ccmp_Compare_int:=cxcmp_isNaN_int.consS [] cmp_Compare_int.fn.enters cmp_Compare_int_ok
theorem strings_Compare_ok:SpecOk PP 57 ⟨2,strings_Compare.si,strings_Compare.so,strings_Compare.F⟩:=by
  rw [strings_Compare.eq]
  exact str2s_spec (F:=cmpB) fun a b w=>Any.strings_Compare Tryz.lays106 a b w
noncomputable def spstrings_Compare:List (Nat×List (Nat×AK)×Lv.Spec):=(57,[],⟨2,strings_Compare.si,strings_Compare.so,strings_Compare.F⟩)::spcmp_Compare_int
noncomputable abbrev cstrings_Compare:Cx:=⟨tabAt tab0,eqAt eqs0,specAt spstrings_Compare,0,specPAt sq0⟩
theorem cxstrings_Compare:CxOk PP cstrings_Compare:=cxcmp_Compare_int.consS [] strings_Compare.en strings_Compare_ok
theorem cmp_Or_int_ev (x:TS cmp_Or_int.si):evF cstrings_Compare inl0 (Tryz.f55.body.getD .skip) Tryz.f55.results.toList cmp_Or_int.h cmp_Or_int.si cmp_Or_int.so x=cmp_Or_int.B x:=by kernel_rfl
theorem cmp_Or_int_ok:SpecOk PP 55 ⟨1,cmp_Or_int.si,cmp_Or_int.so,cmp_Or_int.F⟩:=fn_stk cxstrings_Compare (inl0_ok _ _) mixed cmp_Or_int.fn cmp_Or_int.h (by kernel_rfl) cmp_Or_int_ev
noncomputable def spcmp_Or_int:List (Nat×List (Nat×AK)×Lv.Spec):=(55,[],⟨1,cmp_Or_int.si,cmp_Or_int.so,cmp_Or_int.F⟩)::spstrings_Compare
noncomputable abbrev ccmp_Or_int:Cx:=⟨tabAt tab0,eqAt eqs0,specAt spcmp_Or_int,0,specPAt sq0⟩
theorem cxcmp_Or_int:CxOk PP ccmp_Or_int:=cxstrings_Compare.consS [] cmp_Or_int.fn.enters cmp_Or_int_ok
theorem value_Compare_ev (x:TS value_Compare.si):evF ccmp_Or_int inl0 (Tryz.f27.body.getD .skip) Tryz.f27.results.toList value_Compare.h value_Compare.si value_Compare.so x=value_Compare.B x:=by kernel_rfl
theorem value_Compare_ok:SpecOk PP 27 ⟨2,value_Compare.si,value_Compare.so,value_Compare.F⟩:=fn_stk cxcmp_Or_int (inl0_ok _ _) mixed value_Compare.fn value_Compare.h (by kernel_rfl) value_Compare_ev
noncomputable def spvalue_Compare:List (Nat×List (Nat×AK)×Lv.Spec):=(27,[],⟨2,value_Compare.si,value_Compare.so,value_Compare.F⟩)::spcmp_Or_int
noncomputable abbrev cvalue_Compare:Cx:=⟨tabAt tab0,eqAt eqs0,specAt spvalue_Compare,0,specPAt sq0⟩
theorem cxvalue_Compare:CxOk PP cvalue_Compare:=cxcmp_Or_int.consS [] value_Compare.fn.enters value_Compare_ok
theorem sorted:SpecOk PP 28 ⟨2,sortSi 27 27 tValue,sortSo 27 tValue,sortL (cmpOf tValue value_Compare.F)⟩:=
  sort_spec Tryz.lays6 rfl Tryz.isAgg27 Tryz.sizeOf27 value_Compare.fn.enters rfl value_Compare_ok
end Srt
noncomputable def sortF:List tValueT×Unit→Option (List tValueT×Unit):=sortL (cmpOf tValue value_Compare.F)
theorem sort_ok:SpecOk Tryz.prog 28 ⟨2,⟨[(0,.v false [.ref 0]),(1,.v false [.fn 27])],[(0,true,.arr 27 tValue)],[],1,[]⟩,⟨[(0,.tup [])],[(0,true,.arr 27 tValue)],[],1001,[]⟩,sortF⟩:=spec_draw Srt.sorted
end Go.Proofs.Ytniojllnooblcaa
end
section
namespace Go.Proofs.Ytniojllnooblcaa
open Go Lv Go.Proofs Go.RowKit Go.Shelf
noncomputable def cOf (w:World) (b off j:Nat):Value×Value×Value:=((w.cell? ⟨b,off+j*3,none⟩).getD undef,(w.cell? ⟨b,off+j*3+1,none⟩).getD undef,(w.cell? ⟨b,off+j*3+2,none⟩).getD undef)
theorem ws_of {ok:Nat→Prop} {w:World} {ws:List tWriteT} {b off:Nat} (h:∀j x,ws[j]?=some x→∃vs,K ok w tWrite x vs∧∀k v,vs[k]?=some v→w.cell? ⟨b,off+j*3+k,none⟩=some v) (hb:ws.length=0∨b<w.heap.size) (hl:ws.length≤140737488351):
    WsAt w.heap.size w (some ⟨b,off,none⟩) ws.length (cOf w b off)∧∀j x,ws[j]?=some x→K ok w tWrite x [(cOf w b off j).1,(cOf w b off j).2.1,(cOf w b off j).2.2]:=by
  have key:∀j x,ws[j]?=some x→∃p q r,K ok w tWrite x [p,q,r]∧w.cell? ⟨b,off+j*3,none⟩=some p∧w.cell? ⟨b,off+j*3+1,none⟩=some q∧w.cell? ⟨b,off+j*3+2,none⟩=some r:=by
    intro j x hx
    obtain ⟨vs,h1,h2⟩:=h j x hx
    have hn:vs.length=3:=K_len h1
    match vs,hn with
    | [p,q,r],_=>exact ⟨p,q,r,h1,h2 0 p rfl,h2 1 q rfl,h2 2 r rfl⟩
  refine ⟨⟨hl,hb.imp id fun hb=>⟨b,off,rfl,hb,?_,?_,?_⟩⟩,?_⟩
  · intro j hj
    obtain ⟨p,q,r,_,e1,e2,e3⟩:=key j _ (List.getElem?_eq_getElem hj)
    simp only [cOf,e1,Option.getD_some]
  · intro j hj
    obtain ⟨p,q,r,_,e1,e2,e3⟩:=key j _ (List.getElem?_eq_getElem hj)
    simp only [cOf,e2,Option.getD_some]
  · intro j hj
    obtain ⟨p,q,r,_,e1,e2,e3⟩:=key j _ (List.getElem?_eq_getElem hj)
    simp only [cOf,e3,Option.getD_some]
  · intro j x hx
    obtain ⟨p,q,r,e0,e1,e2,e3⟩:=key j x hx
    simp only [cOf,e1,e2,e3,Option.getD_some]
    exact e0
theorem four_args {args:Array Value} (hn:args.size=4) {a b c d:Value} (h0:args[0]?=some a) (h1:args[1]?=some b) (h2:args[2]?=some c) (h3:args[3]?=some d):args=#[a,b,c,d]:=by
  obtain ⟨l⟩:=args
  match l,hn,h0,h1,h2,h3 with
  | [p,q,r,s],_,h0,h1,h2,h3=>simp at h0 h1 h2 h3;rw [h0,h1,h2,h3]
theorem agg3_of {ρ:Nat→Value} {ok:Nat→Prop} {w:World} {nx:Nat} {a b:Int} {c:ByteArray} {v:Value} (h:SlotR ρ ok w nx (.v true [.int .i64 a,.int .i64 b,.str c]) v):v=.agg #[.int .i64 a,.int .i64 b,.string c]:=by
  obtain ⟨vs,rfl,hA⟩:=h
  rcases hA with _|⟨h1,hA⟩
  rcases hA with _|⟨h2,hA⟩
  rcases hA with _|⟨h3,hA⟩
  rcases hA with _|_
  have h1:_=_:=h1
  have h2:_=_:=h2
  have h3:_=_:=h3
  rw [h1,h2,h3]
theorem Ours.blk {B:Nat} {W:World} {v:Value} {xs:List tValueT} (h:Ours B W v xs) {b:Nat} (hb:Lv.blk v=some b):B≤b:=by
  rcases h.2 with ⟨e,_⟩|⟨g,cap,cur,e,h0,_⟩
  · rw [e] at hb;cases hb
  · rw [e] at hb
    have:g=b:=by cases hb;rfl
    omega
theorem Ours.one {B:Nat} {W:World} {v:Value} {xs:List tValueT} (h:Ours B W v xs):v.oneCell'=true:=by
  obtain ⟨A,n,c,rfl⟩:=h.shape;rfl
theorem row_ok : SpecOk Tryz.prog 9 ⟨4,⟨[(0,.v false [.sl 74 tRel]),(1,.v false [.sl 68 tWrite]),(2,.v false [.str]),(3,.v true [.int .i64,.int .i64,.str])],[],[],0,[]⟩,⟨[(0,.tup [(false,[.ref 1000]),(false,[.bool])])],[(1000,false,.arr 27 tValue)],[],1001,[]⟩,txnRowF⟩ := by
  rintro ⟨l,ws,tb,a,b,c,u⟩ y hF ρ ok w args hn hH hE
  have hF:txnRowF (l,ws,tb,a,b,c,u)=some y:=hF
  unfold txnRowF at hF
  simp only at hF
  cases hlen:Nat.ble ws.length 140737488351 with
  |false=>rw [hlen] at hF;cases hF
  |true=>
    rw [hlen] at hF
    obtain ⟨z,hz,rfl⟩:=Option.map_eq_some_iff.1 hF
    obtain ⟨v0,a0,c0,k0,g0⟩:=hE 0 (.v false [.sl 74 tRel l]) rfl
    obtain ⟨v1,a1,c1,k1,g1⟩:=hE 1 (.v false [.sl 68 tWrite ws]) rfl
    obtain ⟨v2,a2,c2,k2,g2⟩:=hE 2 (.v false [.str tb]) rfl
    obtain ⟨v3,a3,g3⟩:=hE 3 (.v true [.int .i64 a,.int .i64 b,.str c]) rfl
    cases k0;cases k1;cases k2
    have g3:=agg3_of g3
    have g2:v2=.string tb:=g2
    obtain ⟨A,cap,e1,_,hrow⟩:=g1
    simp only [List.cons.injEq,and_true] at e1
    subst g2 g3 e1
    have ha:=four_args hn a0 a1 a2 a3
    subst ha
    have hat:At ok w:=⟨hH.okl,hH.gl⟩
    have hwk:∃c,WsAt w.heap.size w A ws.length c∧∀j x,ws[j]?=some x→K ok w tWrite x [(c j).1,(c j).2.1,(c j).2.2]:=by
      rcases hrow with h0|⟨bb,o,rfl,hb,hx⟩
      · subst h0
        exact ⟨cOf w 0 0,⟨by simp,.inl rfl⟩,fun j x h=>by simp at h⟩
      · exact ⟨_,ws_of (fun j x h=>hx j x h) (.inr (hH.okl bb hb)) (Nat.le_of_ble_eq_true hlen)⟩
    obtain ⟨cc,hw,hk⟩:=hwk
    refine (row_calls hat v0 l g0 A cap ws cc hw hk tb (a,(b,c)) z hz).mono ?_
    rintro e w' ⟨v,rfl,ho,hb⟩
    have hS:Same ok ok w w':=fun b hb'=>⟨hb',hb.block b (hH.okl b hb')⟩
    have hp:∀l o,hpOut (⟨[(0,.tup [(false,[.ref 1000]),(false,[.bool])])],[(1000,false,.arr 27 tValue)],[],1001,[]⟩:Sh) id (z.1,z.2,()) l=some o→l=1000∧o=.arr 27 tValue z.2:=by
      intro l o h
      have h:Lv.put (fun _=>none) 1000 (some (.arr 27 tValue z.2)) l=some o:=h
      simp only [Lv.put] at h
      split at h
      · rename_i hl;cases h;exact ⟨Nat.eq_of_beq_eq_true hl,rfl⟩
      · cases h
    have hr1:(fun l=>if l=1000 then v else ρ l) 1000=v:=by simp
    refine ⟨_,fun l=>if l=1000 then v else ρ l,ok,rfl,⟨fun l o h=>?_,fun b hb'=>Nat.lt_of_lt_of_le (hH.okl b hb') hb.size,fun l o b h _ hbl hok=>?_,fun l m o p b h h' _ _ _ _=>(hp l o h).1.trans (hp m p h').1.symm,hH.gl.move hS⟩,?_,
      ⟨hb.os,hb.tape,⟨hb.output,fun e=>by cases e⟩,hb.size,fun b h _=>hb.block b h,fun _ h=>h,fun _ h=> .inl h,fun l o h hl=>absurd (hp l o h).1 (by omega),fun l o b h _ _ hbl=> .inl ?_⟩⟩
    · obtain ⟨rfl,rfl⟩:=hp l o h
      exact ⟨Nat.lt_succ_self 1000,flat z.2,by rw [hr1];exact ho.low (Nat.zero_le _),flat_rows ok w' z.2⟩
    · obtain ⟨rfl,rfl⟩:=hp l o h
      have hbl:Lv.blk v=some b:=by simpa using hbl
      have:=ho.blk hbl
      have:=hH.okl b hok
      omega
    · show RepE _ _ _ _ (Lv.put (fun _=>none) 0 (some (.tup [(false,[.ref 1000]),(false,[.bool z.1])]))) _
      exact repE_put repE_nil rfl ⟨[v,.bool z.1],rfl,.cons ⟨_,rfl,Nat.lt_succ_self 1000,hr1.symm,ho.one⟩ (.cons ⟨_,rfl,rfl⟩ .nil)⟩
    · obtain ⟨rfl,rfl⟩:=hp l o h
      have hbl:Lv.blk v=some b:=by simpa using hbl
      exact ho.blk hbl
theorem ob_nx {ρ:Nat→Value} {ok:Nat→Prop} {w:World} {nx nx' l e:Nat} {t:Ty} {xs:List t.T} (h:ObR ρ ok w nx l (.arr e t xs)):ObR ρ ok w nx' l (.arr e t xs):=h
theorem row_ok_o : SpecOk Tryz.prog 9 ⟨4,⟨[(0,.v false [.sl 74 tRel]),(1,.v false [.ref 0]),(2,.v false [.str]),(3,.v true [.int .i64,.int .i64,.str])],[(0,true,.arr 68 tWrite)],[],1,[]⟩,⟨[(0,.tup [(false,[.ref 1000]),(false,[.bool])])],[(0,true,.arr 68 tWrite),(1000,false,.arr 27 tValue)],[],1001,[]⟩,txnRowO⟩ := by
  rintro ⟨l,tb,a,b,c,ws,u⟩ y hF ρ ok w args hn hH hE
  have hF:txnRowO (l,tb,a,b,c,ws,u)=some y:=hF
  unfold txnRowO at hF
  simp only at hF
  cases hlen:Nat.ble ws.length 140737488351 with
  |false=>rw [hlen] at hF;cases hF
  |true=>
    rw [hlen] at hF
    obtain ⟨z,hz,rfl⟩:=Option.map_eq_some_iff.1 hF
    obtain ⟨v0,a0,c0,k0,g0⟩:=hE 0 (.v false [.sl 74 tRel l]) rfl
    obtain ⟨v1,a1,c1,k1,g1⟩:=hE 1 (.v false [.ref 0]) rfl
    obtain ⟨v2,a2,c2,k2,g2⟩:=hE 2 (.v false [.str tb]) rfl
    obtain ⟨v3,a3,g3⟩:=hE 3 (.v true [.int .i64 a,.int .i64 b,.str c]) rfl
    cases k0;cases k1;cases k2
    have g3:=agg3_of g3
    have g2:v2=.string tb:=g2
    have g1:v1=ρ 0:=g1.2.1
    subst g1 g2 g3
    have hob:=hH.ob 0 (.arr 68 tWrite ws) rfl
    have hwk:∃A cap c,ρ 0=.slice A ws.length cap∧WsAt w.heap.size w A ws.length c∧∀j x,ws[j]?=some x→K ok w tWrite x [(c j).1,(c j).2.1,(c j).2.2]:=by
      obtain ⟨_,inner,⟨_,hr⟩,hrows⟩:=hob
      rcases hr with ⟨e0,e1⟩|⟨g,cap,cur,e0,_,hg,_⟩
      · have:ws=[]:=List.eq_nil_of_length_eq_zero e1
        subst this
        exact ⟨none,0,cOf w 0 0,e0,⟨by simp,.inl rfl⟩,fun j x h=>by simp at h⟩
      · have he:=(arr_elem (ρ:=ρ) (ok:=ok) (w:=w) (l:=0) (e:=68) (t:=tWrite) (xs:=ws) (st:=⟨fun _=>none,hpOut (⟨[(0,.v false [.sl 74 tRel]),(1,.v false [.ref 0]),(2,.v false [.str]),(3,.v true [.int .i64,.int .i64,.str])],[(0,true,.arr 68 tWrite)],[],1,[]⟩:Sh) id (l,tb,a,b,c,ws,()),1000,[]⟩) hH rfl e0).2
        have hww:=ws_of (off:=0) (fun j x h=>by
          obtain ⟨vs,p1,p2⟩:=he j x h
          exact ⟨vs,p1,fun k v hk=>by have:=p2 k v hk;rw [Nat.zero_add];exact this⟩) (.inr (Array.getElem?_eq_some_iff.1 hg).1) (Nat.le_of_ble_eq_true hlen)
        exact ⟨_,cap,_,e0,hww⟩
    obtain ⟨A,cap,cc,e1,hw,hk⟩:=hwk
    rw [e1] at a1
    have ha:=four_args hn a0 a1 a2 a3
    subst ha
    have hat:At ok w:=⟨hH.okl,hH.gl⟩
    refine (row_calls hat v0 l g0 A cap ws cc hw hk tb (a,(b,c)) z hz).mono ?_
    rintro e w' ⟨v,rfl,ho,hb⟩
    have hS:Same ok ok w w':=fun b hb'=>⟨hb',hb.block b (hH.okl b hb')⟩
    have hp:∀l o,hpOut (⟨[(0,.tup [(false,[.ref 1000]),(false,[.bool])])],[(0,true,.arr 68 tWrite),(1000,false,.arr 27 tValue)],[],1001,[]⟩:Sh) id (z.1,ws,z.2,()) l=some o→(l=0∧o=.arr 68 tWrite ws)∨(l=1000∧o=.arr 27 tValue z.2):=by
      intro l o h
      have h:Lv.put (Lv.put (fun _=>none) 1000 (some (.arr 27 tValue z.2))) 0 (some (.arr 68 tWrite ws)) l=some o:=h
      simp only [Lv.put] at h
      split at h
      · rename_i hl;cases h;exact .inl ⟨Nat.eq_of_beq_eq_true hl,rfl⟩
      · split at h
        · rename_i hl;cases h;exact .inr ⟨Nat.eq_of_beq_eq_true hl,rfl⟩
        · cases h
    have hr1:(fun l=>if l=1000 then v else ρ l) 1000=v:=by simp
    have hlt0:∀b,Lv.blk (ρ 0)=some b→b<w.heap.size:=fun b hb'=>hH.lt (l:=0) (o:=.arr 68 tWrite ws) rfl rfl hb'
    refine ⟨_,fun l=>if l=1000 then v else ρ l,ok,rfl,⟨fun l o h=>?_,fun b hb'=>Nat.lt_of_lt_of_le (hH.okl b hb') hb.size,fun l o b h _ hbl hok=>?_,fun l m o p b h h' _ _ h1 h2=>?_,hH.gl.move hS⟩,?_,
      ⟨hb.os,hb.tape,⟨hb.output,fun e=>by cases e⟩,hb.size,fun b h _=>hb.block b h,fun _ h=>h,fun _ h=> .inl h,fun l o h hl=>?_,fun l o b h hl _ hbl=> .inl ?_⟩⟩
    · rcases hp l o h with ⟨rfl,rfl⟩|⟨rfl,rfl⟩
      · have hob:=hH.ob 0 (.arr 68 tWrite ws) rfl
        exact ⟨by show 0<1001;decide,ObR.move (ρ:=ρ) (ok:=ok) (w:=w) (nx:=0) hS (fun l hl=>absurd hl (Nat.not_lt_zero l)) (Nat.zero_le _) (by simp) (fun _ b hbl=>hb.block b (hlt0 b hbl)) (ob_nx hob.2)⟩
      · exact ⟨Nat.lt_succ_self 1000,flat z.2,by rw [hr1];exact ho.low (Nat.zero_le _),flat_rows ok w' z.2⟩
    · rcases hp l o h with ⟨rfl,rfl⟩|⟨rfl,rfl⟩
      · exact hH.sep 0 (.arr 68 tWrite ws) b rfl rfl (by simpa using hbl) hok
      · have hbl:Lv.blk v=some b:=by simpa using hbl
        have:=ho.blk hbl
        have:=hH.okl b hok
        omega
    · rcases hp l o h with ⟨rfl,rfl⟩|⟨rfl,rfl⟩<;>rcases hp m p h' with ⟨rfl,rfl⟩|⟨rfl,rfl⟩
      · rfl
      · have q1:Lv.blk (ρ 0)=some b:=by simpa using h1
        have q2:Lv.blk v=some b:=by simpa using h2
        have:=hlt0 b q1
        have:=ho.blk q2
        omega
      · have q1:Lv.blk (ρ 0)=some b:=by simpa using h2
        have q2:Lv.blk v=some b:=by simpa using h1
        have:=hlt0 b q1
        have:=ho.blk q2
        omega
      · rfl
    · show RepE _ _ _ _ (Lv.put (fun _=>none) 0 (some (.tup [(false,[.ref 1000]),(false,[.bool z.1])]))) _
      exact repE_put repE_nil rfl ⟨[v,.bool z.1],rfl,.cons ⟨_,rfl,Nat.lt_succ_self 1000,hr1.symm,ho.one⟩ (.cons ⟨_,rfl,rfl⟩ .nil)⟩
    · rcases hp l o h with ⟨rfl,rfl⟩|⟨rfl,rfl⟩
      · exact ⟨by simp,.arr 68 tWrite ws,rfl,fun _=>rfl⟩
      · omega
    · rcases hp l o h with ⟨rfl,rfl⟩|⟨rfl,rfl⟩
      · omega
      · have hbl:Lv.blk v=some b:=by simpa using hbl
        exact ho.blk hbl
end Go.Proofs.Ytniojllnooblcaa
end
