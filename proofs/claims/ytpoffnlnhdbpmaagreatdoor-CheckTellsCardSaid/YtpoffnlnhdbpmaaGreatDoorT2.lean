import Derived.Test.YtpoffnlnhdbpmaaGreatDoorT1
import Derived.MapKept
import Derived.WideKeyRuns
import Derived.Laws.Cover3
import Derived.Orders
import Derived.LoopN
set_option linter.all false
set_option linter.unusedVariables false
set_option linter.unusedSimpArgs false
set_option linter.unusedSectionVars false
section
namespace Lv
variable [gG]
open Go Go.RowKit
section
variable {P:Program} {o:Oper} {a:Act} {ρ:Nat→Value} {ok:Nat→Prop} {w:World} {st:St} {hp':cT}
theorem B9 (cx : Cx) (hT : gC P cx.tab) (hN : Now P ρ ok w st a hp') {args : Array Operand} {ts : Array TypeId} (ho : o.op = .call { callee := .builtin .len,args,argTypes := ts }) {r : Res}
    (h:gR cx st.nx (.call {callee:=.builtin .len,args,argTypes:=ts}) (opd st.env) hp'=some r):fh P o a ρ ok w st r:=by
  simp only [gR] at h
  split at h<;>try (cases h;done)
  rename_i t x h1 h2
  have e1:ts=#[t]:=by apply Array.ext';simpa using h1
  have e2:args=#[x]:=by apply Array.ext';simpa using h2
  subst e1 e2
  have run:∀{n:Int},(Builtin.len_ #[t] o.type #[a.eval x]).run P w=.ok (.int .i64 n) w→(execOp a.eval o).run P w=.ok (.value (.int .i64 n)) w:=by
    intro n hn
    simp only [execOp,ho,resolve,Sem.run_bind,Sem.run_pure,Result.andThen_ok,invoke,builtin,List.map_toArray,List.map_cons,List.map_nil,hn]
  split at h<;>try (cases h;done)
  · rename_i e _ _ _ _ _ c h3 h4
    have hu:=(hT t _ h3).sl rfl
    split at h<;>try (cases h;done)
    rename_i n hn
    cases h
    have hc:=dc hN.E h4
    have key:∃A cap,a.eval x=.slice A n cap:=by
      unfold rN at hn
      split at hn<;>try (cases hn;done)
      · rename_i e u xs
        cases hn
        obtain ⟨A,cap,h5,_⟩:=hc
        injection h5 with h5
        exact ⟨A,cap,h5⟩
      · rename_i l
        split at hn<;>try (cases hn;done)
        · rename_i hl
          cases hn
          obtain ⟨_,inner,h5,_⟩:=hN.H.ob l _ (hN.sub _ _ hl)
          rcases h5.2 with ⟨h6,h7⟩|⟨g,cap,cur,h6,_⟩
          · exact ⟨none,0,by rw [h7];exact hc.2.1.trans h6⟩
          · exact ⟨_,cap,hc.2.1.trans h6⟩
        · rename_i hl
          cases hn
          obtain ⟨_,A,cap,h5,_⟩:=hN.H.ob l _ (hN.sub _ _ hl)
          injection h5 with h5
          exact ⟨A,cap,hc.2.1.trans h5⟩
      · cases hn
        obtain ⟨_,A,cap,h5,_⟩:=hc
        exact ⟨A,cap,h5⟩
      · cases hn
        exact ⟨none,0,hc.1⟩
      · cases hn
        obtain ⟨_,b,_,h5⟩:=hc
        exact ⟨_,_,h5⟩
    obtain ⟨A,cap,hx⟩:=key
    refine fh.cell hN (run (n:=n) ?_) rfl
    rw [hx]
    simp [Builtin.len_,run_underlying hu,goInt]
  · rename_i s h3 h4
    cases h
    have hu:=(hT t _ h3).str rfl
    have hx:a.eval x=.string s:=dc (c:=.str s) hN.E h4
    refine fh.cell hN (run (n:=s.size) ?_) rfl
    rw [hx]
    simp [Builtin.len_,run_underlying hu,goInt]
theorem Rows.sub {t : Ty} {xs : List t.T} {vs : List Value} (h : Rows ok w t xs vs) (lo len : Nat) : Rows ok w t ((xs.drop lo).take len) ((vs.drop (lo * t.n)).take (len * t.n)) := by
  obtain ⟨css,rfl,h⟩:=h
  have drop:∀(lo:Nat) {xs:List t.T} {css:List (List Value)},All2 (K ok w t) xs css→css.flatten.drop (lo*t.n)=(css.drop lo).flatten:=by
    intro lo
    induction lo with
    |zero=>intro xs css _;simp
    |succ lo ih=>
      intro xs css h
      cases h with
      |nil=>simp
      |@cons x c xr cr hc hr=>
        have hl:=jh hc
        simp only [List.flatten_cons,List.drop_succ_cons]
        rw [show (lo+1)*t.n=c.length+lo*t.n by rw [hl,Nat.add_mul];omega,List.drop_length_add_append,ih hr]
  have take:∀(len:Nat) {xs:List t.T} {css:List (List Value)},All2 (K ok w t) xs css→css.flatten.take (len*t.n)=(css.take len).flatten:=by
    intro len
    induction len with
    |zero=>intro xs css _;simp
    |succ len ih=>
      intro xs css h
      cases h with
      |nil=>simp
      |@cons x c xr cr hc hr=>
        have hl:=jh hc
        simp only [List.flatten_cons,List.take_succ_cons]
        rw [show (len+1)*t.n=c.length+len*t.n by rw [hl,Nat.add_mul];omega,List.take_length_add_append,ih hr]
  exact ⟨(css.drop lo).take len,by rw [drop lo h,take len (h.drop lo)],(h.drop lo).take len⟩
def Src (P : Program) (ok : Nat → Prop) (w : World) (t : Ty) (ys : List t.T) (v : Value) : Prop := ∃ A c news,v = .slice A ys.length c ∧ Rows ok w t ys news ∧
    (∀k,k≤ys.length→∀w':World,w'.heap=w.heap→(Builtin.firstCells t.n k v).run P w'=.ok (news.take (k*t.n)).toArray w')
theorem tX {t:Ty} {ys:List t.T} {b off c:Nat} {news:List Value} (hr:Rows ok w t ys news) (h:∀j v,news[j]?=some v→w.cell? ⟨b,off+j,none⟩=some v):Src P ok w t ys (.slice (some ⟨b,off,none⟩) ys.length c):=
 ⟨_,c,news,rfl,hr,fun k hk w' hw=>run_firstCells_some w' t.n k ⟨b,off,none⟩ ys.length c (news.take (k*t.n)) (by
  rw [List.length_take,hr.len];exact Nat.min_eq_left (Nat.mul_le_mul_right _ hk)) fun j v hj=>by
  rw [jH,World.cell?_of_block (w:=w) (a:=⟨b,off+j,none⟩) (by rw [hw])]
  refine h j v ?_
  rw [List.getElem?_take] at hj
  split at hj
  ·exact hj
  ·cases hj⟩
theorem m6 {t:Ty} {ys:List t.T} {A:Option Addr} {c:Nat} (h:ys=[]):Src P ok w t ys (.slice A ys.length c):=by
 subst h
 refine ⟨A,c,[],rfl,⟨[],rfl,.nil⟩,fun k hk w' _=>?_⟩
 have hk:k=0:=Nat.le_zero.1 hk
 subst hk
 cases A<;>simp [Builtin.firstCells,loadCells,loadCellsFrom]
theorem xY {e : Nat} {t : Ty} {ys : List t.T} {v : Value} (hk : K ok w (.sl e t) ys [v]) : Src P ok w t ys v := by
  obtain ⟨A,cap,h1,h2,h3⟩:=hk
  injection h1 with h1
  subst h1
  rcases h3 with h3|⟨b,off,h4,h5,h6⟩
  · exact m6 h3
  · subst h4
    have key:∀(zs:List t.T) (k:Nat),(∀i x,zs[i]?=some x→∃cs,K ok w t x cs∧∀j v,cs[j]?=some v→w.cell? ⟨b,off+(k+i)*t.n+j,none⟩=some v)→
        ∃news,Rows ok w t zs news∧∀j v,news[j]?=some v→w.cell? ⟨b,off+k*t.n+j,none⟩=some v:=by
      intro zs
      induction zs with
      |nil=>intro k _;exact ⟨[],⟨[],rfl,.nil⟩,fun j v hj=>by simp at hj⟩
      |cons z r ih=>
        intro k hk
        obtain ⟨cs,c1,c2⟩:=hk 0 z rfl
        obtain ⟨nr,n1,n2⟩:=ih (k+1) fun i x hi=>by
          obtain ⟨cs,c1,c2⟩:=hk (i+1) x (by simpa using hi)
          exact ⟨cs,c1,fun j v hj=>by have:=c2 j v hj;rwa [show k+(i+1)=k+1+i by omega] at this⟩
        have hl:=jh c1
        refine ⟨cs++nr,Rows.app (xs:=[z]) ⟨[cs],by simp,.cons c1 .nil⟩ n1,fun j v hj=>?_⟩
        rw [List.getElem?_append] at hj
        split at hj
        · have:=c2 j v hj;simpa using this
        · have:=n2 _ v hj
          rw [hl] at this hj
          have hle:t.n≤j:=by omega
          rwa [show off+(k+1)*t.n+(j-t.n)=off+k*t.n+j by rw [Nat.add_mul];omega] at this
    obtain ⟨news,n1,n2⟩:=key ys 0 fun i x hi=>by simpa using h6 i x hi
    exact tX n1 fun j v hj=>by have:=n2 j v hj;rwa [Nat.zero_mul,Nat.add_zero] at this
theorem xZ (hN : Now P ρ ok w st a hp') {e : Nat} {t : Ty} {c : Cell} {ys : List t.T} {v : Value} (hc : dP ρ ok w st.nx c v) (h : mQ e t hp' c = some ys) : Src P ok w t ys v := by
  cases c with
  |sl f u zs=>
    obtain ⟨rfl,rfl,h⟩:=ia h
    cases h
    exact xY (e:=e) hc
  | ref l =>
    simp only [mQ] at h
    obtain ⟨h1,rfl,h3⟩:=hc
    split at h
    · rename_i f u zs hl
      obtain ⟨rfl,rfl,h⟩:=ia h
      cases h
      obtain ⟨_,inner,h4,h5⟩:=hN.H.ob l _ (hN.sub _ _ hl)
      rcases h4.2 with ⟨h6,h7⟩|⟨g,cap,cur,h6,h7⟩
      · rw [h6]
        have:=m6 (P:=P) (ok:=ok) (w:=w) (A:=none) (c:=0) (List.eq_nil_of_length_eq_zero h7)
        rwa [h7] at this
      · rw [h6]
        exact tX h5 fun j v hj=>by
          have:=h4.cells (g:=g) (by rw [h6];rfl) j v hj
          rwa [jH] at this
    · rename_i f u zs hl
      obtain ⟨rfl,rfl,h⟩:=ia h
      cases h
      exact xY (e:=e) (hN.H.ob l _ (hN.sub _ _ hl)).2
    · cases h
  | sub l n lo len =>
    simp only [mQ] at h
    obtain ⟨h1,A,cap,rfl,h3,h4⟩:=hc
    split at h
    · rename_i f u zs hl
      split at h<;>try (cases h;done)
      rename_i hnu
      have hnu:=Nat.eq_of_beq_eq_true hnu
      obtain ⟨rfl,rfl,h⟩:=ia h
      cases h
      obtain ⟨_,inner,h5,h6⟩:=hN.H.ob l _ (hN.sub _ _ hl)
      rcases h4 with rfl|⟨b,L,C,h7,h8,h9⟩
      · have:=m6 (P:=P) (ok:=ok) (w:=w) (A:=A) (c:=cap) (ys:=(zs.drop lo).take 0) (by simp)
        simpa using this
      · subst h8
        rcases h5.2 with ⟨g1,g2⟩|⟨g,cap',cur,g1,g2⟩
        · rw [h7] at g1;cases g1
        · rw [h7] at g1
          injection g1 with e1 e2 e3
          injection e1 with e1
          injection e1 with e1
          subst e1 e2
          have hlen:((zs.drop lo).take len).length=len:=by simp;omega
          have:=tX (P:=P) (b:=b) (off:=lo*n) (c:=cap) (h6.sub lo len) fun j v hj=>by
            rw [List.getElem?_take] at hj
            split at hj
            · rw [List.getElem?_drop] at hj
              have:=h5.cells (g:=b) (by rw [h7];rfl) _ v hj
              rwa [jH,Nat.zero_add,←hnu] at this
            · cases hj
          rwa [hlen] at this
    · rename_i f u zs hl
      split at h<;>try (cases h;done)
      rename_i hnu
      refine xY (e:=e) (qD hN.H hN.sub (fun _ h=>h) (c:=.sub l n lo len) ⟨h1,A,cap,rfl,h3,h4⟩ (fun l' f' u' ys' hl' hc' b hb=>?_) (hp':=hp') ?_)
      · rcases hc' with hc'|⟨n',lo',len',hc'⟩
        · cases hc'
        · injection hc' with e1
          subst e1
          rw [hl] at hl';cases hl'
      · simp only [mQ,hl,hnu,if_true];exact h
    · cases h
  |val u=>
    obtain ⟨rfl,h1⟩:=hc
    unfold mQ at h
    split at h<;>rename_i heq<;>first|(cases heq;done)|(cases h;done)|skip
    all_goals first|(cases heq;cases h;exact m6 rfl)|skip
  |_=>cases h
theorem oZ {t ty e : Nat} {i : TypeInfo} {z : Value} {size bytes : Nat} (hu : P.underlying t = some (.slice e)) (hi : P.info? e = some i) (hz : i.zero = some z) (hsize : i.size = size) (hby : i.bytes = bytes) (hzs : z.cells.size = size) (hsz : 0 < size)
    {v x:Value} {n m c:Nat} {A:Option Addr} {xs news:List Value} (hown:w.ownsRow 0 e size v n xs) (hx:x=.slice A m c) (hl:news.length=m*size)
    (hf:∀w':World,w'.heap=w.heap→(Builtin.firstCells size m x).run P w'=.ok news.toArray w') (h1:∀u∈news,u.oneCell'=true) (hnm:n+m≤140737488355328) (hbytes:(n+m)*bytes≤140737488355328):
    ∃ v' w',(Builtin.append_ #[t,t] ty #[v,x]).run P w = .ok v' w' ∧ w'.ownsRow 0 e size v' (n + m) (xs ++ news) ∧ w'.os = w.os ∧ w'.tape = w.tape ∧ ji w w' ∧ w.heap.size ≤ w'.heap.size ∧
      (∀b,b<w.heap.size→blk v≠some b→w'.heap[b]?=w.heap[b]?)∧(∀b,blk v'=some b→w.heap.size≤b∨blk v=some b):=by
  subst hsize hby hx
  have hlen:(xs++news).length=(n+m)*i.size:=by rw [List.length_append,hown.1,hl,Nat.add_mul]
  have hml:n+m≤maxLen:=by simp only [maxLen];omega
  -- a new block
  have grown:∀(old:Nat),old<n+m→
      (w.drew.alloc (.cells (xs.toArray++news.toArray++Builtin.zeroCells z.cells (grownCap w (n+m) old e-(n+m))) e)).ownsRow 0 e i.size
        (.slice (some ⟨w.heap.size,0,none⟩) (n+m) (grownCap w (n+m) old e)) (n+m) (xs++news):=by
    intro old ho
    have hge:=grownCap_ge w (n+m) old e
    have hcm:grownCap w (n+m) old e≤maxLen:=grownCap_le_maxLen w (n+m) old e hml
    refine ⟨hlen,.inr ⟨w.heap.size,_,_,rfl,Nat.zero_le _,heap_alloc_new w.drew _,hge,hcm,?_,?_⟩⟩
    · simp only [Array.size_append,List.size_toArray,size_zeroCells,hzs,hown.1,hl,←Nat.add_mul]
      congr 1
      omega
    · simp only [Array.toList_append,List.append_assoc]
      rw [←List.append_assoc,←hlen]
      exact List.take_left
  have gframe:∀(old:Nat) (cs:Array Value),(w.drew.alloc (.cells cs e)).os=w.os∧(w.drew.alloc (.cells cs e)).tape=w.tape∧ji w (w.drew.alloc (.cells cs e))∧w.heap.size≤(w.drew.alloc (.cells cs e)).heap.size∧
      (∀b,b<w.heap.size→blk v≠some b→(w.drew.alloc (.cells cs e)).heap[b]?=w.heap[b]?):=fun old cs=>⟨rfl,rfl,⟨rfl,fun _=>Nat.le_succ _⟩,by simp,fun b hb _=>Below.heap_alloc w.drew _ b hb⟩
  rcases hown.2 with ⟨rfl,rfl⟩|⟨g,cap,cur,rfl,hbg,hg,hnc,hcm,hcs,htake⟩
  · have hx:xs=[]:=List.eq_nil_of_length_eq_zero (by simpa using hown.1)
    subst hx
    by_cases hm:m=0
    · subst hm
      have hn:news=[]:=List.eq_nil_of_length_eq_zero (by simpa using hl)
      subst hn
      refine ⟨.slice none 0 0,w,?_,World.ownsRow_nil w 0 e i.size,rfl,rfl,ji.rfl,Nat.le_refl _,fun _ _ _=>rfl,fun b hb=>by cases hb⟩
      have hf0:=hf w rfl
      simp [Builtin.append_,run_underlying hu,Go.sizeOf,typeInfo,hi,Builtin.lenOf,hf0]
    · have hn0:¬(m≤0):=by omega
      have h63':¬(9223372036854775807<(m:Int)):=by omega
      have h48':¬(281474976710656<Builtin.nextslicecap m 0*i.bytes):=by rw [nextslicecap_zero (by omega)];simp only [Nat.zero_add] at hbytes;omega
      have hf1:=hf w.drew rfl
      have hr:(Builtin.append_ #[t,t] ty #[.slice none 0 0,.slice A m c]).run P w=
          .ok (.slice (some ⟨w.heap.size,0,none⟩) m (grownCap w m 0 e)) (w.drew.alloc (.cells (news.toArray++Builtin.zeroCells z.cells (grownCap w m 0 e-m)) e)):=by
        simp [Builtin.append_,run_underlying hu,Go.sizeOf,typeInfo,zeroValue,hi,hz,Builtin.lenOf,hm,h63',h48',Question.forced,run_firstCells_none,hf1,newRow,grownCap]
      have hgr:=grown 0 (by omega)
      simp only [Nat.zero_add,List.nil_append,Array.empty_append] at hgr
      obtain ⟨g1,g2,g3,g4,g5⟩:=gframe 0 (news.toArray++Builtin.zeroCells z.cells (grownCap w m 0 e-m))
      refine ⟨_,_,hr,by simpa using hgr,g1,g2,g3,g4,g5,fun b hb=>?_⟩
      cases hb
      exact .inl (Nat.le_refl _)
  · by_cases hroom:n+m≤cap
    · have hfit:n*i.size+news.length≤cur.size:=by rw [hl,hcs,←Nat.add_mul];exact Nat.mul_le_mul_right _ hroom
      have hf0:=hf w rfl
      have hst:=run_storeCells_at P g (n*i.size) e news 0 cur w hg (by simpa using hfit) h1
      simp only [Nat.add_zero] at hst
      have hr:(Builtin.append_ #[t,t] ty #[.slice (some ⟨g,0,none⟩) n cap,.slice A m c]).run P w=
          .ok (.slice (some ⟨g,0,none⟩) (n+m) cap) (w.setRow g (cur.toList.take (n*i.size)++news++cur.toList.drop (n*i.size+news.length)).toArray):=by
        simp [Builtin.append_,run_underlying hu,Go.sizeOf,typeInfo,hi,Builtin.lenOf,hroom,hf0,Addr.add_lit,hst]
      refine ⟨_,_,hr,⟨hlen,.inr ⟨g,cap,_,rfl,Nat.zero_le _,setRow_heap w g cur _ e _ hg,hroom,hcm,?_,?_⟩⟩,rfl,rfl,⟨rfl,fun _=>Nat.le_refl _⟩,by simp,fun b _ hb=>setRow_other w g b _ fun e'=>hb (by rw [e'];rfl),fun b hb=> .inr hb⟩
      · simp only [List.size_toArray,List.length_append,List.length_take,List.length_drop,Array.length_toList]
        omega
      · rw [htake,←hlen]
        exact List.take_left
    · have holds:∀j u,xs[j]?=some u→w.cell? ((⟨g,0,none⟩:Addr).add j)=some u:=hown.cells (g:=g) rfl
      have hn:¬(n+m≤cap):=by omega
      have h63':¬(9223372036854775807<((n:Int)+(m:Int))):=by omega
      have h48':¬(281474976710656<Builtin.nextslicecap (n+m) cap*i.bytes):=by have:=growslice_fits (need:=n+m) (old:=cap) (by omega) hbytes;omega
      have hf1:=hf w.drew rfl
      have hfo:=run_firstCells_some (P:=P) w.drew i.size n ⟨g,0,none⟩ n cap xs hown.1 (by simpa using holds)
      have hr:(Builtin.append_ #[t,t] ty #[.slice (some ⟨g,0,none⟩) n cap,.slice A m c]).run P w=
          .ok (.slice (some ⟨w.heap.size,0,none⟩) (n+m) (grownCap w (n+m) cap e)) (w.drew.alloc (.cells (xs.toArray++news.toArray++Builtin.zeroCells z.cells (grownCap w (n+m) cap e-(n+m))) e)):=by
        simp [Builtin.append_,run_underlying hu,Go.sizeOf,typeInfo,zeroValue,hi,hz,Builtin.lenOf,hn,h63',h48',Question.forced,hf1,hfo,newRow,grownCap]
        congr 2
        apply Array.ext'
        simp [List.append_assoc]
      obtain ⟨g1,g2,g3,g4,g5⟩:=gframe cap (xs.toArray++news.toArray++Builtin.zeroCells z.cells (grownCap w (n+m) cap e-(n+m)))
      refine ⟨_,_,hr,grown cap (by omega),g1,g2,g3,g4,g5,fun b hb=>?_⟩
      cases hb
      exact .inl (Nat.le_refl _)
theorem wx (cx:Cx) (hT:gC P cx.tab) (hN:Now P ρ ok w st a hp') {args:Array Operand} {ts:Array TypeId} (ho:o.op=.call {callee:=.builtin .append,args,argTypes:=ts}) {r:Res}
 (h:gR cx st.nx (.call {callee:=.builtin .append,args,argTypes:=ts}) (opd st.env) hp'=some r) (hb:r.c=true):fh P o a ρ ok w st r:=by
 simp only [gR] at h
 split at h<;>try (cases h;done)
 rename_i t u s x h1 h2
 split at h<;>try (cases h;done)
 rename_i htu
 have htu:=Nat.eq_of_beq_eq_true htu
 subst htu
 have e1:ts=#[t,t]:=by apply Array.ext';simpa using h1
 have e2:args=#[s,x]:=by apply Array.ext';simpa using h2
 subst e1 e2
 split at h<;>try (cases h;done)
 rename_i ca cb h3 h4
 have ha:=dc hN.E h3
 have hx:=dc hN.E h4
 unfold rP at h
 split at h<;>try (cases h;done)
 rename_i e _ _ _ _ _ hi
 split at h<;>try (cases h;done)
 rename_i kind size bytes cap zero ty hj
 split at h<;>try (cases h;done)
 rename_i ys hys
 have hu:=(hT t _ hi).sl rfl
 have hTI:=hT e _ hj
 obtain ⟨info,z,i1,i2,i3,i4,i5⟩:=hTI.info
 simp only at i2 i3 i5
 have htn:ty.n=size:=hTI.ty ty rfl
 have hpos:0<size:=hTI.pos
 have hcap:cap*bytes≤140737488355328:=hTI.cap
 have hcap':cap≤140737488355328:=hTI.cap'
 have hzs:z.cells.size=size:=by have:=hTI.zl;rw [←i5] at this;simpa using this
 have run:∀{v:Value} {w':World},(Builtin.append_ #[t,t] o.type #[a.eval s,a.eval x]).run P w=.ok v w'→(execOp a.eval o).run P w=.ok (.value v) w':=by
  intro v w' hv
  simp only [execOp,ho,resolve,Sem.run_bind,Sem.run_pure,Result.andThen_ok,invoke,builtin,List.map_toArray,List.map_cons,List.map_nil,hv]
 obtain ⟨A,c,news,g1,g2,g3⟩:=xZ hN hx hys
 have g3:∀w':World,w'.heap=w.heap→(Builtin.firstCells ty.n ys.length (a.eval x)).run P w'=.ok news.toArray w':=fun w' hw=>by
  have:=g3 ys.length (Nat.le_refl _) w' hw
  rwa [List.take_of_length_le (by rw [g2.len];exact Nat.le_refl _)] at this
 rw [htn] at g3
 have hnl:news.length=ys.length*size:=by rw [g2.len,htn]
 split at h<;>try (cases h;done)
 ·rename_i l
  split at h<;>try (cases h;done)
  rename_i f u xs hl
  split at h<;>try (cases h;done)
  rename_i xs' hxs
  cases h
  obtain ⟨rfl,rfl,hxs⟩:=ia hxs
  cases hxs
  have hle:=Nat.le_of_ble_eq_true hb
  have hl':=hN.sub _ _ hl
  obtain ⟨_,inner,h5,h6⟩:=hN.H.ob l _ hl'
  rw [htn] at h5
  have hs:a.eval s=ρ l:=ha.2.1
  obtain ⟨v',w',r1,r2,r3,r4,r5,r6,r7,r8⟩:=oZ (P:=P) (ty:=o.type) hu i1 i4 i2 i3 hzs hpos h5 g1 hnl g3 g2.one (by omega) (Nat.le_trans (Nat.mul_le_mul_right _ hle) hcap)
  rw [←hs] at r1
  have hS:gU ok ok w w':=fun b hb=>⟨hb,r7 b (hN.H.okl b hb) fun e'=>hN.H.sep l _ b hl' rfl e' hb⟩
  refine ⟨_,w',ig ρ st.nx v',ok,run r1,oS hN.H hl' rfl r3 r4 r5 r6 r7 ?_ r8,.inl ⟨v',rfl,fun q hq=>?_⟩⟩
  ·refine ⟨inner++news,?_,(h6.app g2).move hS⟩
   rw [htn]
   simpa [ig] using r2
  ·cases hq
   refine ⟨_,rfl,Nat.lt_succ_self _,by simp [ig],?_⟩
   rcases r2.2 with ⟨e',_⟩|⟨_,_,_,e',_⟩<;>rw [e']<;>rfl
 ·cases h
  have hle:=Nat.le_of_ble_eq_true hb
  have hs:a.eval s=.slice none 0 0:=ha.1
  obtain ⟨v',w',r1,r2,r3,r4,r5,r6,r7,r8⟩:=oZ (P:=P) (ty:=o.type) hu i1 i4 i2 i3 hzs hpos (World.ownsRow_nil w 0 e size) g1 hnl g3 g2.one (by omega) (Nat.le_trans (Nat.mul_le_mul_right _ (by omega)) hcap)
  rw [←hs] at r1
  have hS:gU ok ok w w':=fun b hb=>⟨hb,r7 b (hN.H.okl b hb) fun e'=>by cases e'⟩
  refine ⟨_,w',ig ρ st.nx v',ok,run r1,k8 hN.H r3 r4 r5 r6 (fun b hb=>r7 b hb fun e'=>by cases e') ?_ ?_,.inl ⟨v',rfl,fun q hq=>?_⟩⟩
  ·refine ⟨news,?_,g2.move hS⟩
   rw [htn]
   simpa [ig] using r2
  ·intro _ b hbv
   rcases r8 b hbv with h|h
   ·exact h
   ·cases h
  ·cases hq
   refine ⟨_,rfl,Nat.lt_succ_self _,by simp [ig],?_⟩
   rcases r2.2 with ⟨e',_⟩|⟨_,_,_,e',_⟩<;>rw [e']<;>rfl
theorem qd {ok:Nat→Prop} {w:World} {t:Ty} {xs:List t.T} {vs:List Value} (h:Rows ok w t xs vs) (k:Nat) (hk:k≤xs.length):Rows ok w t (xs.drop k) (vs.drop (k*t.n)):=by
 obtain ⟨css,rfl,h⟩:=h
 refine ⟨css.drop k,?_,h.drop k⟩
 induction h generalizing k with
 |nil=>simp
 |@cons a b as bs h ht ih=>
  have hl:=jh h
  cases k with
  |zero=>simp
  |succ k=>
   have hk':k≤as.length:=by simpa using hk
   have:=ih k hk'
   simp only [List.drop_succ_cons,List.flatten_cons,←this]
   rw [List.drop_append,hl,Nat.add_mul,Nat.one_mul,Nat.add_sub_cancel,List.drop_of_length_le (by omega),List.nil_append]
theorem pa {ok:Nat→Prop} {w:World} {t:Ty} {z:t.T} {vs:List Value} (h:K ok w t z vs):∀n,Rows ok w t (List.replicate n z) (List.replicate n vs).flatten
 |0=>⟨[],rfl,.nil⟩
 |n+1=>by
  have h1:Rows ok w t [z] vs:=⟨[vs],by simp,.cons h .nil⟩
  have:=h1.app (pa h n)
  simpa [List.replicate_succ] using this
theorem lK (z:Array Value):∀n,(Builtin.zeroCells z n).toList=(List.replicate n z.toList).flatten:=by
 intro n
 unfold Builtin.zeroCells
 rw [Array.toList_map,Array.toList_range]
 induction n with
 |zero=>simp
 |succ n ih=>
  rw [Nat.add_mul,Nat.one_mul,List.range_add,List.map_append,ih,List.replicate_succ',List.flatten_append,List.flatten_singleton]
  congr 1
  rw [List.map_map]
  apply List.ext_getElem
  ·simp
  ·intro i h1 h2
   have hi:i<z.size:=by simpa using h1
   simp [Nat.mul_add_mod_self_right,Nat.add_comm (n*z.size),Nat.add_mul_mod_self_right,Nat.mod_eq_of_lt hi,hi]
theorem ya (cx:Cx) (hT:gC P cx.tab) (hN:Now P ρ ok w st a hp') {args:Array Operand} {ts:Array TypeId} (ho:o.op=.call {callee:=.builtin .clear,args,argTypes:=ts}) {r:Res}
 (h:gR cx st.nx (.call {callee:=.builtin .clear,args,argTypes:=ts}) (opd st.env) hp'=some r):fh P o a ρ ok w st r:=by
 simp only [gR] at h
 split at h<;>try (cases h;done)
 rename_i t x h1 h2
 have e1:ts=#[t]:=by apply Array.ext';simpa using h1
 have e2:args=#[x]:=by apply Array.ext';simpa using h2
 subst e1 e2
 generalize hcc:eN (opd st.env x)=cc at h
 unfold u0 at h
 split at h<;>try (cases h;done)
 rename_i l n lo len
 split at h<;>try (cases h;done)
 rename_i e _ _ _ _ _ f u xs ht hl
 split at h<;>try (cases h;done)
 rename_i i hi
 split at h<;>try (cases h;done)
 rename_i hb
 split at h<;>try (cases h;done)
 rename_i z hz
 cases h
 obtain ⟨hn,hsz⟩:=Bool.and_eq_true_iff.1 hb
 have hn:=Nat.eq_of_beq_eq_true hn
 have hsz:=Nat.eq_of_beq_eq_true hsz
 subst hn
 obtain ⟨_,A,cap,hv,hlc,hx⟩:=dc hN.E hcc
 have hTI:=hT e i hi
 have hu:P.underlying t=some (.slice e):=(hT t _ ht).sl rfl
 have hl':=hN.sub _ _ hl
 have run:∀{w':World},(Builtin.clear_ #[t] o.type #[a.eval x]).run P w=.ok (.tuple #[]) w'→(execOp a.eval o).run P w=.ok (.value (.tuple #[])) w':=by
  intro w' hn
  simp only [execOp,ho,resolve,Sem.run_bind,Sem.run_pure,Result.andThen_ok,invoke,builtin,List.map_toArray,List.map_cons,List.map_nil,hn]
 have htup:∀{ρ:Nat→Value} {ok:Nat→Prop} {w:World} {nx:Nat} (s:fE),some (fE.tup [])=some s→ij ρ ok w nx s (.tuple #[]):=fun s hs=>by cases hs;exact ⟨[],rfl,.nil⟩
 by_cases h0:len=0
 ·subst h0
  have e3:xs.take lo++List.replicate 0 z++xs.drop (lo+0)=xs:=by simp
  rw [e3]
  refine ⟨_,w,ρ,ok,run (by rw [hv];cases A<;>simp [Builtin.clear_,run_underlying hu]),?_,.inl ⟨_,rfl,htup⟩⟩
  exact k9 hN.H hl' rfl rfl rfl ⟨rfl,fun _=>Nat.le_refl _⟩ rfl (fun _ _=>rfl) (hN.H.ob l _ hl').2
 ·obtain ⟨b,L,C,hρ,hA,hle⟩:=hx.resolve_left h0
  obtain ⟨_,inner,h10,h11⟩:=hN.H.ob l _ hl'
  rcases h10.2 with ⟨h12,_⟩|⟨g,cap',cur,h12,_,h13,h14,h15,h16,h17⟩
  ·rw [hρ] at h12;cases h12
  rw [hρ] at h12
  injection h12 with e2 e3 e4
  injection e2 with e2
  injection e2 with e2
  subst e2 e3
  obtain ⟨zv,hz1,hz2⟩:=lA (w:=w) hTI
  have hin:inner.length=xs.length*u.n:=h10.1
  have hK:K ok w u z i.zero:=lH hN.H (hp':=fun _=>none) (fun _ _ h=>by cases h) (fun _ h=>h) (lD hTI.z1) (fun l f v ys hm hc b hb=>by cases hm) hz
  have hzl:i.zero.length=u.n:=jh hK
  have hrep:(List.replicate len i.zero).flatten.length=len*u.n:=by simp [hzl]
  have hcs:(lo+len)*u.n≤xs.length*u.n:=Nat.mul_le_mul_right _ hle
  have hcur:xs.length*u.n≤cur.size:=by rw [h16];exact Nat.mul_le_mul_right _ h14
  have hmul:lo*u.n+len*u.n=(lo+len)*u.n:=by rw [Nat.add_mul]
  have hst:=run_storeCells_at P b (lo*u.n) f (List.replicate len i.zero).flatten 0 cur w h13 (by rw [hrep];omega) (fun v hv=>by
   obtain ⟨q,hq,hvq⟩:=List.mem_flatten.1 hv
   rw [List.eq_of_mem_replicate hq] at hvq
   exact hTI.z1 v hvq)
  rw [Nat.add_zero,hrep,hmul] at hst
  have hrun:(Builtin.clear_ #[t] o.type #[a.eval x]).run P w=.ok (.tuple #[]) (w.setRow b (cur.toList.take (lo*u.n)++(List.replicate len i.zero).flatten++cur.toList.drop ((lo+len)*u.n)).toArray):=by
   obtain ⟨m,rfl⟩:∃m,len=m+1:=⟨len-1,by omega⟩
   rw [hv,hA]
   simp only [Builtin.clear_,List.getElem?_toArray,List.getElem?_cons_zero,Sem.run_bind,run_underlying hu,Result.andThen_ok,hz1,lK,hz2]
   simp [hst]
  refine ⟨_,_,ρ,ok,run hrun,k9 hN.H hl' rfl rfl rfl ⟨rfl,fun _=>Nat.le_refl _⟩ (by simp) (fun c hc=>setRow_other w b c _ fun e'=>hc (by rw [hρ,e'];rfl)) ?_,.inl ⟨_,rfl,htup⟩⟩
  have hS:gU ok ok w (w.setRow b (cur.toList.take (lo*u.n)++(List.replicate len i.zero).flatten++cur.toList.drop ((lo+len)*u.n)).toArray):=
   fun c hc=>⟨hc,setRow_other w b c _ fun e'=>hN.H.sep l _ b hl' rfl (by rw [hρ];rfl) (e'▸hc)⟩
  have hrows:=((mc h11 lo (by omega)).app (pa hK len)).app (qd h11 (lo+len) hle)
  refine ⟨_,?_,hrows.move hS⟩
  have hxl:(xs.take lo++List.replicate len z++xs.drop (lo+len)).length=xs.length:=by simp;omega
  refine ⟨?_,.inr ⟨b,cap',_,by rw [hρ,e4,hxl],Nat.zero_le _,setRow_heap w b cur _ f _ h13,by rw [hxl];exact h14,h15,?_,?_⟩⟩
  ·rw [hrows.len]
  ·have hcl:cur.toList.length=cur.size:=by simp
   simp only [List.size_toArray,List.length_append,List.length_take,List.length_drop,hrep,hcl];omega
  ·rw [hxl,←h17]
   have hcl:cur.toList.length=cur.size:=by simp
   have hx1:xs.length*u.n=lo*u.n+len*u.n+(xs.length-(lo+len))*u.n:=by rw [←Nat.add_mul,←Nat.add_mul];congr 1;omega
   apply List.ext_getElem?
   intro k
   simp only [List.getElem?_take,List.getElem?_append,List.getElem?_drop,List.length_append,List.length_take,List.length_drop,hrep,hcl]
   repeat' split
   all_goals first|rfl|omega|(congr 1;omega)|skip
theorem pb (z:Array Value) (n s:Nat) (hs:z.size=s):(madeCells z (n*s)).toList=(List.replicate n z.toList).flatten:=by
 rw [←lK]
 subst hs
 rfl
theorem wy (cx:Cx) (hT:gC P cx.tab) (hN:Now P ρ ok w st a hp') {t:Nat} {x y:Operand} (ho:o.op=.makeSlice t x y) {r:Res} (h:gR cx st.nx (.makeSlice t x y) (opd st.env) hp'=some r) (hb:r.c=true):fh P o a ρ ok w st r:=by
 simp only [gR] at h
 unfold rQ at h
 split at h<;>try (cases h;done)
 rename_i k1 n1 k2 n2 h1 h2
 split at h<;>try (cases h;done)
 rename_i e _ _ _ _ _ ht
 split at h<;>try (cases h;done)
 rename_i kind size bytes cap zero ty hi
 split at h<;>try (cases h;done)
 rename_i yv hy
 cases h
 simp only [Bool.and_eq_true,decide_eq_true_eq] at hb
 obtain ⟨c1,rfl,c3⟩:=hb
 have c3:=Nat.le_of_ble_eq_true c3
 have hx1:a.eval x=.int k1 n1:=dc (c:=.int k1 n1) hN.E h1
 have hx2:a.eval y=.int k2 n1:=dc (c:=.int k2 n1) hN.E h2
 have hTI:=hT e _ hi
 have hu:P.underlying t=some (.slice e):=(hT t _ ht).sl rfl
 obtain ⟨info,z,i1,i2,i3,i4,i5⟩:=hTI.info
 simp only at i2 i3 i5
 have hcap:cap*bytes≤140737488355328:=hTI.cap
 have hcap':cap≤140737488355328:=hTI.cap'
 have htn:ty.n=size:=hTI.ty ty rfl
 have hK:K ok w ty yv zero:=lH hN.H (hp':=fun _=>none) (fun _ _ h=>by cases h) (fun _ h=>h) (lD hTI.z1) (fun l f v ys hm hc b hb=>by cases hm) hy
 have hzs:z.cells.size=size:=by have:=hTI.zl;rw [←i5] at this;simpa using this
 obtain ⟨n,rfl⟩:∃n:Nat,n1=n:=⟨n1.toNat,by omega⟩
 rw [Int.toNat_natCast] at c3
 have hbn:bytes*n≤140737488355328:=by
  have:=Nat.mul_le_mul_right bytes c3
  rw [Nat.mul_comm bytes n];omega
 have hrun:=run_make (P:=P) w t e info z hu i1 i4 k1 k2 n n (by omega) (by omega) (by
  rw [i3]
  have:((bytes*n:Nat):Int)≤281474976710656:=by omega
  rwa [Int.natCast_mul] at this) (by omega)
 rw [Int.toNat_natCast,i2] at hrun
 have hr:(execOp a.eval o).run P w=.ok (.value (.slice (some ⟨w.heap.size,0,none⟩) n n)) (w.alloc (.cells (madeCells z.cells (n*size)) e)):=by
  simp only [execOp,ho,hx1,hx2,Sem.run_bind,hrun,Sem.run_pure,Result.andThen_ok]
 have hcl:(madeCells z.cells (n*size)).toList=(List.replicate n zero).flatten:=by rw [pb _ _ _ hzs,i5]
 have hrows:Rows ok w ty (List.replicate n yv) (List.replicate n zero).flatten:=pa hK n
 refine ⟨_,_,ig ρ st.nx (.slice (some ⟨w.heap.size,0,none⟩) n n),ok,hr,k8 hN.H rfl rfl ⟨rfl,fun _=>Nat.le_refl _⟩ (by simp) (fun b hb=>Below.heap_alloc w _ b hb) ?_ ?_,.inl ⟨_,rfl,fun s hs=>?_⟩⟩
 ·rw [Int.toNat_natCast]
  refine ⟨(List.replicate n zero).flatten,⟨?_,.inr ⟨w.heap.size,n,madeCells z.cells (n*size),by simp [ig],Nat.zero_le _,heap_alloc_new w _,by simp,?_,?_,?_⟩⟩,hrows.move fun b hb=>⟨hb,Below.heap_alloc w _ b (hN.H.okl b hb)⟩⟩
  ·rw [hrows.len]
  ·simp only [maxLen];omega
  ·have:(madeCells z.cells (n*size)).toList.length=n*ty.n:=by rw [hcl,hrows.len,List.length_replicate]
   simpa using this
  ·rw [hcl]
   apply List.take_of_length_le
   rw [hrows.len];exact Nat.le_refl _
 ·intro _ b hbv
  cases hbv
  exact Nat.le_refl _
 ·cases hs
  exact ⟨_,rfl,Nat.lt_succ_self _,by simp [ig],rfl⟩
theorem Ca (cx:Cx) (hN:Now P ρ ok w st a hp') {args:Array Operand} {ts:Array TypeId} (ho:o.op=.call {callee:=.builtin .min,args,argTypes:=ts}) {r:Res}
 (h:gR cx st.nx (.call {callee:=.builtin .min,args,argTypes:=ts}) (opd st.env) hp'=some r):fh P o a ρ ok w st r:=by
 simp only [gR] at h
 split at h<;>try (cases h;done)
 rename_i x y h1
 have e2:args=#[x,y]:=by apply Array.ext';simpa using h1
 subst e2
 split at h<;>try (cases h;done)
 rename_i k n k' m h3 h4
 cases h
 have hx:a.eval x=.int k n:=dc (c:=.int k n) hN.E h3
 have hy:a.eval y=.int k' m:=dc (c:=.int k' m) hN.E h4
 refine fh.cell hN (v:=.int k (if m<n then m else n)) ?_ ?_
 ·simp [execOp,ho,resolve,invoke,builtin,Builtin.min_,Builtin.min2,hx,hy]
 ·show _=Value.int k _
  by_cases hlt:m<n<;>simp [hlt]
theorem Af (cx:Cx) (hT:gC P cx.tab) (hN:Now P ρ ok w st a hp') {args:Array Operand} {ts:Array TypeId} (ho:o.op=.call {callee:=.builtin .copy,args,argTypes:=ts}) {r:Res}
 (h:gR cx st.nx (.call {callee:=.builtin .copy,args,argTypes:=ts}) (opd st.env) hp'=some r):fh P o a ρ ok w st r:=by
 simp only [gR] at h
 split at h<;>try (cases h;done)
 rename_i t t' d s h1 h2
 have e1:ts=#[t,t']:=by apply Array.ext';simpa using h1
 have e2:args=#[d,s]:=by apply Array.ext';simpa using h2
 subst e1 e2
 unfold xF at h
 split at h<;>try (cases h;done)
 rename_i cd cs hcd hcs
 split at h<;>try (cases h;done)
 rename_i l n lo len has
 split at h<;>try (cases h;done)
 rename_i e _ _ _ _ _ f u xs ht hl
 split at h<;>try (cases h;done)
 rename_i i ys hi hys
 split at h<;>try (cases h;done)
 rename_i hb
 cases h
 obtain ⟨hn,hsz⟩:=Bool.and_eq_true_iff.1 hb
 have hn:=Nat.eq_of_beq_eq_true hn
 have hsz:=Nat.eq_of_beq_eq_true hsz
 subst hn
 have hl':=hN.sub _ _ hl
 obtain ⟨_,inner,h10,h11⟩:=hN.H.ob l _ hl'
 have hcd:=dc hN.E hcd
 have hdst:∃A cap,a.eval d=.slice A len cap∧(len=0∨∃b L C,ρ l=.slice (some ⟨b,0,none⟩) L C∧A=some ⟨b,lo*u.n,none⟩∧lo+len≤L):=by
  unfold BD at has
  split at has<;>try (cases has;done)
  ·cases has
   obtain ⟨_,A,cap,hv,_,hx⟩:=hcd
   exact ⟨A,cap,hv,hx⟩
  ·rename_i m
   split at has<;>try (cases has;done)
   rename_i f' u' xs' hl2
   simp only [Option.some.injEq,Prod.mk.injEq] at has
   obtain ⟨rfl,_,rfl,rfl⟩:=has
   rw [hl] at hl2
   cases hl2
   obtain ⟨_,hv,_⟩:=hcd
   rcases h10.2 with ⟨h12,h13⟩|⟨g,cap',cur,h12,_⟩
   ·exact ⟨none,0,by rw [hv,h12,h13],.inl h13⟩
   ·exact ⟨_,cap',by rw [hv,h12],.inr ⟨g,_,_,h12,by simp,by simp⟩⟩
 obtain ⟨A,cap,hv,hx⟩:=hdst
 obtain ⟨A',c,news,g1,g2,g3⟩:=xZ hN (dc hN.E hcs) hys
 have hTI:=hT e i hi
 have hu:P.underlying t=some (.slice e):=(hT t _ ht).sl rfl
 have hk:=g3 (Nat.min ys.length len) (Nat.min_le_left _ _)
 generalize hkk:Nat.min ys.length len=k at*
 have hk1:k≤ys.length:=hkk▸Nat.min_le_left _ _
 have hk2:k≤len:=hkk▸Nat.min_le_right _ _
 have run:∀{w':World},(Builtin.copy_ #[t,t'] o.type #[a.eval d,a.eval s]).run P w=.ok (goInt k) w'→(execOp a.eval o).run P w=.ok (.value (goInt k)) w':=by
  intro w' hn
  simp only [execOp,ho,resolve,Sem.run_bind,Sem.run_pure,Result.andThen_ok,invoke,builtin,List.map_toArray,List.map_cons,List.map_nil,hn]
 have hres:∀{ρ:Nat→Value} {ok:Nat→Prop} {w:World} {nx:Nat} (s:fE),some (fE.v false [.int .i64 (k:Int)])=some s→ij ρ ok w nx s (goInt k):=fun s hs=>by cases hs;exact ⟨_,rfl,rfl⟩
 have hcp:∀{w':World},(∀ad,A=some ad→(storeCells ad (news.take (k*u.n))).run P w=.ok () w')→(A=none→w'=w)→(Builtin.copy_ #[t,t'] o.type #[a.eval d,a.eval s]).run P w=.ok (goInt k) w':=by
  intro w' hn1 hn2
  rw [hv,g1]
  unfold Builtin.copy_
  have hl2:(Builtin.lenOf (.slice A' ys.length c)).run P w=.ok ys.length w:=rfl
  have hk':=hk w rfl
  rw [g1,←hsz] at hk'
  simp only [List.getElem?_toArray,List.getElem?_cons_zero,List.getElem?_cons_succ,Sem.run_bind,run_underlying hu,Result.andThen_ok,hl2,hkk,kC w hTI,hk',Sem.run_pure]
  cases A with
  |none=>rw [hn2 rfl];rfl
  |some ad=>
   have:=hn1 ad rfl
   rw [←hsz] at this
   simp only [Sem.run_bind,this,Result.andThen_ok,Sem.run_pure]
 by_cases h0:k=0
 ·subst h0
  have e3:xs.take lo++ys.take 0++xs.drop (lo+0)=xs:=by simp
  rw [e3]
  refine ⟨_,w,ρ,ok,run (hcp (fun ad _=>by simp [storeCells]) fun _=>rfl),?_,.inl ⟨_,rfl,hres⟩⟩
  ·exact k9 hN.H hl' rfl rfl rfl ⟨rfl,fun _=>Nat.le_refl _⟩ rfl (fun _ _=>rfl) (hN.H.ob l _ hl').2
 ·obtain ⟨b,L,C,hρ,hA,hle⟩:=hx.resolve_left (by omega)
  rcases h10.2 with ⟨h12,_⟩|⟨g,cap',cur,h12,_,h13,h14,h15,h16,h17⟩
  ·rw [hρ] at h12;cases h12
  rw [hρ] at h12
  injection h12 with e2 e3 e4
  injection e2 with e2
  injection e2 with e2
  subst e2 e3
  have hin:inner.length=xs.length*u.n:=h10.1
  have htk:=mc g2 k hk1
  have hrep:(news.take (k*u.n)).length=k*u.n:=by rw [htk.len,List.length_take,Nat.min_eq_left hk1]
  have hcs:(lo+k)*u.n≤xs.length*u.n:=Nat.mul_le_mul_right _ (by omega)
  have hcur:xs.length*u.n≤cur.size:=by rw [h16];exact Nat.mul_le_mul_right _ h14
  have hmul:lo*u.n+k*u.n=(lo+k)*u.n:=by rw [Nat.add_mul]
  have hst:=run_storeCells_at P b (lo*u.n) f (news.take (k*u.n)) 0 cur w h13 (by rw [hrep];omega) (fun v hv=>g2.one v (List.mem_of_mem_take hv))
  rw [Nat.add_zero,hrep,hmul] at hst
  have hcp':=hcp (w':=w.setRow b (cur.toList.take (lo*u.n)++news.take (k*u.n)++cur.toList.drop ((lo+k)*u.n)).toArray) (fun ad e=>by rw [hA] at e;cases e;exact hst) (fun e=>by rw [hA] at e;cases e)
  refine ⟨_,_,ρ,ok,run hcp',k9 hN.H hl' rfl rfl rfl ⟨rfl,fun _=>Nat.le_refl _⟩ (by simp) (fun c hc=>setRow_other w b c _ fun e'=>hc (by rw [hρ,e'];rfl)) ?_,.inl ⟨_,rfl,hres⟩⟩
  have hS:gU ok ok w (w.setRow b (cur.toList.take (lo*u.n)++news.take (k*u.n)++cur.toList.drop ((lo+k)*u.n)).toArray):=
   fun c hc=>⟨hc,setRow_other w b c _ fun e'=>hN.H.sep l _ b hl' rfl (by rw [hρ];rfl) (e'▸hc)⟩
  have hrows:=((mc h11 lo (by omega)).app htk).app (qd h11 (lo+k) (by omega))
  refine ⟨_,?_,hrows.move hS⟩
  have hxl:(xs.take lo++ys.take k++xs.drop (lo+k)).length=xs.length:=by simp;omega
  refine ⟨?_,.inr ⟨b,cap',_,by rw [hρ,e4,hxl],Nat.zero_le _,setRow_heap w b cur _ f _ h13,by rw [hxl];exact h14,h15,?_,?_⟩⟩
  ·rw [hrows.len]
  ·have hcl:cur.toList.length=cur.size:=by simp
   simp only [List.size_toArray,List.length_append,List.length_take,List.length_drop,hrep,hcl];omega
  ·rw [hxl,←h17]
   have hcl:cur.toList.length=cur.size:=by simp
   have hx1:xs.length*u.n=lo*u.n+k*u.n+(xs.length-(lo+k))*u.n:=by rw [←Nat.add_mul,←Nat.add_mul];congr 1;omega
   apply List.ext_getElem?
   intro j
   have hnl:((news.take (k*u.n))[j-lo*u.n]?)=(news.take (k*u.n))[j-lo*u.n]?:=rfl
   simp only [List.getElem?_take,List.getElem?_append,List.getElem?_drop,List.length_append,List.length_take,List.length_drop,hrep,hcl]
   repeat' split
   all_goals first|rfl|omega|(congr 1;omega)|skip
theorem yb {ρ:Nat→Value} {ok:Nat→Prop} {w:World} {nx:Nat}:∀{c:Cell} {u v:Value},dP ρ ok w nx c v→c.raw=some u→v=u
 | .int _ _,_,_,h,e=>by cases e;exact h
 | .bool _,_,_,h,e=>by cases e;exact h
 | .str _,_,_,h,e=>by cases e;exact h
 | .val _,_,_,h,e=>by cases e;exact h.1
 | .sl _ _ _,_,_,_,e=>by cases e
 | .ref _,_,_,_,e=>by cases e
 | .sub _ _ _ _,_,_,_,e=>by cases e
 | .ptr _ _,_,_,_,e=>by cases e
 | .elp _ _ _ _,_,_,_,e=>by cases e
 | .rdp _ _ _,_,_,_,e=>by cases e
 | .ifc _,_,_,_,e=>by cases e
 | .np _,_,_,_,e=>by cases e
 | .bs _ _,_,_,_,e=>by cases e
theorem ve {ρ:Nat→Value} {ok:Nat→Prop} {w:World} {nx:Nat}:∀{cs:List Cell} {vs us:List Value},All2 (dP ρ ok w nx) cs vs→xG cs=some us→vs=us
 |_,_,_,.nil,e=>by cases e;rfl
 |c::r,_,_,.cons h t,e=>by
  simp only [xG] at e
  split at e<;>try (cases e;done)
  rename_i v vs h1 h2
  cases e
  rw [yb h h1,ve t h2]
theorem Ag (hE:eH ρ ok w st.nx st.env a.tmps) {x:Operand} {v:Value} (h:rawS (opd st.env x)=some v):a.eval x=v:=by
 unfold rawS at h
 split at h<;>try (cases h;done)
 rename_i b cs hs
 split at h<;>try (cases h;done)
 rename_i vs hv
 have hx:=jf hE hs
 cases b with
 |true=>
  obtain ⟨us,e,hu⟩:=hx
  cases h
  rw [e,ve hu hv]
 |false=>
  obtain ⟨c,e,hu⟩:=hx
  subst e
  simp only [xG] at hv
  split at hv<;>try (cases hv;done)
  rename_i u us h1 h2
  cases h2
  cases hv
  cases h
  exact yb hu h1
theorem nG (cx:Cx) (hT:gC P cx.tab) (hN:Now P ρ ok w st a hp') {t:Nat} {x:Operand} (ho:o.op=.makeInterface t x) {r:Res} (h:gR cx st.nx (.makeInterface t x) (opd st.env) hp'=some r):fh P o a ρ ok w st r:=by
 simp only [gR] at h
 split at h<;>try (cases h;done)
 rename_i i v h1 h2
 split at h<;>try (cases h;done)
 rename_i hc
 cases h
 have hv:=Ag hN.E h2
 obtain ⟨info,d,z,_,h3,h4,_⟩:=(hT t i h1).ex
 refine fh.cell hN (v:=.iface t v) ?_ ⟨rfl,rfl⟩
 simp only [execOp,ho,Instr.makeInterface,Sem.run_bind,run_underlying h3,Result.andThen_ok,hv]
 cases d<;>first|(simp only [Sem.run_pure,Result.andThen_ok];done)|skip
 rename_i ms
 exfalso
 revert h4 hc
 cases i.kind<;>simp [kI,TK.conc]
theorem wz (cx:Cx) (hT:gC P cx.tab) (hN:Now P ρ ok w st a hp') {x:Operand} {xt t:Nat} (ho:o.op=.typeAssert x xt t true) {r:Res} (h:oL cx t (eN (opd st.env x))=some r):fh P o a ρ ok w st r:=by
 unfold oL at h
 split at h<;>try (cases h;done)
 rename_i i u v h1 h2
 split at h<;>try (cases h;done)
 rename_i hc
 simp only [Bool.and_eq_true] at hc
 obtain ⟨c1,c2,c3⟩:=hc
 have c2:=Nat.eq_of_beq_eq_true c2
 subst c2
 split at h<;>try (cases h;done)
 rename_i g cs hs
 cases h
 have hv:=(dc hN.E h2).1
 have hr:VR ρ ok w st.nx g cs v:=by
  have:=jf (x:=.const v) hN.E (s:=.v g cs) (by simp only [opd,c3,if_true,hs])
  exact this
 obtain ⟨info,d,z,_,h3,h4,_⟩:=(hT u i h1).ex
 refine fh.pure hN (v:=.tuple #[v,.bool true]) ?_ fun s hs=>by cases hs;exact ⟨[v,.bool true],rfl,.cons hr (.cons ⟨_,rfl,rfl⟩ .nil)⟩
 simp only [execOp,ho,hv,Instr.typeAssert,Sem.run_bind,run_underlying h3,Result.andThen_ok]
 cases d<;>first|(simp only [if_true,Sem.run_pure,Result.andThen_ok];done)|skip
 rename_i ms
 exfalso
 revert h4 c1
 cases i.kind<;>simp [kI,TK.conc]
theorem All2.symmOne {α β:Type} {R:α→β→Prop} {as:List α} {b:β} (h:All2 R as [b]):∃a,as=[a]∧R a b:=by
 cases h with
 |cons h t=>cases t;exact ⟨_,rfl,h⟩
theorem All2.snoc {α β:Type} {R:α→β→Prop} {as:List α} {bs:List β} (h:All2 R as bs) {a:α} {b:β} (k:R a b):All2 R (as++ [a]) (bs++ [b]):=h.app (.cons k .nil)
theorem tY (cx:Cx) (hT:gC P cx.tab) (hN:Now P ρ ok w st a hp') {t:Nat} (ho:o.op=.makeMap t none) {r:Res} (h:tQ cx st.nx t=some r):fh P o a ρ ok w st r:=by
 unfold tQ at h
 split at h<;>try (cases h;done)
 split at h<;>try (cases h;done)
 split at h<;>try (cases h;done)
 cases h
 have hr:(execOp a.eval o).run P w=.ok (.value (.map (some w.heap.size))) (w.alloc (.map #[] 0)):=by
  simp only [execOp,ho,Instr.makeMap,Option.map_none,Sem.run_bind,run_newObj,Result.andThen_ok,Sem.run_pure]
  rfl
 refine ⟨_,_,_,ok,hr,k8 hN.H (v:=.map (some w.heap.size)) rfl rfl ⟨rfl,fun _=>Nat.le_refl _⟩ (by simp) (fun b hb=>Below.heap_alloc w _ b hb) ?_ ?_,.inl ⟨_,rfl,fun s hs=>?_⟩⟩
 ·exact ⟨w.heap.size,#[],0,by simp [ig],heap_alloc_new w _,.nil,MapKept.stamped_empty 0⟩
 ·intro _ b hb
  cases hb
  exact Nat.le_refl _
 ·cases hs
  exact ⟨_,rfl,Nat.lt_succ_self _,by simp [ig],rfl⟩
theorem vg {b:Bool} {x y:Value} (hx:nF b x) (hy:nF b y):kEq x y=true↔x=y:=by
 cases b with
 |false=>
  obtain ⟨s,rfl⟩:=hx
  obtain ⟨u,rfl⟩:=hy
  simp only [kEq,Value.string.injEq]
  exact MapKept.bytes_beq s u
 |true=>
  obtain ⟨a,b,s,rfl⟩:=hx
  obtain ⟨c,d,u,rfl⟩:=hy
  simp only [kV,kEq,Bool.and_eq_true,beq_iff_eq,MapKept.bytes_beq]
  simp
theorem yc {b:Bool} {x:Value} (hx:nF b x):kEq x x=true:=(vg hx hx).2 rfl
theorem sf {A:Type} {q:Bool} {s:Value} (R:List MapEntry→Nat→A) (no:A) (yes:Nat→Value→A) (h0:∀i,R [] i=no) (h1:∀e es i,nF q e.key→R (e::es) i=bif kEq s e.key then yes i e.val else R es (i+1))
 {ok:Nat→Prop} {w:World} {g:Bool×Bool} {t:Ty} {kvs:List (Value×t.T)} {es:List MapEntry} (h:All2 (mY ok w g t) kvs es) (hg:g.2=q) (hs:nF q s):∀i,
 (getKV s kvs=none∧R es i=no)∨
 ∃j p e,getKV s kvs=some p.2∧R es i=yes (i+j) e.val∧kvs[j]?=some p∧es[j]?=some e∧p.1=s∧mY ok w g t p e∧∀y,fe s y kvs=kvs.set j (s,y):=by
 induction h with
 |nil=>intro i;exact .inl ⟨rfl,h0 i⟩
 |@cons p e kvs es h _ ih=>
  intro i
  obtain ⟨k,x⟩:=p
  have hk:e.key=k:=h.1.1
  have hkr:nF q k:=hg▸h.1.2
  have e1:=h1 e es i (hk▸hkr)
  rw [hk] at e1
  cases hb:kEq s k with
  |true=>
   have hks:k=s:=((vg hs hkr).1 hb).symm
   subst hks
   rw [hb,cond_true] at e1
   exact .inr ⟨0,(k,x),e,by simp [getKV,hb],by rw [e1];rfl,rfl,rfl,rfl,h,fun y=>by simp [fe,hb]⟩
  |false=>
   rw [hb,cond_false] at e1
   rw [e1]
   rcases ih (i+1) with ⟨g1,g2⟩|⟨j,p,e',g1,g2,g3,g4,g5,g6,g7⟩
   ·exact .inl ⟨by simp [getKV,hb,g1],g2⟩
   ·exact .inr ⟨j+1,p,e',by simp [getKV,hb,g1],by rw [g2,show i+1+j=i+(j+1) by omega],by simpa using g3,by simpa using g4,g5,g6,fun y=>by simp [fe,hb,g7 y]⟩
theorem vh (cx : Cx) (hT : gC P cx.tab) {kt : Nat} {q : Bool} (h : tP cx kt = some q) : (q = false ∧ P.underlying kt = some .string) ∨
    (q=true∧(∃fs,P.underlying kt=some (.struct fs)∧∃f1 f2 f3:Field,fs.toList=[f1,f2,f3]∧f1.offset=0∧f2.offset=1∧f3.offset=2∧P.plainKey f1.type=true∧P.plainKey f2.type=true∧P.plainKey f3.type=true)∧cx.eqs kt=some tVal):=by
  unfold tP at h
  split at h
  · rename_i i hi
    cases h
    exact .inl ⟨rfl,(hT kt _ hi).str rfl⟩
  · rename_i p q' r _ _ _ _ _ hi
    split at h<;>try (cases h;done)
    rename_i ty hp hq hr he
    split at h<;>try (cases h;done)
    rename_i hty
    cases h
    obtain ⟨gs,h1,h2⟩:=(hT kt _ hi).st rfl
    have hl:=lB h2
    refine .inr ⟨rfl,⟨gs,h1,?_⟩,by rw [he,Ty.b_eq hty]⟩
    obtain ⟨f1,a1,a2,a3⟩:=iD h2 0 p 0 rfl
    obtain ⟨f2,b1,b2,b3⟩:=iD h2 1 q' 1 rfl
    obtain ⟨f3,c1,c2,c3⟩:=iD h2 2 r 2 rfl
    have pl:∀{t:Nat} {k:IntKind} {j:TI},cx.tab t=some j→j.kind=.int k→P.plainKey t=true:=fun {t k j} hj hk=>by
      unfold Program.plainKey
      rw [(hT t j hj).int hk]
    refine ⟨f1,f2,f3,?_,a3,b3,c3,?_,?_,?_⟩
    · match hL:gs.toList,hl with
      | [x,y,z],_=>
        rw [hL] at a1 b1 c1
        simp at a1 b1 c1
        rw [a1,b1,c1]
    · rw [a2];exact pl hp rfl
    · rw [b2];exact pl hq rfl
    · rw [c2]
      unfold Program.plainKey
      rw [(hT r _ hr).str rfl]
  · cases h
theorem qe (cx : Cx) (hT : gC P cx.tab) {kt : Nat} {q : Bool} (h : tP cx kt = some q) {s : Value} (hs : nF q s) (em : Bool) : (Instr.checkKey em 10000 kt s).run P w = .ok () w := by
  rcases vh cx hT h with ⟨rfl,hu⟩|⟨rfl,⟨fs,hu,f1,f2,f3,hf,o1,o2,o3,p1,p2,p3⟩,_⟩
  · obtain ⟨u,rfl⟩:=hs
    exact MapKept.run_checkKey (d:=.string) (k:=.string u) hu trivial em 9999
  · obtain ⟨a,b,u,rfl⟩:=hs
    have ck:∀{t:Nat} {v:Value},P.plainKey t=true→(Instr.checkKey em 9999 t v).run P w=.ok () w:=fun {t v} hp=>by
      unfold Program.plainKey at hp
      cases hd:P.underlying t with
      |none=>simp [hd] at hp
      |some d=>cases d<;>simp [hd] at hp<;>(rw [show (9999:Nat)=9998+1 from rfl,Instr.checkKey];simp only [Sem.run_bind,run_underlying hd,Result.andThen_ok,Sem.run_pure])
    have r1:=run_part_plain w p1 (xs:=#[.int .i64 a,.int .i64 b,.string u]) (off:=0) (v:=.int .i64 a) rfl
    have r2:=run_part_plain w p2 (xs:=#[.int .i64 a,.int .i64 b,.string u]) (off:=1) (v:=.int .i64 b) rfl
    have r3:=run_part_plain w p3 (xs:=#[.int .i64 a,.int .i64 b,.string u]) (off:=2) (v:=.string u) rfl
    rw [show (10000:Nat)=9999+1 from rfl,kV,Instr.checkKey]
    simp only [Sem.run_bind,run_underlying hu,Result.andThen_ok]
    rw [←Array.forIn_toList,hf]
    have each:∀f∈ [f1,f2,f3],∃v,(part f.type #[Value.int .i64 a,.int .i64 b,.string u] f.offset).run P w=.ok v w∧(Instr.checkKey em 9999 f.type v).run P w=.ok () w:=by
      intro f hf
      simp only [List.mem_cons,List.not_mem_nil,or_false] at hf
      rcases hf with rfl|rfl|rfl
      · exact ⟨_,by rw [o1];exact r1,ck p1⟩
      · exact ⟨_,by rw [o2];exact r2,ck p2⟩
      · exact ⟨_,by rw [o3];exact r3,ck p3⟩
    clear hf
    generalize [f1,f2,f3]=L at each
    induction L with
    |nil=>simp
    |cons f L ih=>
      obtain ⟨v,h1,h2⟩:=each f (by simp)
      have ih:=ih fun y hy=>each y (by simp [hy])
      by_cases hn : f.name = "_"
      · simp only [List.forIn_cons,Sem.run_bind,hn,ne_eq,not_true_eq_false,if_false,Result.andThen_ok,Sem.run_pure]
        exact ih
      · simp only [List.forIn_cons,Sem.run_bind,hn,ne_eq,not_false_eq_true,if_true,Result.andThen_ok,h1,h2,Sem.run_pure]
        exact ih
theorem sj (cx:Cx) (hT:gC P cx.tab) (hE:qF P cx.eqs) {kt:Nat} {q:Bool} (hk:tP cx kt=some q) {g:Bool×Bool} {t:Ty} {kvs:List (Value×t.T)} {es:List MapEntry} (h:All2 (mY ok w g t) kvs es) (hg:g.2=q) {s:Value} (hs:nF q s):
 (getKV s kvs=none∧(Instr.findKey kt s es).run P w=.ok none w)∨
 ∃j p e,getKV s kvs=some p.2∧(Instr.findKey kt s es).run P w=.ok (some (j,e.val)) w∧kvs[j]?=some p∧es[j]?=some e∧p.1=s∧mY ok w g t p e∧∀y,fe s y kvs=kvs.set j (s,y):=by
 rcases vh cx hT hk with ⟨rfl,hu⟩|⟨rfl,⟨fs,hu,_⟩,he⟩
 ·obtain ⟨u,rfl⟩:=hs
  rcases sf (s:=.string u) (Instr.findNow .string (.string u)) (some none) (fun i v=>some (some (i,v))) (fun _=>rfl) (fun e es i hk=>by
   obtain ⟨k,hk⟩:=hk
   rw [Instr.findNow,hk]
   simp only [Instr.sameNow,kEq]
   cases u==k<;>rfl) h hg ⟨u,rfl⟩ 0 with ⟨g1,g2⟩|⟨j,p,e,g1,g2,g3⟩
  ·exact .inl ⟨g1,by simp only [Instr.findKey,Sem.run_bind,run_underlying hu,Result.andThen_ok,g2,Sem.run_pure]⟩
  ·refine .inr ⟨j,p,e,g1,?_,g3⟩
   simp only [Instr.findKey,Sem.run_bind,run_underlying hu,Result.andThen_ok,g2,Sem.run_pure,Nat.zero_add]
 ·rcases sf (s:=s) (fun es i=>(Instr.findAsking kt s es i).run P w) (.ok none w) (fun i v=> .ok (some (i,v)) w) (fun _=>rfl) (fun e es i hk=>by
   obtain ⟨a,b,u,rfl⟩:=hs
   obtain ⟨a',b',u',hk⟩:=hk
   have hq:=(hE kt tVal he .eql (.tmp 0) (.tmp 0) ok w (a,(b,u)) (a',(b',u')) [.int .i64 a,.int .i64 b,.string u] [.int .i64 a',.int .i64 b',.string u'] ⟨[_],[_,_],rfl,rfl,[_],[_],rfl,rfl,rfl⟩ ⟨[_],[_,_],rfl,rfl,[_],[_],rfl,rfl,rfl⟩ (.inl rfl)).2
   show (Instr.findAsking kt _ (e::es) i).run P w=_
   rw [Instr.findAsking,hk]
   have hq:(Op.equal kt (kV a b u) (kV a' b' u')).run P w=.ok (kEq (kV a b u) (kV a' b' u')) w:=hq
   simp only [Sem.run_bind,hq,Result.andThen_ok]
   cases kEq (kV a b u) (kV a' b' u')<;>rfl) h hg hs 0 with ⟨g1,g2⟩|⟨j,p,e,g1,g2,g3⟩
  ·exact .inl ⟨g1,by rw [run_findKey_eq w (by rw [hu])];exact g2⟩
  ·refine .inr ⟨j,p,e,g1,?_,g3⟩
   rw [run_findKey_eq w (by rw [hu])]
   simpa using g2
theorem pc {α:Type} (s:Value) (y:α):∀{l:List (Value×α)},getKV s l=none→fe s y l=l++ [(s,y)]
  | [],_=>rfl
  |(k,x)::r,h=>by
    unfold getKV at h
    cases hk:kEq s k with
    |true=>rw [hk] at h;cases h
    |false=>
      rw [hk,cond_false] at h
      simp [fe,hk,pc s y h]
theorem yd {ok : Nat → Prop} {w : World} {g : Bool × Bool} {t : Ty} {kvs : List (Value × t.T)} {es : List MapEntry} {s : Value} (hs : nF g.2 s) (h : All2 (mY ok w g t) kvs es) : getKV s kvs = none → ∀ x ∈ es,x.key ≠ s := by
  induction h with
  |nil=>intro _ x hx;cases hx
  |@cons p e kvs es h _ ih=>
    intro hn x hx
    obtain ⟨k,y⟩:=p
    unfold getKV at hn
    cases hk:kEq s k with
    |true=>rw [hk] at hn;cases hn
    |false=>
      rw [hk,cond_false] at hn
      rcases List.mem_cons.1 hx with rfl|hx
      · intro e'
        have:s=k:=e'.symm.trans h.1.1
        rw [←this,yc hs] at hk
        cases hk
      · exact ih hn x hx
theorem vi {q : Bool} {k : Operand} {s : Value} (hE : eH ρ ok w st.nx st.env a.tmps) (h : keyS q (opd st.env k) = some s) : a.eval k = s ∧ nF q s := by
  unfold keyS at h
  split at h
  · rename_i u hk
    cases h
    exact ⟨dc (c:=.str u) hE (by unfold eN;rw [hk]),u,rfl⟩
  · rename_i x y u hk
    cases h
    have hv:=jf hE hk
    obtain ⟨vs,e,h⟩:=hv
    cases h with
    |cons h1 h=>cases h with
      |cons h2 h=>cases h with
        |cons h3 h=>cases h;cases h1;cases h2;cases h3;exact ⟨e,x,y,u,rfl⟩
  · cases h
theorem stays {q:Bool} {s:Value} (hs:nF q s):(Instr.keyThatStays s s).run P w=.ok s w:=by
 unfold Instr.keyThatStays
 have:Instr.sameBits 10000 s s=true:=by
  cases q with
  |false=>obtain ⟨u,rfl⟩:=hs;exact (MapKept.bytes_beq _ _).2 rfl
  |true=>
   obtain ⟨a,b,u,rfl⟩:=hs
   have:=(MapKept.bytes_beq u u).2 rfl
   simp [kV,Instr.sameBits,this]
 rw [if_pos this]
 rfl
theorem All2.set {α β:Type} {R:α→β→Prop}:∀{as:List α} {bs:List β},All2 R as bs→∀(j:Nat) {a:α} {b:β},R a b→All2 R (as.set j a) (bs.set j b)
 |_,_,.nil,j,a,b,_=>by simp;exact .nil
 |_,_,.cons h t,0,a,b,k=> .cons k t
 |_,_,.cons h t,j+1,a,b,k=> .cons h (All2.set t j k)
theorem qf (cx : Cx) (hT : gC P cx.tab) (hEq : qF P cx.eqs) (hN : Now P ρ ok w st a hp') {t : Nat} {m k x : Operand} (ho : o.op = .insert t m k x ∨ o.op = .mapUpdate t m k x) {r : Res} (h : mU cx hp' t (eN (opd st.env m)) (opd st.env k) (opd st.env x) = some r) : fh P o a ρ ok w st r := by
  unfold mU at h
  split at h<;>try (cases h;done)
  rename_i kt e _ _ _ _ _ l ga cs ht hm hx
  split at h<;>try (cases h;done)
  rename_i q g u kvs hkt hl
  split at h<;>try (cases h;done)
  rename_i hb
  obtain ⟨hg,hb⟩:=Bool.and_eq_true_iff.1 hb
  obtain ⟨hq,hnm⟩:=Bool.and_eq_true_iff.1 hb
  have hg:ga=g.1:=eq_of_beq hg
  have hq:g.2=q:=(eq_of_beq hq).symm
  subst hg
  have hnm:l∉names (ja hp' cs):=fun hm=>by rw [iK.2 hm] at hnm;cases hnm
  split at h<;>try (cases h;done)
  rename_i s y hs hy
  cases h
  obtain ⟨h1,h2,h3⟩:=dc (c:=.ref l) hN.E hm
  obtain ⟨hs,hsk⟩:=vi hN.E hs
  have hsg:nF g.2 s:=hq▸hsk
  have hv:VR ρ ok w st.nx g.1 cs (a.eval x):=jf hN.E hx
  have hu:=(hT t _ ht).map rfl
  have hl':=hN.sub _ _ hl
  have hF:fi st.hp (ja hp' cs):=(kH hp' cs).sub hN.sub
  have e1:=mb hN.H hF
  -- the value,as data
  obtain ⟨vs,hvs,hev⟩:∃vs,All2 (dP ρ ok w st.nx) cs vs∧(match g.1 with|true=>a.eval x=.agg vs.toArray|false=>vs=[a.eval x]):=by
    cases hg1:g.1 with
    |true=>rw [hg1] at hv;obtain ⟨vs,e',h'⟩:=hv;exact ⟨vs,h',e'⟩
    |false=>rw [hg1] at hv;obtain ⟨c,e',h'⟩:=hv;subst e';exact ⟨[a.eval x],.cons h' .nil,rfl⟩
  have hK:K (gZ ok ρ (names (ja hp' cs))) w u y vs:=lH hN.H hN.sub (fun b hb=> .inl hb) hvs (fun m f v ys hm' hc b hb=> .inr ⟨m,lG hp' cs m f v ys hm' hc,hb⟩) hy
  have hl1:ups st.hp (ja hp' cs) l=some (.mp g u kvs):=by
    rcases ie hF l with ⟨hm',_⟩|⟨_,h10⟩
    · exact absurd hm' hnm
    · rw [h10];exact hl'
  obtain ⟨_,rr,es,clock,g1,g2,g3,gS⟩:=e1.1.ob l _ hl1
  have hrun:∀(es':Array MapEntry) (c':Nat),(Instr.mapUpdate t (.map (some rr)) s (a.eval x)).run P w=.ok () {w with heap:=w.heap.setIfInBounds rr (.map es' c')}→
      (execOp a.eval o).run P w=.ok .skip {w with heap:=w.heap.setIfInBounds rr (.map es' c')}:=by
    intro es' c' hm'
    rcases ho with ho|ho<;>simp only [execOp,ho,h2,g1,hs,Sem.run_bind,hm',Result.andThen_ok,Sem.run_pure]
  have hS:∀ob,gU (gZ ok ρ (names (ja hp' cs))) (gZ ok ρ (names (ja hp' cs))) w {w with heap:=w.heap.setIfInBounds rr ob}:=
    fun ob c hc=>⟨hc,by
      have:rr≠c:=fun e'=>e1.1.sep l _ c hl1 rfl (by rw [g1,e'];rfl) hc
      simp [Array.getElem?_setIfInBounds_ne this]⟩
  have fin:∀(es':Array MapEntry) (c':Nat),(Instr.mapUpdate t (.map (some rr)) s (a.eval x)).run P w=.ok () {w with heap:=w.heap.setIfInBounds rr (.map es' c')}→
      All2 (mY (gZ ok ρ (names (ja hp' cs))) w g u) (fe s y kvs) es'.toList→MapKept.Stamped es' c'→fh P o a ρ ok w st ⟨true,none,ja hp' cs++ [(l,some (.mp g u (fe s y kvs)))],0⟩:=by
    intro es' c' hm' hes hst
    refine ⟨_,_,ρ,_,hrun es' c' hm',e1.trans (m:=0) (k9 e1.1 hl1 rfl rfl rfl ⟨rfl,fun _=>Nat.le_refl _⟩ (by simp) (fun c hc=>?_) ?_),.inr ⟨rfl,rfl⟩⟩
    · have:rr≠c:=fun e'=>hc (by rw [g1,e'];rfl)
      simp [Array.getElem?_setIfInBounds_ne this]
    · refine ⟨rr,es',c',g1,?_,hes.imp fun _ _=>mY.move (hS _),hst⟩
      have:=(Array.getElem?_eq_some_iff.1 g2).1
      simp [this]
  have hchk:=fun em=>qe (w:=w) cx hT hkt hsk em
  rcases sj cx hT hEq hkt g3 hq hsk with ⟨k1,k2⟩|⟨j,p,e',k1,k2,k3,k4,k5,k6,k7⟩
  · refine fin (es.push {key:=s,val:=a.eval x,born:=clock}) (clock+1) ?_ ?_ (MapKept.stamped_push gS (yd hsg g3 k1))
    · unfold Instr.mapUpdate
      simp only [Sem.run_bind,run_underlying hu,Result.andThen_ok,MapKept.run_getObj_map g2,hchk false,k2,Sem.run_pure,MapKept.run_setObj_map _ g2]
    · rw [pc s y k1,Array.toList_push]
      exact g3.snoc ⟨⟨rfl,hsg⟩,vs,hK,by cases hg1:g.1<;>rw [hg1] at hev<;>exact hev⟩
  · have hj:j<es.size:=by
      have:=(List.getElem?_eq_some_iff.1 k4).1
      simpa using this
    have hkey:e'.key=s:=by rw [k6.1.1,k5]
    have hesj:es[j]?=some e':=by simpa using k4
    have hstay:=stays (P:=P) (w:=w) hsk
    refine fin (es.modify j fun e=>{e with key:=s,val:=a.eval x}) clock ?_ ?_ (MapKept.stamped_modify gS j _ (fun _ _=>rfl) (fun e _ he=>by rw [hesj] at he;cases he;exact hkey.symm))
    · unfold Instr.mapUpdate
      have hk':(Option.map (fun x=>x.key) es[j]?).getD s=s:=by rw [hesj];simp [hkey]
      simp only [Sem.run_bind,run_underlying hu,Result.andThen_ok,MapKept.run_getObj_map g2,hchk false,k2,Sem.run_pure,hk',hstay,MapKept.run_setObj_map _ g2]
    · rw [k7 y]
      have:(es.modify j fun e=>{e with key:=s,val:=a.eval x}).toList=es.toList.set j {e' with key:=s,val:=a.eval x}:=by
        rw [Array.toList_modify]
        apply List.ext_getElem?
        intro n
        rw [List.getElem?_modify,List.getElem?_set]
        by_cases hn:j=n
        · subst hn
          rw [if_pos rfl,k4]
          simp [hj]
        · rw [if_neg hn]
          cases hq:es.toList[n]?<;>simp [hn]
      rw [this]
      exact All2.set g3 j ⟨⟨rfl,hsg⟩,vs,hK,by cases hg1:g.1<;>rw [hg1] at hev<;>exact hev⟩
theorem wA (cx : Cx) (hT : gC P cx.tab) (hEq : qF P cx.eqs) (hN : Now P ρ ok w st a hp') {t : Nat} {m k : Operand} {two : Bool} (ho : o.op = .lookup t m k two) {r : Res} (h : oK cx hp' t (eN (opd st.env m)) (opd st.env k) two = some r) : fh P o a ρ ok w st r := by
  unfold oK at h
  split at h<;>try (cases h;done)
  rename_i kt e _ _ _ _ _ l ht hm
  split at h<;>try (cases h;done)
  rename_i q i g u kvs hkt hi hl
  split at h<;>try (cases h;done)
  rename_i hb
  obtain ⟨hb,hq⟩:=Bool.and_eq_true_iff.1 hb
  have hb:g.1=i.agg:=eq_of_beq hb
  have hq:g.2=q:=(eq_of_beq hq).symm
  split at h<;>try (cases h;done)
  rename_i s z hs hz
  cases h
  obtain ⟨h1,h2,h3⟩:=dc (c:=.ref l) hN.E hm
  obtain ⟨hs,hsk⟩:=vi hN.E hs
  have hu:=(hT t _ ht).map rfl
  have hTI:=hT e i hi
  obtain ⟨_,rr,es,clock,g1,g2,g3,_⟩:=hN.H.ob l _ (hN.sub _ _ hl)
  obtain ⟨zv,z1,z2,z3⟩:=ws w hTI
  have hKz:K ok w u z i.zero:=lH hN.H (hp':=fun _=>none) (fun _ _ h=>by cases h) (fun _ h=>h) (lD hTI.z1) (fun l f v ys hl=>by cases hl) hz
  have hVz:VR ρ ok w st.nx g.1 (u.ex z) zv:=by
    rw [hb,←z3]
    cases zv with
    |agg cs=>
      refine ⟨i.zero,?_,lF hKz⟩
      have:cs.toList=i.zero:=z2
      rw [←this]
    |_=>
      have z2:[_]=i.zero:=z2
      rw [←z2] at hKz
      obtain ⟨c,hc,hc2⟩:=(lF (ρ:=ρ) (nx:=st.nx) hKz).symmOne
      exact ⟨c,hc,hc2⟩
  have hrun:∀(v:Value) (ok':Bool),(Instr.lookup t (.map (some rr)) s two).run P w=.ok (if two then .tuple #[v,.bool ok'] else v) w→
      (execOp a.eval o).run P w=.ok (.value (if two then .tuple #[v,.bool ok'] else v)) w:=by
    intro v ok' hl
    simp only [execOp,ho,h2,g1,hs,Sem.run_bind,hl,Result.andThen_ok,Sem.run_pure]
  have hchk:=fun em=>qe (w:=w) cx hT hkt hsk em
  have fin:∀(v:Value) (y:u.T) (ok':Bool),(Instr.lookup t (.map (some rr)) s two).run P w=.ok (if two then .tuple #[v,.bool ok'] else v) w→VR ρ ok w st.nx g.1 (u.ex y) v→(getKV s kvs).getD z=y→(getKV s kvs).isSome=ok'→
      fh P o a ρ ok w st ⟨true,some (match two with|true=> .tup [(g.1,u.ex ((getKV s kvs).getD z)),(false,[.bool (getKV s kvs).isSome])]|false=> .v g.1 (u.ex ((getKV s kvs).getD z))),[],0⟩:=by
    intro v y ok' hl hvr e1 e2
    refine fh.pure hN (hrun v ok' hl) fun x hx=>?_
    rw [e1,e2] at hx
    cases two with
    |true=>cases hx;exact ⟨[v,.bool ok'],rfl,.cons hvr (.cons ⟨_,rfl,rfl⟩ .nil)⟩
    |false=>cases hx;exact hvr
  rcases sj cx hT hEq hkt g3 hq hsk with ⟨k1,k2⟩|⟨j,p,e',k1,k2,k3,k4,k5,k6,k7⟩
  · refine (fun h=>by cases two<;>exact h) (fin zv z false ?_ hVz (by rw [k1];rfl) (by rw [k1];rfl))
    unfold Instr.lookup
    simp only [Sem.run_bind,run_underlying hu,Result.andThen_ok,MapKept.run_getObj_map g2,Sem.run_pure,hchk es.isEmpty,k2,z1]
  · refine (fun h=>by cases two<;>exact h) (fin e'.val p.2 true ?_ ?_ (by rw [k1];rfl) (by rw [k1];rfl))
    · unfold Instr.lookup
      simp only [Sem.run_bind,run_underlying hu,Result.andThen_ok,MapKept.run_getObj_map g2,Sem.run_pure,hchk es.isEmpty,k2]
    · obtain ⟨_,cs,hK,hm'⟩:=k6
      cases hg1:g.1 with
      |true=>rw [hg1] at hm';exact ⟨cs,hm',lF hK⟩
      |false=>
        rw [hg1] at hm'
        have hm':cs=[e'.val]:=hm'
        subst hm'
        obtain ⟨c,hc,hc2⟩:=(lF (ρ:=ρ) (nx:=st.nx) hK).symmOne
        exact ⟨c,hc,hc2⟩
theorem vj (cx:Cx) (hT:gC P cx.tab) (hE:qF P cx.eqs) (hN:Now P ρ ok w st a hp') {r:Res} (h:gR cx st.nx o.op (opd st.env) hp'=some r) (hb:r.c=true):fh P o a ρ ok w st r:=by
 cases ho:o.op with
 |move x=>rw [ho] at h;exact vc cx hN (.inl ho) h
 |assign x=>rw [ho] at h;exact vc cx hN (.inr ho) h
 |pick c x y=>rw [ho] at h;exact Ab cx hN ho h
 |alloc e=>rw [ho] at h;exact xR cx hT hN ho h
 |box e x=>rw [ho] at h;exact B8 cx hT hN ho h
 |build t parts=>rw [ho] at h;exact xV cx hT hN ho h
 |buildSlice t len parts=>rw [ho] at h;exact pK cx hT hN ho h
 |load t x=>rw [ho] at h;exact Aa cx hT hN ho h
 |store t x y=>rw [ho] at h;exact xQ cx hT hN ho h
 |nilCheck x=>rw [ho] at h;exact rZ cx hN ho h
 |binOp op t x y u=>rw [ho] at h;exact xU cx hT hE hN ho h hb
 |unOp op t x=>rw [ho] at h;exact Ac cx hN ho h
 |convert s d x=>rw [ho] at h;exact tV cx hT hN ho h
 |makeFunc fn first caps=>
  rw [ho] at h
  cases fn with
  |func f=>exact se cx hN ho h
  |_=>cases h
 |slice t x lo hi mx=>
  rw [ho] at h
  cases mx with
  |none=>exact xX cx hT hN ho h hb
  |some m=>cases h
 |fieldAddr s x f=>rw [ho] at h;exact qE cx hT hN ho h
 |field t x f=>rw [ho] at h;exact xW cx hT hN ho h
 |indexAddr t x y=>rw [ho] at h;exact qH cx hT hN ho h hb
 |index t x y=>rw [ho] at h;exact xS cx hT hN ho h hb
 |extract x n=>rw [ho] at h;exact tW cx hN ho h
 |makeInterface t x=>rw [ho] at h;exact nG cx hT hN ho h
 |typeAssert x xt t two=>
  rw [ho] at h
  cases two with
  |true=>exact wz cx hT hN ho h
  |false=>cases h
 |makeMap t res=>
  rw [ho] at h
  cases res with
  |none=>exact tY cx hT hN ho h
  |some x=>cases h
 |insert t m k x=>rw [ho] at h;exact qf cx hT hE hN (.inl ho) h
 |mapUpdate t m k x=>rw [ho] at h;exact qf cx hT hE hN (.inr ho) h
 |lookup t m k two=>rw [ho] at h;exact wA cx hT hE hN ho h
 |makeSlice t x y=>rw [ho] at h;exact wy cx hT hN ho h hb
 |call c=>
  rw [ho] at h
  obtain ⟨callee,args,ts⟩:=c
  cases callee with
  |builtin b=>
   cases b with
   |len=>exact B9 cx hT hN ho h
   |append=>exact wx cx hT hN ho h hb
   |clear=>exact ya cx hT hN ho h
   |copy=>exact Af cx hT hN ho h
   |min=>exact Ca cx hN ho h
   |_=>cases h
  |_=>cases h
 |_=>rw [ho] at h;cases h
end
end Lv
end
section
namespace Lv
variable [gG]
open Go Go.RowKit
section
variable {ρ:Nat→Value} {ok:Nat→Prop} {w:World} {hp:cT} {nx:Nat}
def reρ (ρ:Nat→Value) (nx0:Nat) (ren:Ren):Nat→Value:=fun q=>if q<nx0 then ρ q else match ren (q-nx0) with|some m=>ρ m|none=> .slice none 0 0
def j8 (f:Nat→Nat) (nx0 nn:Nat) (ren:Ren):Prop:=∀l,l<nn→f l=nx0+l∨(ren l=some (f l)∧f l<nx0)
theorem j8.lt {f nx0 nn ren} (h:j8 f nx0 nn ren) {l:Nat} (hl:l<nn):f l<nx0+nn:=by rcases h l hl with h|h<;>omega
theorem j8.at {f nx0 nn ren} (h:j8 f nx0 nn ren) {l:Nat} (hl:l<nn):reρ ρ nx0 ren (f l)=match ren l with|some m=>ρ m|none=> .slice none 0 0:=by
 unfold reρ
 rcases h l hl with e|⟨e1,e2⟩
 ·rw [if_neg (by omega),e,Nat.add_sub_cancel_left]
 ·rw [if_pos e2,e1]
theorem tZ {k:IntKind} {c d:List Cell} {i:Int} (h:xv k c=some (i,d)):c=.int k i::d:=by
 unfold xv at h
 split at h<;>try (cases h;done)
 split at h<;>try (cases h;done)
 rename_i hk
 cases h
 rw [pX hk]
theorem sk {c d:List Cell} {i:Bool} (h:tN c=some (i,d)):c=.bool i::d:=by
 unfold tN at h
 split at h<;>try (cases h;done)
 cases h;rfl
theorem ua {c d:List Cell} {i:ByteArray} (h:xw c=some (i,d)):c=.str i::d:=by
 unfold xw at h
 split at h<;>try (cases h;done)
 cases h;rfl
theorem ub {c d:List Cell} {i:Value} (h:xx c=some (i,d)):∃x,c=x::d∧x.raw=some i:=by
 unfold xx at h
 split at h<;>try (cases h;done)
 split at h<;>try (cases h;done)
 rename_i hr
 cases h
 exact ⟨_,rfl,hr⟩
theorem wB {e:Nat} {t:Ty} {c d:List Cell} {i:List t.T} (h:hdSl hp e t c=some (i,d)):∃x,c=x::d∧mQ e t hp x=some i:=by
 unfold hdSl at h
 split at h<;>try (cases h;done)
 split at h<;>try (cases h;done)
 rename_i hr
 cases h
 exact ⟨_,rfl,hr⟩
theorem wC {f:Nat} {c d:List Cell} (h:hdFn f c=some d):c=.val (.func (.func f) #[] #[])::d:=by
 unfold hdFn at h
 split at h<;>try (cases h;done)
 split at h<;>try (cases h;done)
 rename_i hk
 cases h
 rw [Nat.eq_of_beq_eq_true hk]
theorem uc {ren:Ren} {l:Nat} {c d:List Cell} (h:xy ren l c=some d):(∃m,c=.ref m::d∧ren l=some m)∨(c=.val (.slice none 0 0)::d∧ren l=none):=by
 unfold xy at h
 split at h<;>try (cases h;done)
 ·split at h<;>try (cases h;done)
  rename_i hr
  split at h<;>try (cases h;done)
  rename_i hk
  cases h
  exact .inl ⟨_,rfl,by rw [hr,Nat.eq_of_beq_eq_true hk]⟩
 ·split at h<;>try (cases h;done)
  rename_i hr
  cases h
  exact .inr ⟨rfl,hr⟩
theorem ud {ren:Ren} {l o:Nat} {c d:List Cell} (h:xz ren l o c=some d):∃m,c=.ptr m o::d∧ren l=some m:=by
 unfold xz at h
 split at h<;>try (cases h;done)
 split at h<;>try (cases h;done)
 rename_i hr
 split at h<;>try (cases h;done)
 rename_i hk
 cases h
 have:=Bool.and_eq_true_iff.1 hk
 exact ⟨_,by rw [Nat.eq_of_beq_eq_true this.2],by rw [hr,Nat.eq_of_beq_eq_true this.1]⟩
theorem ue {ρ:Nat→Value} {ok:Nat→Prop} {w:World} {nx:Nat} {c d:List Cell} {b:Bool} (h:xA c=some (b,d)):∃x,c=x::d∧∀v,dP ρ ok w nx x v→dP ρ ok w nx (.ifc b) v:=by
 unfold xA at h
 split at h<;>try (cases h;done)
 ·cases h;exact ⟨_,rfl,fun v hv=>hv⟩
 ·cases h;exact ⟨_,rfl,fun v hv=> .inl ⟨rfl,hv.1⟩⟩
 ·cases h;exact ⟨_,rfl,fun v hv=> .inr ⟨rfl,_,_,hv.1⟩⟩
theorem wF {ρ:Nat→Value} {ok:Nat→Prop} {w:World} {nx:Nat} {ren:Ren} {l:Nat} {c d:List Cell} (h:hdNp ren l c=some d):
 ∃x m,c=x::d∧ren l=some m∧∀v,dP ρ ok w nx x v→v=.pointer none∨∃b,ρ m=.pointer (some ⟨b,0,none⟩)∧v=.pointer (some ⟨b,0,none⟩):=by
 unfold hdNp at h
 split at h<;>try (cases h;done)
 ·split at h<;>try (cases h;done)
  rename_i hr
  split at h<;>try (cases h;done)
  rename_i hk
  cases h
  have:=Nat.eq_of_beq_eq_true hk
  subst this
  exact ⟨_,_,rfl,hr,fun v hv=>hv.2⟩
 ·split at h<;>try (cases h;done)
  rename_i hr
  split at h<;>try (cases h;done)
  rename_i hk
  cases h
  have:=Nat.eq_of_beq_eq_true hk
  subst this
  exact ⟨_,_,rfl,hr,fun v hv=> .inr hv.2⟩
 ·split at h<;>try (cases h;done)
  rename_i hr
  cases h
  exact ⟨_,_,rfl,hr,fun v hv=> .inl hv.1⟩
theorem jx (hH : ew ρ ok w hp nx) {ok' : Nat → Prop} (hm : ∀ b,ok b → ok' b) {ren : Ren} {f : Nat → Nat} {nx0 nn : Nat} (hf : j8 f nx0 nn ren) :
    ∀ {τ : Type} (cs : List CSh) (ds : List Cell) (vs : List Value) (q : Option τ) (y : TL cs τ),All2 (dP ρ ok w nx) ds vs → jM nn cs = true →
      (∀p∈qz hp cs ds,∀b,blk (ρ p.1)=some b→ok' b)→toC hp ren cs ds q=some y→
      q=some (ofC f cs y).2∧All2 (dP (reρ ρ nx0 ren) ok' w (nx0+nn)) (ofC f cs y).1 vs
  |τ,[],ds,vs,q,y,hd,_,_,h=>by
    simp only [toC] at h
    split at h<;>try (cases h;done)
    rename_i hn
    cases ds with
    |nil=>cases hd;exact ⟨h,.nil⟩
    |cons _ _=>cases hn
  |τ,.int k::r,ds,vs,q,y,hd,hb,hz,h=>by
    simp only [toC] at h
    split at h<;>try (cases h;done)
    rename_i i d hi
    obtain rfl:=tZ hi
    split at h<;>try (cases h;done)
    rename_i z hq
    cases h
    cases hd with
    |cons hv ht=>
      obtain ⟨h1,h2⟩:=jx hH hm hf r d _ q z ht hb (fun p hp=>hz p hp) hq
      exact ⟨h1,.cons hv h2⟩
  |τ,.bool::r,ds,vs,q,y,hd,hb,hz,h=>by
    simp only [toC] at h
    split at h<;>try (cases h;done)
    rename_i i d hi
    obtain rfl:=sk hi
    split at h<;>try (cases h;done)
    rename_i z hq
    cases h
    cases hd with
    |cons hv ht=>
      obtain ⟨h1,h2⟩:=jx hH hm hf r d _ q z ht hb (fun p hp=>hz p hp) hq
      exact ⟨h1,.cons hv h2⟩
  |τ,.str::r,ds,vs,q,y,hd,hb,hz,h=>by
    simp only [toC] at h
    split at h<;>try (cases h;done)
    rename_i i d hi
    obtain rfl:=ua hi
    split at h<;>try (cases h;done)
    rename_i z hq
    cases h
    cases hd with
    |cons hv ht=>
      obtain ⟨h1,h2⟩:=jx hH hm hf r d _ q z ht hb (fun p hp=>hz p hp) hq
      exact ⟨h1,.cons hv h2⟩
  |τ,.val::r,ds,vs,q,y,hd,hb,hz,h=>by
    simp only [toC] at h
    split at h<;>try (cases h;done)
    rename_i i d hi
    obtain ⟨x,rfl,hx⟩:=ub hi
    split at h<;>try (cases h;done)
    rename_i z hq
    cases h
    cases hd with
    |cons hv ht=>
      obtain ⟨h1,h2⟩:=jx hH hm hf r d _ q z ht hb (fun p hp=>hz p hp) hq
      exact ⟨h1,.cons (xO hv hx) h2⟩
  |τ,.sl e t::r,ds,vs,q,y,hd,hb,hz,h=>by
    simp only [toC] at h
    split at h<;>try (cases h;done)
    rename_i i d hi
    obtain ⟨x,rfl,hx⟩:=wB hi
    split at h<;>try (cases h;done)
    rename_i z hq
    cases h
    cases hd with
    |cons hv ht=>
      have hz1:∀p∈ja hp [x],∀b,blk (ρ p.1)=some b→ok' b:=fun p hp=>hz p (List.mem_append_left _ hp)
      obtain ⟨h1,h2⟩:=jx hH hm hf r d _ q z ht hb (fun p hp=>hz p (List.mem_append_right _ hp)) hq
      refine ⟨h1,.cons ?_ h2⟩
      exact qD hH (fun _ _ h=>h) hm hv (fun l g u ys hl hc b hbl=>by
        have:l∈names (ja hp [x]):=lG hp [x] l g u ys hl (hc.imp (fun e=>by simp [e]) fun ⟨n,lo,len,e⟩=>⟨n,lo,len,by simp [e]⟩)
        obtain ⟨p,hp1,hp2⟩:=List.mem_map.1 this
        exact hz1 p hp1 b (by rw [hp2];exact hbl)) hx
  |τ,.fn g::r,ds,vs,q,y,hd,hb,hz,h=>by
    simp only [toC] at h
    split at h<;>try (cases h;done)
    rename_i d hi
    obtain rfl:=wC hi
    cases hd with
    |cons hv ht=>
      obtain ⟨h1,h2⟩:=jx hH hm hf r d _ q y ht hb (fun p hp=>hz p hp) h
      exact ⟨h1,.cons hv h2⟩
  |τ,.ref l::r,ds,vs,q,y,hd,hb,hz,h=>by
    simp only [toC] at h
    split at h<;>try (cases h;done)
    rename_i d hi
    obtain ⟨hb1,hb2⟩:=Bool.and_eq_true_iff.1 hb
    have hl:l<nn:=Nat.le_of_ble_eq_true hb1
    rcases uc hi with ⟨m,rfl,hr⟩|⟨rfl,hr⟩
    · cases hd with
      |cons hv ht=>
        obtain ⟨h1,h2⟩:=jx hH hm hf r d _ q y ht hb2 (fun p hp=>hz p hp) h
        refine ⟨h1,.cons ⟨hf.lt hl,?_,hv.2.2⟩ h2⟩
        rw [hf.at hl,hr];exact hv.2.1
    · cases hd with
      |cons hv ht=>
        obtain ⟨h1,h2⟩:=jx hH hm hf r d _ q y ht hb2 (fun p hp=>hz p hp) h
        refine ⟨h1,.cons ⟨hf.lt hl,?_,by rw [hv.1];rfl⟩ h2⟩
        rw [hf.at hl,hr];exact hv.1
  |τ,.ptr l o::r,ds,vs,q,y,hd,hb,hz,h=>by
    simp only [toC] at h
    split at h<;>try (cases h;done)
    rename_i d hi
    obtain ⟨hb1,hb2⟩:=Bool.and_eq_true_iff.1 hb
    have hl:l<nn:=Nat.le_of_ble_eq_true hb1
    obtain ⟨m,rfl,hr⟩:=ud hi
    cases hd with
    |cons hv ht=>
      obtain ⟨h1,h2⟩:=jx hH hm hf r d _ q y ht hb2 (fun p hp=>hz p hp) h
      obtain ⟨_,b,e1,e2⟩:=hv
      refine ⟨h1,.cons ⟨hf.lt hl,b,?_,e2⟩ h2⟩
      rw [hf.at hl,hr];exact e1
  |τ,.ifc::r,ds,vs,q,y,hd,hb,hz,h=>by
    simp only [toC] at h
    split at h<;>try (cases h;done)
    rename_i i d hi
    split at h<;>try (cases h;done)
    rename_i z hq
    cases h
    obtain ⟨x,rfl,hx⟩:=ue (ρ:=ρ) (ok:=ok) (w:=w) (nx:=nx) hi
    cases hd with
    |cons hv ht=>
      obtain ⟨h1,h2⟩:=jx hH hm hf r d _ q z ht hb (fun p hp=>hz p (by cases x<;>exact hp)) hq
      exact ⟨h1,.cons (hx _ hv) h2⟩
  |τ,.np l::r,ds,vs,q,y,hd,hb,hz,h=>by
    simp only [toC] at h
    split at h<;>try (cases h;done)
    rename_i d hi
    obtain ⟨hb1,hb2⟩:=Bool.and_eq_true_iff.1 hb
    have hl:l<nn:=Nat.le_of_ble_eq_true hb1
    obtain ⟨x,m,rfl,hr,hx⟩:=wF (ρ:=ρ) (ok:=ok) (w:=w) (nx:=nx) hi
    cases hd with
    |cons hv ht=>
      obtain ⟨h1,h2⟩:=jx hH hm hf r d _ q y ht hb2 (fun p hp=>hz p hp) h
      refine ⟨h1,.cons ⟨hf.lt hl,(hx _ hv).imp (fun h=>h) fun ⟨b,e1,e2⟩=>⟨b,?_,e2⟩⟩ h2⟩
      rw [hf.at hl,hr];exact e1
theorem vk (hH : ew ρ ok w hp nx) {ok' : Nat → Prop} (hm : ∀ b,ok b → ok' b) {ren : Ren} {f : Nat → Nat} {nx0 nn : Nat} (hf : j8 f nx0 nn ren) :
    ∀ {τ : Type} (cs : List (Bool × List CSh)) (ds : List (Bool × List Cell)) (vs : List Value) (q : Option τ) (y : TLs cs τ),All2 (fun (p : Bool × List Cell) u => VR ρ ok w nx p.1 p.2 u) ds vs → nA nn cs = true →
      (∀p∈rL hp cs ds,∀b,blk (ρ p.1)=some b→ok' b)→xB hp ren cs ds q=some y→
      q=some (mr f cs y).2∧All2 (fun (p:Bool×List Cell) u=>VR (reρ ρ nx0 ren) ok' w (nx0+nn) p.1 p.2 u) (mr f cs y).1 vs
  |τ,[],ds,vs,q,y,hd,_,_,h=>by
    cases ds with
    |nil=>cases hd;exact ⟨h,.nil⟩
    |cons _ _=>cases h
  |τ,(g,cs)::r,ds,vs,q,y,hd,hb,hz,h=>by
    cases ds with
    |nil=>cases h
    |cons d dr=>
      obtain ⟨g',es⟩:=d
      simp only [xB] at h
      split at h<;>try (cases h;done)
      rename_i hg
      have hg:=eq_of_beq hg
      subst hg
      obtain ⟨hb1,hb2⟩:=Bool.and_eq_true_iff.1 hb
      cases hd with
      |@cons _ v _ vr hv ht=>
        have key:∀us,All2 (dP ρ ok w nx) es us→xB hp ren r dr q=some (ofC f cs y).2∧All2 (dP (reρ ρ nx0 ren) ok' w (nx0+nn)) (ofC f cs y).1 us:=
          fun us hus=>jx hH hm hf cs es us _ y hus hb1 (fun p hp=>hz p (List.mem_append_left _ hp)) h
        have rest:∀us,All2 (dP ρ ok w nx) es us→q=some (mr f r (ofC f cs y).2).2∧All2 (fun (p:Bool×List Cell) u=>VR (reρ ρ nx0 ren) ok' w (nx0+nn) p.1 p.2 u) (mr f r (ofC f cs y).2).1 vr:=
          fun us hus=>vk hH hm hf r dr vr q _ ht hb2 (fun p hp=>hz p (List.mem_append_right _ hp)) (key us hus).1
        cases g with
        |true=>
          obtain ⟨us,e,hus⟩:=hv
          exact ⟨(rest us hus).1,.cons ⟨us,e,(key us hus).2⟩ (rest us hus).2⟩
        |false=>
          obtain ⟨c,e,hc⟩:=hv
          have e:es=[c]:=e
          subst e
          have hus:All2 (dP ρ ok w nx) [c] [v]:=.cons hc .nil
          refine ⟨(rest _ hus).1,.cons ?_ (rest _ hus).2⟩
          have h2:=(key _ hus).2
          revert h2
          show All2 _ (ofC f cs y).1 [v]→_
          intro h2
          have hl:=h2.len
          match hm':(ofC f cs y).1,hl with
          | [c'],_=>
            rw [hm'] at h2
            obtain ⟨v',e',hv'⟩:=h2.one
            cases e'
            exact ⟨c',rfl,hv'⟩
theorem qI (hH : ew ρ ok w hp nx) {env : Env} {tmps : Array Value} (hE : eH ρ ok w nx env tmps) {ok' : Nat → Prop} (hm : ∀ b,ok b → ok' b) {ren : Ren} {f : Nat → Nat} {nx0 nn : Nat} (hf : j8 f nx0 nn ren) {E0 : Env}
    (hE0:eH (reρ ρ nx0 ren) ok' w (nx0+nn) E0 tmps):
    ∀ {τ : Type} (l : List (Nat × SSh)) (q : Option τ) (y : TSl l τ),ow nn l = true → (∀ p ∈ kE env hp l,∀ b,blk (ρ p.1) = some b → ok' b) → wl env hp ren l q = some y →
      q=some (jt f E0 l y).2∧eH (reρ ρ nx0 ren) ok' w (nx0+nn) (jt f E0 l y).1 tmps
  |τ,[],q,y,_,_,h=>⟨h,hE0⟩
  |τ,(t,.v g cs)::r,q,y,hb,hz,h=>by
    simp only [wl] at h
    split at h<;>try (cases h;done)
    rename_i g' ds hd
    split at h<;>try (cases h;done)
    rename_i hg
    have hg:=eq_of_beq hg
    subst hg
    obtain ⟨hb1,hb2⟩:=Bool.and_eq_true_iff.1 hb
    obtain ⟨v,hv1,hv2⟩:=hE t _ hd
    have hz1:∀p∈qz hp cs ds,∀b,blk (ρ p.1)=some b→ok' b:=fun p hp=>hz p (by simp only [kE,hd];exact List.mem_append_left _ hp)
    have hz2:∀p∈kE env hp r,∀b,blk (ρ p.1)=some b→ok' b:=fun p hp=>hz p (by simp only [kE];exact List.mem_append_right _ hp)
    have fin:∀us,All2 (dP ρ ok w nx) ds us→(∀v',All2 (dP (reρ ρ nx0 ren) ok' w (nx0+nn)) (ofC f cs y).1 us→v'=v→VR (reρ ρ nx0 ren) ok' w (nx0+nn) g (ofC f cs y).1 v')→
        q=some (jt f E0 ((t,.v g cs)::r) y).2∧eH (reρ ρ nx0 ren) ok' w (nx0+nn) (jt f E0 ((t,.v g cs)::r) y).1 tmps:=by
      intro us hus hvr
      obtain ⟨h1,h2⟩:=jx hH hm hf cs ds us _ y hus hb1 hz1 h
      obtain ⟨h3,h4⟩:=qI hH hE hm hf hE0 r q _ hb2 hz2 h1
      refine ⟨h3,fun u s hs=>?_⟩
      simp only [jt,put] at hs
      split at hs
      · rename_i he
        cases hs
        rw [Nat.eq_of_beq_eq_true he]
        exact ⟨v,hv1,hvr v h2 rfl⟩
      · exact h4 u s hs
    cases g with
    |true=>
      obtain ⟨us,e,hus⟩:=hv2
      exact fin us hus fun v' hv' e'=>⟨us,e'.trans e,hv'⟩
    |false=>
      obtain ⟨c,e,hc⟩:=hv2
      have e:ds=[c]:=e
      subst e
      refine fin [v] (.cons hc .nil) fun v' hv' e'=>?_
      subst e'
      have hl:=hv'.len
      match hm':(ofC f cs y).1,hl with
      | [c'],_=>
        rw [hm'] at hv'
        obtain ⟨v2,e2,hv2⟩:=hv'.one
        cases e2
        exact ⟨c',rfl,hv2⟩
  |τ,(t,.tup l)::r,q,y,hb,hz,h=>by
    simp only [wl] at h
    split at h<;>try (cases h;done)
    rename_i ds hd
    obtain ⟨hb1,hb2⟩:=Bool.and_eq_true_iff.1 hb
    obtain ⟨v,hv1,us,e,hv2⟩:=hE t _ hd
    have hz1:∀p∈rL hp l ds,∀b,blk (ρ p.1)=some b→ok' b:=fun p hp=>hz p (by simp only [kE,hd];exact List.mem_append_left _ hp)
    have hz2:∀p∈kE env hp r,∀b,blk (ρ p.1)=some b→ok' b:=fun p hp=>hz p (by simp only [kE];exact List.mem_append_right _ hp)
    obtain ⟨h1,h2⟩:=vk hH hm hf l ds us _ y hv2 hb1 hz1 h
    obtain ⟨h3,h4⟩:=qI hH hE hm hf hE0 r q _ hb2 hz2 h1
    refine ⟨h3,fun u s hs=>?_⟩
    simp only [jt,put] at hs
    split at hs
    · rename_i he
      cases hs
      rw [Nat.eq_of_beq_eq_true he]
      exact ⟨v,hv1,us,e,h2⟩
    · exact h4 u s hs
theorem sm {a b:Bool×Bool} {t u:Ty} {xs:List (Value×u.T)} {ys:List (Value×t.T)} (h:tO a b t u xs=some ys):a=b∧∃e:t=u,xs=e▸ys:=by
 unfold tO at h
 split at h<;>try (cases h;done)
 rename_i h1
 split at h<;>try (cases h;done)
 rename_i h2
 cases h
 obtain rfl:=Ty.b_eq h2
 exact ⟨eq_of_beq h1,rfl,rfl⟩
structure wG (ρ:Nat→Value) (hp:cT) (ren:Ren) (l:Nat) (o:Ob):Prop where
 own:o.own=true
 src:(∃m p,ren l=some m∧hp m=some p∧p.own=true)∨ren l=none
theorem qJ (hH : ew ρ ok w hp nx) {ok' : Nat → Prop} (hm : ∀ b,ok b → ok' b) {ren : Ren} {f : Nat → Nat} {nx0 nn : Nat} (hf : j8 f nx0 nn ren) {H0 : cT} :
    ∀ (l : List (Nat × Bool × OSh)) (y : TO l),kn nn l = true → (∀ p ∈ mS hp ren l,∀ b,blk (ρ p.1) = some b → ok' b) → toO hp ren l = some y →
      ∀q o,ofO f H0 l y q=some o→(∃p∈l,q=f p.1∧p.1<nn∧ObR (reρ ρ nx0 ren) ok' w (nx0+nn) q o∧wG ρ hp ren p.1 o)∨(H0 q=some o∧∀p∈l,q≠f p.1)
  | [],y,_,_,_,q,o,h=> .inr ⟨h,fun p hp=>by cases hp⟩
  |(l,k,.box e cs)::r,y,hb,hz,hq,q,o,h=>by
    simp only [toO] at hq
    split at hq<;>try (cases hq;done)
    rename_i m hr
    split at hq<;>try (cases hq;done)
    rename_i g ds hd
    split at hq<;>try (cases hq;done)
    rename_i he
    have he:=Nat.eq_of_beq_eq_true he
    subst he
    simp only [kn,Bool.and_eq_true] at hb
    obtain ⟨hb0,hb1,hb2⟩:=hb
    have hl:l<nn:=Nat.le_of_ble_eq_true hb0
    obtain ⟨_,b,vs,h1,h2,h3⟩:=hH.ob m _ hd
    have hz1:∀p∈qz hp cs ds,∀b,blk (ρ p.1)=some b→ok' b:=fun p hp=>hz p (by simp only [mS,hr,hd];exact List.mem_append_left _ hp)
    have hz2:∀p∈mS hp ren r,∀b,blk (ρ p.1)=some b→ok' b:=fun p hp=>hz p (by simp only [mS];exact List.mem_append_right _ hp)
    obtain ⟨h4,h5⟩:=jx hH hm hf cs ds vs _ y h3 hb1 hz1 hq
    simp only [ofO,put] at h
    split at h
    · rename_i hq
      cases h
      have hq:=Nat.eq_of_beq_eq_true hq
      refine .inl ⟨_,List.mem_cons_self,hq,hl,⟨b,vs,?_,h2,h5⟩,rfl,.inl ⟨m,_,hr,hd,rfl⟩⟩
      rw [hq,hf.at hl,hr];exact h1
    · rename_i hq
      rcases qJ hH hm hf r _ hb2 hz2 h4 q o h with ⟨p,hp1,hp2⟩|⟨hp1,hp2⟩
      · exact .inl ⟨p,List.mem_cons_of_mem _ hp1,hp2⟩
      · refine .inr ⟨hp1,fun p hp=>?_⟩
        rcases List.mem_cons.1 hp with rfl|hp
        · exact fun e=>hq (by rw [e];exact Nat.beq_refl _)
        · exact hp2 p hp
  |(l,k,.arr e t)::r,y,hb,hz,hq,q,o,h=>by
    simp only [kn,Bool.and_eq_true] at hb
    obtain ⟨hb0,hb2⟩:=hb
    have hl:l<nn:=Nat.le_of_ble_eq_true hb0
    have hz2:∀p∈mS hp ren r,∀b,blk (ρ p.1)=some b→ok' b:=fun p hp=>hz p (by simp only [mS];exact hp)
    have rest:∀z:TO r,toO hp ren r=some z→put (ofO f H0 r z) (f l) (some (.arr e t y.1)) q=some o→ObR (reρ ρ nx0 ren) ok' w (nx0+nn) (f l) (.arr e t y.1)→wG ρ hp ren l (.arr e t y.1)→
        (∃p∈(l,k,OSh.arr e t)::r,q=f p.1∧p.1<nn∧ObR (reρ ρ nx0 ren) ok' w (nx0+nn) q o∧wG ρ hp ren p.1 o)∨(H0 q=some o∧∀p∈(l,k,OSh.arr e t)::r,q≠f p.1):=by
      intro z hz' hput hob htk
      simp only [put] at hput
      split at hput
      · rename_i hq
        cases hput
        have hq:=Nat.eq_of_beq_eq_true hq
        exact .inl ⟨_,List.mem_cons_self,hq,hl,by rw [hq];exact hob,htk⟩
      · rename_i hq
        rcases qJ hH hm hf r z hb2 hz2 hz' q o hput with ⟨p,hp1,hp2⟩|⟨hp1,hp2⟩
        · exact .inl ⟨p,List.mem_cons_of_mem _ hp1,hp2⟩
        · refine .inr ⟨hp1,fun p hp=>?_⟩
          rcases List.mem_cons.1 hp with rfl|hp
          · exact fun e=>hq (by rw [e];exact Nat.beq_refl _)
          · exact hp2 p hp
    simp only [toO] at hq
    split at hq
    · rename_i m hr
      split at hq<;>try (cases hq;done)
      rename_i g u xs hd
      split at hq<;>try (cases hq;done)
      rename_i ys hys
      split at hq<;>try (cases hq;done)
      rename_i z hzz
      cases hq
      obtain ⟨rfl,rfl,hys⟩:=ia hys
      cases hys
      obtain ⟨_,inner,h1,h2⟩:=hH.ob m _ hd
      refine rest z hzz h ⟨inner,?_,h2.move fun b hb=>⟨hm b hb,rfl⟩⟩ ⟨rfl,.inl ⟨m,_,hr,hd,rfl⟩⟩
      rw [hf.at hl,hr];exact h1
    · rename_i hr
      split at hq<;>try (cases hq;done)
      rename_i z hzz
      cases hq
      refine rest z hzz h ⟨[],?_,⟨[],rfl,.nil⟩⟩ ⟨rfl,.inr hr⟩
      rw [hf.at hl,hr];exact World.ownsRow_nil w 0 e t.n
  |(l,k,.mp g t)::r,y,hb,hz,hq,q,o,h=>by
    simp only [kn,Bool.and_eq_true] at hb
    obtain ⟨hb0,hb2⟩:=hb
    have hl:l<nn:=Nat.le_of_ble_eq_true hb0
    have hz2:∀p∈mS hp ren r,∀b,blk (ρ p.1)=some b→ok' b:=fun p hp=>hz p (by simp only [mS];exact hp)
    simp only [toO] at hq
    split at hq<;>try (cases hq;done)
    rename_i m hr
    split at hq<;>try (cases hq;done)
    rename_i f' u xs hd
    split at hq<;>try (cases hq;done)
    rename_i ys hys
    split at hq<;>try (cases hq;done)
    rename_i z hzz
    cases hq
    obtain ⟨rfl,rfl,hys⟩:=sm hys
    cases hys
    obtain ⟨_,rr,es,clock,h1,h2,h3,h4⟩:=hH.ob m _ hd
    simp only [ofO,put] at h
    split at h
    · rename_i hq
      cases h
      have hq:=Nat.eq_of_beq_eq_true hq
      refine .inl ⟨_,List.mem_cons_self,hq,hl,?_,rfl,.inl ⟨m,_,hr,hd,rfl⟩⟩
      rw [hq]
      refine ⟨rr,es,clock,?_,h2,h3.imp fun _ _=>mY.move fun b hb=>⟨hm b hb,rfl⟩,h4⟩
      rw [hf.at hl,hr];exact h1
    · rename_i hq
      rcases qJ hH hm hf r z hb2 hz2 hzz q o h with ⟨p,hp1,hp2⟩|⟨hp1,hp2⟩
      · exact .inl ⟨p,List.mem_cons_of_mem _ hp1,hp2⟩
      · refine .inr ⟨hp1,fun p hp=>?_⟩
        rcases List.mem_cons.1 hp with rfl|hp
        · exact fun e=>hq (by rw [e];exact Nat.beq_refl _)
        · exact hp2 p hp
end
end Lv
end
section
namespace Lv
variable [gG]
open Go Go.RowKit
theorem iU:∀{a b:List Nat},iM a b=true↔∀x∈a,x∉b
 | [],b=>by simp [iM]
 |x::r,b=>by
  simp only [iM,Bool.and_eq_true,Bool.not_eq_true',List.mem_cons,forall_eq_or_imp,iU (a:=r)]
  refine and_congr ?_ Iff.rfl
  rw [←iK]
  simp
theorem mE {ren:Ren} {m:Nat}:∀{l:List (Nat×Bool×OSh)},uY ren m l=true→∀p∈l,ren p.1≠some m
  | [],_,p,hp=>by cases hp
  |(k,r)::l,h,p,hp=>by
    simp only [uY,Bool.and_eq_true] at h
    rcases List.mem_cons.1 hp with rfl|hp
    · intro e
      rw [e] at h
      simp [Nat.beq_refl] at h
    · exact mE h.2 p hp
theorem qg {ren : Ren} : ∀ {l : List (Nat × Bool × OSh)},injO ren l = true → ∀ p ∈ l,∀ q ∈ l,∀ m,ren p.1 = some m → ren q.1 = some m → p.1 = q.1
  | [],_,p,hp,_,_,_,_,_=>by cases hp
  |(k,r)::l,h,p,hp,q,hq,m,e1,e2=>by
    simp only [injO,Bool.and_eq_true] at h
    rcases List.mem_cons.1 hp with rfl|hp
    · rcases List.mem_cons.1 hq with rfl|hq
      · rfl
      · rw [e1] at h
        exact absurd e2 (mE h.1 q hq)
    · rcases List.mem_cons.1 hq with rfl|hq
      · rw [e2] at h
        exact absurd e1 (mE h.1 p hp)
      · exact qg h.2 p hp q hq m e1 e2
theorem jc {ren:Ren}:∀{l:List (Nat×Bool×OSh)} {p:Nat×Bool×OSh} {m:Nat},p∈l→ren p.1=some m→m∈names (iP ren l)
  |(k,r)::l,p,m,hp,e=>by
    simp only [iP,names,List.map_append,List.mem_append]
    rcases List.mem_cons.1 hp with rfl|hp
    · left;simp only at e;rw [e];simp
    · exact .inr (jc hp e)
theorem nH {ren:Ren}:∀{l:List (Nat×Bool×OSh)} {p:Nat×Option Ob},p∈iP ren l→p.2=none
  |(k,r)::l,p,h=>by
    simp only [iP,List.mem_append] at h
    rcases h with h|h
    · split at h
      · cases List.mem_singleton.1 h;rfl
      · cases h
    · exact nH h
theorem md (hp:cT):∀(cs:List CSh) (ds:List Cell),fi hp (qz hp cs ds)
 | [],ds=>by cases ds<;>exact fun p hp=>by cases hp
 |c::r,[]=>by cases c<;>exact fun p hp=>by cases hp
 |c::r,d::ds=>by
  have ih:=md hp r ds
  cases c<;>first|exact ih|exact (kH hp [d]).app ih
theorem pd (hp:cT):∀(cs:List (Bool×List CSh)) (ds:List (Bool×List Cell)),fi hp (rL hp cs ds)
 | [],_=>fun p hp=>by cases hp
 |_::_,[]=>fun p hp=>by cases hp
 |(_,cs)::r,(_,ds)::s=>(md hp cs ds).app (pd hp r s)
theorem fi.nil (hp:cT):fi hp []:=fun p hp=>by cases hp
theorem mF (env:Env) (hp:cT):∀l,fi hp (kE env hp l)
  | []=>fi.nil hp
  |(t,.v _ cs)::r=>by
    refine fi.app ?_ (mF env hp r)
    split
    · exact md hp _ _
    · exact fi.nil hp
  |(t,.tup l)::r=>by
    refine fi.app ?_ (mF env hp r)
    split
    · exact pd hp _ _
    · exact fi.nil hp
theorem me (hp:cT) (ren:Ren):∀l,fi hp (mS hp ren l)
  | []=>fi.nil hp
  |(l,_,.box _ cs)::r=>by
    refine fi.app ?_ (me hp ren r)
    split
    · split
      · exact md hp _ _
      · exact fi.nil hp
    · exact fi.nil hp
  |(l,_,.arr _ _)::r=>me hp ren r
  |(l,_,.mp _ _)::r=>me hp ren r
theorem iE (sh:Sh) (env:Env) (hp:cT):fi hp (hY sh env hp):=(mF env hp _).app (me hp _ _)
section
variable {ρ:Nat→Value} {ok:Nat→Prop} {w:World} {hp:cT} {nx:Nat} {env:Env} {tmps:Array Value}
theorem gm (sh:Sh) (q:Nat):q∈names (eC sh env hp)↔q∈names (hY sh env hp)∨q∈names (iP (cp sh env hp) sh.ob):=by
 simp only [eC,hY,names,List.map_append,List.mem_append]
theorem uf (hH : ew ρ ok w hp nx) (hE : eH ρ ok w nx env tmps) {sh : Sh} (hbel : iv sh = true) {x : TS sh} (hx : oJ sh env hp = some x) {f : Nat → Nat} {nx0 : Nat} (hf : j8 f nx0 sh.nn (cp sh env hp))
    {H0:cT} (hB':∀q o,H0 q=some o→q<nx0∧ObR ρ (gZ ok ρ (names (hY sh env hp))) w nx0 q o∧ups hp (hY sh env hp) q=some o∧q∉names (iP (cp sh env hp) sh.ob)) {E0:Env} (hE0:eH ρ ok w nx0 E0 tmps):
    ew (reρ ρ nx0 (cp sh env hp)) (gZ ok ρ (names (hY sh env hp))) w (ofO f H0 sh.ob (jt f E0 sh.sl x).2) (nx0+sh.nn)∧
    eH (reρ ρ nx0 (cp sh env hp)) (gZ ok ρ (names (hY sh env hp))) w (nx0+sh.nn) (jt f E0 sh.sl x).1 tmps∧
    (∀q o,ofO f H0 sh.ob (jt f E0 sh.sl x).2 q=some o→(∃p∈sh.ob,q=f p.1∧p.1<sh.nn∧wG ρ hp (cp sh env hp) p.1 o)∨(H0 q=some o∧∀p∈sh.ob,q≠f p.1)):=by
  unfold oJ at hx
  split at hx<;>try (cases hx;done)
  rename_i hinj
  obtain ⟨hinj,hap⟩:=Bool.and_eq_true_iff.1 hinj
  have hap:=iU.1 hap
  obtain ⟨hb1,hb2⟩:=Bool.and_eq_true_iff.1 hbel
  have hF:=iE sh env hp
  have e1:=mb hH hF
  have hB:∀q o,H0 q=some o→o.own=true→q<nx0∧hp q=some o∧q∉names (eC sh env hp):=by
    intro q o h hw
    obtain ⟨g1,g2,g3,g4⟩:=hB' q o h
    rcases ie hF q with ⟨_,e,t,xs,_,k1⟩|⟨k1,k2⟩
    · rw [k1] at g3;cases g3;cases hw
    · exact ⟨g1,k2▸g3,fun hl=>((gm sh q).1 hl).elim k1 g4⟩
  have hm:∀b,ok b→gZ ok ρ (names (hY sh env hp)) b:=fun b hb=> .inl hb
  have hS:gU ok (gZ ok ρ (names (hY sh env hp))) w w:=fun b hb=>⟨.inl hb,rfl⟩
  have hzn:∀p∈hY sh env hp,∀b,blk (ρ p.1)=some b→gZ ok ρ (names (hY sh env hp)) b:=fun p hp b hb=> .inr ⟨p.1,List.mem_map.2 ⟨p,hp,rfl⟩,hb⟩
  have hρ:∀l,l<nx0→reρ ρ nx0 (cp sh env hp) l=ρ l:=fun l hl=>by simp [reρ,hl]
  have hE0':eH (reρ ρ nx0 (cp sh env hp)) (gZ ok ρ (names (hY sh env hp))) w (nx0+sh.nn) E0 tmps:=fun t s hs=>
    let ⟨v,h1,h2⟩:=hE0 t s hs
    ⟨v,h1,h2.move hS hρ (by omega)⟩
  obtain ⟨h1,h2⟩:=qI hH hE hm hf hE0' sh.sl _ x hb1 (fun p hp=>hzn p (List.mem_append_left _ hp)) hx
  have hO:=qJ (H0:=H0) hH hm hf sh.ob _ hb2 (fun p hp=>hzn p (List.mem_append_right _ hp)) h1
  -- an own object of what is taken: where it was
  have src:∀q o b,ofO f H0 sh.ob (jt f E0 sh.sl x).2 q=some o→o.own=true→blk (reρ ρ nx0 (cp sh env hp) q)=some b→
      (∃p∈sh.ob,q=f p.1∧∃m r,cp sh env hp p.1=some m∧hp m=some r∧r.own=true∧blk (ρ m)=some b)∨(H0 q=some o∧hp q=some o∧blk (ρ q)=some b∧q∉names (eC sh env hp)):=by
    intro q o b hq hw hb
    rcases hO q o hq with ⟨p,hp1,hp2,hp3,hp4,hp5⟩|⟨hp1,hp2⟩
    · left
      refine ⟨p,hp1,hp2,?_⟩
      rw [hp2,hf.at hp3] at hb
      rcases hp5.src with ⟨m,r,g1,g2,g3⟩|g1
      · rw [g1] at hb;exact ⟨m,r,g1,g2,g3,hb⟩
      · rw [g1] at hb;cases hb
    · right
      obtain ⟨g1,g3,g4⟩:=hB q o hp1 hw
      rw [hρ q g1] at hb
      exact ⟨hp1,g3,hb,g4⟩
  refine ⟨⟨?_,e1.1.okl,?_,?_,e1.1.gl⟩,h2,fun q o hq=>(hO q o hq).imp (fun ⟨p,a,b,c,_,d⟩=>⟨p,a,b,c,d⟩) id⟩
  · intro q o hq
    rcases hO q o hq with ⟨p,hp1,hp2,hp3,hp4,hp5⟩|⟨hp1,hp2⟩
    · exact ⟨by rw [hp2];exact hf.lt hp3,hp4⟩
    · obtain ⟨g1,g2,g3,g4⟩:=hB' q o hp1
      exact ⟨by omega,g2.move (gU.refl _ _) hρ (by omega) (hρ q g1) fun _ _ _=>rfl⟩
  · intro q o b hq hw hb hok
    rcases src q o b hq hw hb with ⟨p,hp1,hp2,m,r,g1,g2,g3,g4⟩|⟨g0,g1,g2,g3⟩
    · rcases hok with hok|⟨l',hl',hbl⟩
      · exact hH.sep m r b g2 g3 g4 hok
      · rcases ie hF l' with ⟨_,e,t,xs,k1,_⟩|⟨k1,_⟩
        · have:=hH.dis m l' r _ b g2 k1 g3 rfl g4 hbl
          subst this
          exact hap m hl' (jc hp1 g1)
        · exact k1 hl'
    · rcases hok with hok|⟨l',hl',hbl⟩
      · exact hH.sep q o b g1 hw g2 hok
      · rcases ie hF l' with ⟨_,e,t,xs,k1,_⟩|⟨k1,_⟩
        · have:=hH.dis q l' o _ b g1 k1 hw rfl g2 hbl
          subst this
          exact g3 ((gm sh _).2 (.inl hl'))
        · exact k1 hl'
  · intro q q' o o' b hq hq' hw hw' hb hb'
    rcases src q o b hq hw hb with ⟨p,hp1,hp2,m,r,g1,g2,g3,g4⟩|⟨g0,g1,g2,g3⟩
    · rcases src q' o' b hq' hw' hb' with ⟨p',hp1',hp2',m',r',g1',g2',g3',g4'⟩|⟨g0',g1',g2',g3'⟩
      · have:=hH.dis m m' r r' b g2 g2' g3 g3' g4 g4'
        subst this
        rw [hp2,hp2',qg hinj p hp1 p' hp1' m g1 g1']
      · have:=hH.dis m q' r o' b g2 g1' g3 hw' g4 g2'
        subst this
        exact absurd ((gm sh _).2 (.inr (jc hp1 g1))) g3'
    · rcases src q' o' b hq' hw' hb' with ⟨p',hp1',hp2',m',r',g1',g2',g3',g4'⟩|⟨g0',g1',g2',g3'⟩
      · have:=hH.dis q m' o r' b g1 g2' hw g3' g2 g4'
        subst this
        exact absurd ((gm sh _).2 (.inr (jc hp1' g1'))) g3
      · exact hH.dis q q' o o' b g1 g1' hw hw' g2 g2'
theorem sn {ρ0 : Nat → Value} {ok0 : Nat → Prop} {w0 : World} {hp0 : cT} {nx0 : Nat} {D : List Nat} (G : gV ρ0 ok0 w0 hp0 nx0 D ρ ok w hp nx) (hH : ew ρ ok w hp nx) {sh : Sh}
    {f:Nat→Nat} (hf:j8 f nx0 sh.nn (cp sh env hp)) {H0:cT} {D0:List Nat} {hp2:cT}
    (hO:∀q o,hp2 q=some o→(∃p∈sh.ob,q=f p.1∧p.1<sh.nn∧wG ρ hp (cp sh env hp) p.1 o)∨(H0 q=some o∧∀p∈sh.ob,q≠f p.1))
    (hO':∀q,(∀p∈sh.ob,q≠f p.1)→hp2 q=H0 q)
    (hB1:∀q o,H0 q=some o→q<nx0∧∃p,hp q=some p∧(o.own=true→p.own=true)) (hB2:∀q,q<nx0→q∉D0→H0 q=hp0 q)
    (hob:∀p∈sh.ob,f p.1∈D0) (hC:∀d,d∈names (eC sh env hp)∨d∈D→d<nx0→hp0 d≠none→d∈D0):
    gV ρ0 ok0 w0 hp0 nx0 D0 (reρ ρ nx0 (cp sh env hp)) (gZ ok ρ (names (hY sh env hp))) w hp2 (nx0+sh.nn):=by
  have hρ:∀l,l<nx0→reρ ρ nx0 (cp sh env hp) l=ρ l:=fun l hl=>by simp [reρ,hl]
  have hF:=iE sh env hp
  -- an own object now,with a block
  have was:∀l o b,hp l=some o→o.own=true→blk (ρ l)=some b→l∈names (eC sh env hp)→w0.heap.size≤b∨∃m∈D0,m<nx0∧∃p,hp0 m=some p∧p.own=true∧blk (ρ0 m)=some b:=by
    intro l o b ho hw hb hl
    by_cases h:l<nx0
    · obtain ⟨p,h1,h2⟩:=G.stay l h o ho
      exact .inr ⟨l,hC l (.inl hl) h (by rw [h1];simp),h,p,h1,h2 hw,by rw [←G.rho l h];exact hb⟩
    · rcases G.nb l o b (by omega) ho hw hb with h1|⟨m,hm,h1,p,h2,h3,h4⟩
      · exact .inl h1
      · exact .inr ⟨m,hC m (.inr hm) h1 (by rw [h2];simp),h1,p,h2,h3,h4⟩
  refine ⟨G.os,G.tape,G.output,G.size,by omega,?_,fun l hl=>(hρ l hl).trans (G.rho l hl),fun b hb=> .inl (G.okm b hb),?_,?_,?_,?_⟩
  · intro b hb hne
    exact G.same b hb fun l hl hlt o ho hw=>hne l (hC l (.inr hl) hlt (by rw [ho];simp)) hlt o ho hw
  · rintro b (hb|⟨l,hl,hb⟩)
    · rcases G.okn b hb with h|h|⟨l,hl,hlt,o,ho,hr⟩
      · exact .inl h
      · exact .inr (.inl h)
      · exact .inr (.inr ⟨l,hC l (.inr hl) hlt (by rw [ho];simp),hlt,o,ho,hr⟩)
    · rcases ie hF l with ⟨_,e,t,xs,k1,_⟩|⟨k1,_⟩
      · rcases was l _ b k1 rfl hb ((gm sh _).2 (.inl hl)) with h|h
        · exact .inr (.inl h)
        · exact .inr (.inr h)
      · exact absurd hl k1
  · intro l hl hn
    rw [hO' l fun p hp e=>hn (e▸hob p hp)]
    exact hB2 l hl hn
  · intro l hl o ho
    rcases hO l o ho with ⟨p,hp1,hp2,hp3,hp4⟩|⟨hp1,hp2⟩
    · rcases hf p.1 hp3 with e|⟨e1,e2⟩
      · omega
      · rcases hp4.src with ⟨m,r,g1,g2,g3⟩|g1
        · rw [e1] at g1
          cases g1
          rw [←hp2] at g2
          obtain ⟨q,k1,k2⟩:=G.stay l hl r g2
          exact ⟨q,k1,fun _=>k2 g3⟩
        · rw [e1] at g1;cases g1
    · obtain ⟨p,g1,g2⟩:=(hB1 l o hp1).2
      obtain ⟨q,g3,g4⟩:=G.stay l hl p g1
      exact ⟨q,g3,fun h=>g4 (g2 h)⟩
  · intro l o b hl ho hw hb
    rcases hO l o ho with ⟨p,hp1,hp2,hp3,hp4⟩|⟨hp1,hp2⟩
    · rw [hp2,hf.at hp3] at hb
      rcases hp4.src with ⟨m,r,g1,g2,g3⟩|g1
      · rw [g1] at hb
        exact was m r b g2 g3 hb ((gm sh _).2 (.inr (jc hp1 g1)))
      · rw [g1] at hb;cases hb
    · exact absurd (hB1 l o hp1).1 (by omega)
theorem kK (f:Nat→Nat) (H0:cT):∀(l:List (Nat×Bool×OSh)) (y:TO l) (q:Nat),(∀p∈l,q≠f p.1)→ofO f H0 l y q=H0 q
  | [],y,q,_=>rfl
  |(l,k,.box e cs)::r,y,q,h=>by
    simp only [ofO]
    rw [iT _ _ (h _ List.mem_cons_self)]
    exact kK f H0 r _ q fun p hp=>h p (List.mem_cons_of_mem _ hp)
  |(l,k,.arr e t)::r,y,q,h=>by
    simp only [ofO]
    rw [iT _ _ (h _ List.mem_cons_self)]
    exact kK f H0 r _ q fun p hp=>h p (List.mem_cons_of_mem _ hp)
  |(l,k,.mp e t)::r,y,q,h=>by
    simp only [ofO]
    rw [iT _ _ (h _ List.mem_cons_self)]
    exact kK f H0 r _ q fun p hp=>h p (List.mem_cons_of_mem _ hp)
end
end Lv
end
section
namespace Lv
variable [gG]
open Go Go.RowKit
structure lL (hin:cT) (ρ:Nat→Value) (ok:Nat→Prop) (w:World) (hout:cT) (ρ':Nat→Value) (ok':Nat→Prop) (w':World):Prop where
 os:w'.os=w.os
 tape:w'.tape=w.tape
 output:ji w w'
 size:w.heap.size≤w'.heap.size
 same:∀b,b<w.heap.size→(∀l o,hin l=some o→o.own=true→blk (ρ l)≠some b)→w'.heap[b]?=w.heap[b]?
 okm:∀b,ok b→ok' b
 okn:∀b,ok' b→ok b∨w.heap.size≤b∨∃l o,hin l=some o∧o.own=true∧blk (ρ l)=some b
 inn:∀l o,hout l=some o→l<1000→ρ' l=ρ l∧∃p,hin l=some p∧(o.own=true→p.own=true)
 new:∀l o b,hout l=some o→1000≤l→o.own=true→blk (ρ' l)=some b→w.heap.size≤b∨∃m p,hin m=some p∧p.own=true∧blk (ρ m)=some b
def fk (P:Program) (g:FuncId) (sp:mT):Prop:=∀x y,sp.F x=some y→∀ρ ok w args,args.size=sp.n→ew ρ ok w (eO sp.si id x) 1000→eH ρ ok w 1000 (ik sp.si id x) args→
 Calls P g args w fun e w'=>∃v ρ' ok',e=.returned v∧ew ρ' ok' w' (eO sp.so id y) sp.so.nn∧eH ρ' ok' w' sp.so.nn (ik sp.so id y) #[v]∧lL (eO sp.si id x) ρ ok w (eO sp.so id y) ρ' ok' w'
structure ug (ρ:Nat→Value) (w:World) (hin:cT) (w':World):Prop where
 os:w'.os=w.os
 tape:w'.tape=w.tape
 output:ji w w'
 size:w.heap.size≤w'.heap.size
 same:∀b,b<w.heap.size→(∀l o,hin l=some o→o.own=true→blk (ρ l)≠some b)→w'.heap[b]?=w.heap[b]?
theorem ug.refl (ρ:Nat→Value) (w:World) (hin:cT):ug ρ w hin w:=⟨rfl,rfl,ji.rfl,Nat.le_refl _,fun _ _ _=>rfl⟩
theorem gV.pan {ρ ok w hp nx D ρ1 ok1 w1 hp1 nx1} (h:gV ρ ok w hp nx D ρ1 ok1 w1 hp1 nx1) {w':World} (k:ug ρ1 w1 hp1 w'):ug ρ w hp w':=by
 refine ⟨k.os.trans h.os,k.tape.trans h.tape,k.output.trans h.output,Nat.le_trans h.size k.size,fun b hb hne=>?_⟩
 refine (k.same b (Nat.lt_of_lt_of_le hb h.size) fun l o ho hw hbl=>?_).trans (h.same b hb fun l _ _ o ho hw=>hne l o ho hw)
 by_cases hl:l<nx
 ·obtain ⟨p,h1,h2⟩:=h.stay l hl o ho
  rw [h.rho l hl] at hbl
  exact hne l p h1 (h2 hw) hbl
 ·rcases h.nb l o b (by omega) ho hw hbl with g|⟨m,_,_,p,g1,g2,g3⟩
  ·omega
  ·exact hne m p g1 g2 g3
def qK (t:Nat) (n:Int):List PanicEntry:=[{v:=wm t n,recovered:=false}]
def m7 (P : Program) (g : FuncId) (pan : Nat) (sp : kF) : Prop := ∀ x z,sp.F x = some z → ∀ ρ ok w args,args.size = sp.n → ew ρ ok w (eO sp.si id x) 1000 → eH ρ ok w 1000 (ik sp.si id x) args →
  Calls P g args w fun e w'=>match z with
    | .inl y=>∃v ρ' ok',e=.returned v∧ew ρ' ok' w' (eO sp.so id y) sp.so.nn∧eH ρ' ok' w' sp.so.nn (ik sp.so id y) #[v]∧lL (eO sp.si id x) ρ ok w (eO sp.so id y) ρ' ok' w'
    | .inr n=>e=.panicked (qK pan n)∧ug ρ w (eO sp.si id x) w'
theorem ew.sub {ρ ok w hp nx} (h:ew ρ ok w hp nx) {hp':cT} (hs:∀l o,hp' l=some o→hp l=some o):ew ρ ok w hp' nx:=
 ⟨fun l o ho=>h.ob l o (hs l o ho),h.okl,fun l o b ho=>h.sep l o b (hs l o ho),fun l m o p b ho hp=>h.dis l m o p b (hs l o ho) (hs m p hp),h.gl⟩
theorem ew.more {ρ ok w hp nx nx'} (h:ew ρ ok w hp nx) (hn:nx≤nx'):ew ρ ok w hp nx':=
 ⟨fun l o ho=>⟨by have:=(h.ob l o ho).1;omega,(h.ob l o ho).2.move (gU.refl _ _) (fun _ _=>rfl) hn rfl fun _ _ _=>rfl⟩,h.okl,h.sep,h.dis,h.gl⟩
theorem eH.more {ρ ok w nx nx' env tmps} (h:eH ρ ok w nx env tmps) (hn:nx≤nx'):eH ρ ok w nx' env tmps:=fun t s hs=>
 let ⟨v,h1,h2⟩:=h t s hs
 ⟨v,h1,h2.move (gU.refl _ _) (fun _ _=>rfl) hn⟩
section
variable {ρ ρ':Nat→Value} {ok:Nat→Prop} {w:World} {nn nx:Nat} {f:Nat→Nat} {obs:List Nat}
def qh (ρ ρ':Nat→Value) (nn nx:Nat) (obs:List Nat) (f:Nat→Nat):Prop:=∀l,l<nn→(1000≤l∨l∈obs)→f l<nx∧ρ' (f l)=ρ l
theorem gH (hf:qh ρ ρ' nn nx obs f):∀{τ:Type} (cs:List CSh) (y:TL cs τ) (vs:List Value),mV obs cs=true→All2 (dP ρ ok w nn) (ofC id cs y).1 vs→
 All2 (dP ρ' ok w nx) (ofC f cs y).1 vs∧(ofC f cs y).2=(ofC id cs y).2
 |τ,[],y,vs,_,h=>by cases h;exact ⟨.nil,rfl⟩
 |τ,.int k::r,y,vs,hi,h=>by cases h with|cons h t=>exact ⟨.cons h (gH hf r _ _ hi t).1,(gH hf r _ _ hi t).2⟩
 |τ,.bool::r,y,vs,hi,h=>by cases h with|cons h t=>exact ⟨.cons h (gH hf r _ _ hi t).1,(gH hf r _ _ hi t).2⟩
 |τ,.str::r,y,vs,hi,h=>by cases h with|cons h t=>exact ⟨.cons h (gH hf r _ _ hi t).1,(gH hf r _ _ hi t).2⟩
 |τ,.val::r,y,vs,hi,h=>by cases h with|cons h t=>exact ⟨.cons h (gH hf r _ _ hi t).1,(gH hf r _ _ hi t).2⟩
 |τ,.sl e t'::r,y,vs,hi,h=>by cases h with|cons h t=>exact ⟨.cons h (gH hf r _ _ hi t).1,(gH hf r _ _ hi t).2⟩
 |τ,.fn g::r,y,vs,hi,h=>by cases h with|cons h t=>exact ⟨.cons h (gH hf r _ _ hi t).1,(gH hf r _ _ hi t).2⟩
 |τ,.ref l::r,y,vs,hi,h=>by
  obtain ⟨h1,h2⟩:=Bool.and_eq_true_iff.1 hi
  cases h with
  |cons h t=>
   have hl:1000≤l∨l∈obs:=(Bool.or_eq_true_iff.1 h1).imp Nat.le_of_ble_eq_true iK.1
   obtain ⟨g1,g2⟩:=hf l h.1 hl
   exact ⟨.cons ⟨g1,h.2.1.trans g2.symm,h.2.2⟩ (gH hf r _ _ h2 t).1,(gH hf r _ _ h2 t).2⟩
 |τ,.ptr l o::r,y,vs,hi,h=>by
  obtain ⟨h1,h2⟩:=Bool.and_eq_true_iff.1 hi
  cases h with
  |cons h t=>
   have hl:1000≤l∨l∈obs:=(Bool.or_eq_true_iff.1 h1).imp Nat.le_of_ble_eq_true iK.1
   obtain ⟨g0,b,e1,e2⟩:=h
   obtain ⟨g1,g2⟩:=hf l g0 hl
   exact ⟨.cons ⟨g1,b,g2.trans e1,e2⟩ (gH hf r _ _ h2 t).1,(gH hf r _ _ h2 t).2⟩
 |τ,.ifc::r,y,vs,hi,h=>by cases h with|cons h t=>exact ⟨.cons h (gH hf r _ _ hi t).1,(gH hf r _ _ hi t).2⟩
 |τ,.np l::r,y,vs,hi,h=>by
  obtain ⟨h1,h2⟩:=Bool.and_eq_true_iff.1 hi
  cases h with
  |cons h t=>
   have hl:1000≤l∨l∈obs:=(Bool.or_eq_true_iff.1 h1).imp Nat.le_of_ble_eq_true iK.1
   obtain ⟨g0,e⟩:=h
   obtain ⟨g1,g2⟩:=hf l g0 hl
   exact ⟨.cons ⟨g1,e.imp (fun h=>h) fun ⟨b,e1,e2⟩=>⟨b,g2.trans e1,e2⟩⟩ (gH hf r _ _ h2 t).1,(gH hf r _ _ h2 t).2⟩
theorem iG (f g:Nat→Nat):∀{τ:Type} (cs:List CSh) (y:TL cs τ),(ofC f cs y).2=(ofC g cs y).2
 |τ,[],y=>rfl
 |τ,.int k::r,y=>iG f g r _
 |τ,.bool::r,y=>iG f g r _
 |τ,.str::r,y=>iG f g r _
 |τ,.val::r,y=>iG f g r _
 |τ,.sl e t'::r,y=>iG f g r _
 |τ,.fn _::r,y=>iG f g r _
 |τ,.ref l::r,y=>iG f g r _
 |τ,.ptr l o::r,y=>iG f g r _
 |τ,.ifc::r,y=>iG f g r _
 |τ,.np l::r,y=>iG f g r _
theorem pe (f g:Nat→Nat):∀{τ:Type} (cs:List (Bool×List CSh)) (y:TLs cs τ),(mr f cs y).2=(mr g cs y).2
 |τ,[],y=>rfl
 |τ,(a,cs)::r,y=>by
  simp only [mr]
  rw [iG f g cs y]
  exact pe f g r _
theorem pf (f g:Nat→Nat) (E F:Env):∀{τ:Type} (l:List (Nat×SSh)) (y:TSl l τ),(jt f E l y).2=(jt g F l y).2
 |τ,[],y=>rfl
 |τ,(t,.v a cs)::r,y=>by
  simp only [jt]
  rw [iG f g cs y]
  exact pf f g E F r _
 |τ,(t,.tup cs)::r,y=>by
  simp only [jt]
  rw [pe f g cs y]
  exact pf f g E F r _
theorem ye (hf:qh ρ ρ' nn nx obs f) {τ:Type} {cs:List CSh} {y:TL cs τ} {v:Value} {g:Bool} (hi:mV obs cs=true) (h:VR ρ ok w nn g (ofC id cs y).1 v):VR ρ' ok w nx g (ofC f cs y).1 v:=by
 cases g with
 |true=>
  obtain ⟨us,e,hus⟩:=h
  exact ⟨us,e,(gH hf cs y us hi hus).1⟩
 |false=>
  obtain ⟨c,e,hc⟩:=h
  have hus:All2 (dP ρ ok w nn) (ofC id cs y).1 [v]:=by rw [e];exact .cons hc .nil
  have h2:=(gH hf cs y _ hi hus).1
  have hl:=h2.len
  match hm':(ofC f cs y).1,hl with
  | [c'],_=>
   rw [hm'] at h2
   obtain ⟨v2,e2,hv2⟩:=h2.one
   cases e2
   exact ⟨c',rfl,hv2⟩
theorem vm (hf:qh ρ ρ' nn nx obs f):∀{τ:Type} (cs:List (Bool×List CSh)) (y:TLs cs τ) (vs:List Value),tR obs cs=true→All2 (fun (p:Bool×List Cell) u=>VR ρ ok w nn p.1 p.2 u) (mr id cs y).1 vs→
    All2 (fun (p:Bool×List Cell) u=>VR ρ' ok w nx p.1 p.2 u) (mr f cs y).1 vs
  |τ,[],y,vs,_,h=>by cases h;exact .nil
  |τ,(g,cs)::r,y,vs,hi,h=>by
    obtain ⟨h1,h2⟩:=Bool.and_eq_true_iff.1 hi
    cases h with
    |cons h t=>
      refine .cons (ye hf h1 h) ?_
      show All2 _ (mr f r (ofC f cs y).2).1 _
      rw [iG f id cs y]
      exact vm hf r _ _ h2 t
theorem pg (hf:qh ρ ρ' nn nx obs f):∀{τ:Type} (l:List (Nat×SSh)) (y:TSl l τ),slIn obs l=true→∀u s,(jt f (fun _=>none) l y).1 u=some s→∃s',(jt id (fun _=>none) l y).1 u=some s'∧∀v,ij ρ ok w nn s' v→ij ρ' ok w nx s v
  |τ,[],y,_,u,s,hs=>by cases hs
  |τ,(t,.v g cs)::r,y,hi,u,s,hs=>by
    obtain ⟨h1,h2⟩:=Bool.and_eq_true_iff.1 hi
    simp only [jt,put] at hs ⊢
    split at hs
    · rename_i he
      cases hs
      exact ⟨.v g (ofC id cs y).1,by rw [if_pos he],fun v hv=>ye hf h1 hv⟩
    · rename_i he
      rw [iG f id cs y] at hs
      obtain ⟨s',h3,h4⟩:=pg hf r _ h2 u s hs
      exact ⟨s',by rw [if_neg he];exact h3,h4⟩
  |τ,(t,.tup l)::r,y,hi,u,s,hs=>by
    obtain ⟨h1,h2⟩:=Bool.and_eq_true_iff.1 hi
    simp only [jt,put] at hs ⊢
    split at hs
    · rename_i he
      cases hs
      exact ⟨.tup (mr id l y).1,by rw [if_pos he],fun v ⟨us,e,hv⟩=>⟨us,e,vm hf l y us h1 hv⟩⟩
    · rename_i he
      rw [pe f id l y] at hs
      obtain ⟨s',h3,h4⟩:=pg hf r _ h2 u s hs
      exact ⟨s',by rw [if_neg he];exact h3,h4⟩
theorem oy (hf:qh ρ ρ' nn nx obs f):∀(l:List (Nat×Bool×OSh)) (y:TO l),xH obs l=true→∀q o,ofO f (fun _=>none) l y q=some o→
    ∃p∈l,q=f p.1∧∃o',ofO id (fun _=>none) l y p.1=some o'∧o'.own=o.own∧(p.1<nn→(1000≤p.1∨p.1∈obs)→ObR ρ ok w nn p.1 o'→ObR ρ' ok w nx q o)
  | [],y,_,q,o,h=>by cases h
  |(l,k,.box e cs)::r,y,hi,q,o,h=>by
    obtain ⟨h1,h2⟩:=Bool.and_eq_true_iff.1 hi
    simp only [ofO] at h ⊢
    by_cases hq:q=f l
    · subst hq
      rw [ip] at h
      cases h
      refine ⟨_,List.mem_cons_self,rfl,_,ip _ _ _,rfl,fun hl ho hr=>?_⟩
      obtain ⟨b,vs,g1,g2,g3⟩:=hr
      exact ⟨b,vs,(hf l hl ho).2.trans g1,g2,(gH hf cs y vs h1 g3).1⟩
    · rw [iT _ _ hq,iG f id cs y] at h
      obtain ⟨p,hp,e1,o',h3,h4,h5⟩:=oy hf r _ h2 q o h
      refine ⟨p,List.mem_cons_of_mem _ hp,e1,o',?_,h4,h5⟩
      have:p.1≠l:=fun e=>hq (by rw [e1,e])
      exact (iT _ _ this).trans h3
  |(l,k,.arr e t)::r,y,hi,q,o,h=>by
    simp only [ofO] at h ⊢
    by_cases hq:q=f l
    · subst hq
      rw [ip] at h
      cases h
      refine ⟨_,List.mem_cons_self,rfl,_,ip _ _ _,rfl,fun hl ho hr=>?_⟩
      obtain ⟨inner,g1,g2⟩:=hr
      exact ⟨inner,by rw [(hf l hl ho).2];exact g1,g2⟩
    · rw [iT _ _ hq] at h
      obtain ⟨p,hp,e1,o',h3,h4,h5⟩:=oy hf r _ hi q o h
      refine ⟨p,List.mem_cons_of_mem _ hp,e1,o',?_,h4,h5⟩
      have:p.1≠l:=fun e=>hq (by rw [e1,e])
      exact (iT _ _ this).trans h3
  |(l,k,.mp e t)::r,y,hi,q,o,h=>by
    simp only [ofO] at h ⊢
    by_cases hq:q=f l
    · subst hq
      rw [ip] at h
      cases h
      refine ⟨_,List.mem_cons_self,rfl,_,ip _ _ _,rfl,fun hl ho hr=>?_⟩
      obtain ⟨rr,es,clock,g1,g2,g3,g4⟩:=hr
      exact ⟨rr,es,clock,by rw [(hf l hl ho).2];exact g1,g2,g3,g4⟩
    · rw [iT _ _ hq] at h
      obtain ⟨p,hp,e1,o',h3,h4,h5⟩:=oy hf r _ hi q o h
      refine ⟨p,List.mem_cons_of_mem _ hp,e1,o',?_,h4,h5⟩
      have:p.1≠l:=fun e=>hq (by rw [e1,e])
      exact (iT _ _ this).trans h3
end
theorem mf (f:Nat→Nat) (H0:cT):∀(l:List (Nat×Bool×OSh)) (y:TO l) (p:Nat×Bool×OSh),p∈l→∃o,ofO f H0 l y (f p.1)=some o
  |(l,k,.box e cs)::r,y,p,hp=>by
    simp only [ofO]
    by_cases h:f p.1=f l
    · rw [h];exact ⟨_,ip _ _ _⟩
    · rw [iT _ _ h]
      rcases List.mem_cons.1 hp with rfl|hp
      · exact absurd rfl h
      · exact mf f H0 r _ p hp
  |(l,k,.arr e t)::r,y,p,hp=>by
    simp only [ofO]
    by_cases h:f p.1=f l
    · rw [h];exact ⟨_,ip _ _ _⟩
    · rw [iT _ _ h]
      rcases List.mem_cons.1 hp with rfl|hp
      · exact absurd rfl h
      · exact mf f H0 r _ p hp
  |(l,k,.mp e t)::r,y,p,hp=>by
    simp only [ofO]
    by_cases h:f p.1=f l
    · rw [h];exact ⟨_,ip _ _ _⟩
    · rw [iT _ _ h]
      rcases List.mem_cons.1 hp with rfl|hp
      · exact absurd rfl h
      · exact mf f H0 r _ p hp
theorem ku:∀{l:List (Nat×Bool×OSh)} {p:Nat×Bool×OSh},p∈l→p.1∈kU l
  |(k,r)::l,p,h=>by
    rcases List.mem_cons.1 h with rfl|h
    · exact List.mem_cons_self
    · exact List.mem_cons_of_mem _ (ku h)
theorem m8:∀{l:List (Nat×Bool×OSh)} {n:Nat},n∈kU l→∃p∈l,p.1=n
  | [],n,h=>by cases h
  |(k,r)::l,n,h=>by
    rcases List.mem_cons.1 h with rfl|h
    · exact ⟨_,List.mem_cons_self,rfl⟩
    · obtain ⟨p,h1,h2⟩:=m8 h
      exact ⟨p,List.mem_cons_of_mem _ h1,h2⟩
theorem oc {ren:Ren}:∀{l:List (Nat×Bool×OSh)},ny ren l=true→∀p∈l,p.1<1000→∃m,ren p.1=some m
  |(k,r)::l,h,p,hp,hlt=>by
    simp only [ny,Bool.and_eq_true] at h
    rcases List.mem_cons.1 hp with rfl|hp
    · have h1:=h.1
      rw [if_neg (fun e=>by have:=Nat.le_of_ble_eq_true e;omega)] at h1
      simp only at hlt
      cases hr:ren k with
      |some m=>exact ⟨m,rfl⟩
      |none=>rw [hr] at h1;cases h1
    · exact oc h.2 p hp hlt
theorem ph (f : Nat → Nat) (H hp : cT) : ∀ (l : List (Nat × Bool × OSh)) (q : Nat),(∀ p ∈ l,q ≠ f p.1) ∧ ups hp (j6 f H l) q = hp q ∨ (∃ p ∈ l,q = f p.1) ∧ ups hp (j6 f H l) q = H q
  | [],q=> .inl ⟨fun p hp=>(by cases hp),rfl⟩
  | (k,r) :: l,q => by
    rcases ph f H (put hp (f k) (H (f k))) l q with ⟨h1,h2⟩|⟨⟨p,h1,h2⟩,h3⟩
    · by_cases e:q=f k
      · refine .inr ⟨⟨_,List.mem_cons_self,e⟩,?_⟩
        show ups (put hp (f k) (H (f k))) (j6 f H l) q=_
        rw [h2,e,ip]
      · refine .inl ⟨fun p hp=>?_,?_⟩
        · rcases List.mem_cons.1 hp with rfl|hp
          · exact e
          · exact h1 p hp
        · show ups (put hp (f k) (H (f k))) (j6 f H l) q=_
          rw [h2,iT _ _ e]
    · exact .inr ⟨⟨p,List.mem_cons_of_mem _ h1,h2⟩,h3⟩
theorem oe (f:Nat→Nat) (H:cT):∀(l:List (Nat×Bool×OSh)) (q:Nat),q∈names (j6 f H l)↔∃p∈l,q=f p.1
  | [],q=>by simp [j6,names]
  |(k,r)::l,q=>by
    have ih:=oe f H l q
    simp only [names] at ih
    simp only [j6,names,List.map_cons,List.mem_cons,ih]
    constructor
    · rintro (h|⟨p,h1,h2⟩)
      · exact ⟨_,.inl rfl,h⟩
      · exact ⟨p,.inr h1,h2⟩
    · rintro ⟨p,rfl|h1,h2⟩
      · exact .inl h2
      · exact .inr ⟨p,h1,h2⟩
theorem sr (sh:Sh) (env:Env) (hp hp':cT) (hs:∀l o,hp' l=some o→hp l=some o) (q:Nat):
 (q∉names (eC sh env hp')∧ups hp (eC sh env hp') q=hp q)∨
 (q∈names (iP (cp sh env hp') sh.ob)∧ups hp (eC sh env hp') q=none)∨
 (q∉names (iP (cp sh env hp') sh.ob)∧q∈names (hY sh env hp')∧∃e t xs,hp q=some (.arr e t xs)∧ups hp (eC sh env hp') q=some (.frz e t xs)):=by
 have hF:fi hp (hY sh env hp'):=(iE sh env hp').sub hs
 have e:ups hp (eC sh env hp')=ups (ups hp (hY sh env hp')) (iP (cp sh env hp') sh.ob):=by rw [←kZ];rfl
 by_cases hg:q∈names (iP (cp sh env hp') sh.ob)
 ·refine .inr (.inl ⟨hg,?_⟩)
  rw [e,im]
  cases hl:jv (iP (cp sh env hp') sh.ob) q with
  |none=>exact absurd hg (gk.1 hl)
  |some o=>exact nH (jY hl)
 ·have h1:ups hp (eC sh env hp') q=ups hp (hY sh env hp') q:=by rw [e,im,gk.2 hg]
  rcases ie hF q with ⟨h2,e',t,xs,h3,h4⟩|⟨h2,h3⟩
  ·exact .inr (.inr ⟨hg,h2,e',t,xs,h3,h1.trans h4⟩)
  ·exact .inl ⟨fun h=>((gm sh q).1 h).elim h2 hg,h1.trans h3⟩
section
variable {P:Program} {ρ:Nat→Value} {ok:Nat→Prop} {w:World} {hp:cT} {nx:Nat}
def mw (ρ:Nat→Value) (nx:Nat) (ρ':Nat→Value):Nat→Value:=fun q=>if q<nx then ρ q else ρ' (q-nx+1000)
theorem m9 (hH : ew ρ ok w hp nx) {hp' : cT} (hs : ∀ l o,hp' l = some o → hp l = some o) {sp : mT} {aenv : Env} {tmps : Array Value} (hE : eH ρ ok w nx aenv tmps)
    (hbel:iv sp.si=true) (hnn:sp.si.nn≤1000) (hso:soOk sp.so=true) (hbk:ny (cp sp.si aenv hp') sp.so.ob=true) {x:TS sp.si} (hx:oJ sp.si aenv hp'=some x):
    ∃ ρi oki,ew ρi oki w (eO sp.si id x) 1000 ∧ eH ρi oki w 1000 (ik sp.si id x) tmps ∧
      ∀ y v w' ρ' ok',ew ρ' ok' w' (eO sp.so id y) sp.so.nn → eH ρ' ok' w' sp.so.nn (ik sp.so id y) #[v] → lL (eO sp.si id x) ρi oki w (eO sp.so id y) ρ' ok' w' →
        ∃ ρ2,Eff ρ ok w hp nx (eC sp.si aenv hp' ++ j6 (ii (cp sp.si aenv hp') nx) (eO sp.so (ii (cp sp.si aenv hp') nx) y) sp.so.ob) (sp.so.nn - 1000) ρ2 ok' w' ∧
          ∀s,ik sp.so (ii (cp sp.si aenv hp') nx) y 0=some s→ij ρ2 ok' w' (nx+(sp.so.nn-1000)) s v:=by
  have hH':ew ρ ok w hp' nx:=hH.sub hs
  have hF:=iE sp.si aenv hp'
  have hf0:j8 id 0 sp.si.nn (cp sp.si aenv hp'):=fun l _=> .inl (by simp)
  obtain ⟨t1,t2,t3⟩:=uf hH' hE hbel hx (f:=id) (nx0:=0) hf0 (H0:=fun _=>none) (fun q o h=>by cases h) (E0:=fun _=>none) (fun t s h=>by cases h)
  have htO:∀q o,eO sp.si id x q=some o→∃p∈sp.si.ob,q=p.1∧p.1<sp.si.nn∧wG ρ hp' (cp sp.si aenv hp') p.1 o:=fun q o h=>by
    rcases t3 q o h with h|⟨h,_⟩
    · exact h
    · cases h
  refine ⟨_,_,t1.more (by omega),t2.more (by omega),?_⟩
  intro y v w' ρ' ok' hX hXE hEx
  have hρi:∀q,reρ ρ 0 (cp sp.si aenv hp') q=match cp sp.si aenv hp' q with|some m=>ρ m|none=> .slice none 0 0:=fun q=>by unfold reρ;rw [if_neg (by omega)];rfl
  -- the blocks that came in
  have inBlk:∀l o b,eO sp.si id x l=some o→o.own=true→blk (reρ ρ 0 (cp sp.si aenv hp') l)=some b→∃m p,m∈names (iP (cp sp.si aenv hp') sp.si.ob)∧cp sp.si aenv hp' l=some m∧hp m=some p∧p.own=true∧blk (ρ m)=some b:=by
    intro l o b hl hw hb
    obtain ⟨p,h1,h2,h3,h4⟩:=htO l o hl
    subst h2
    rw [hρi] at hb
    rcases h4.src with ⟨m,r,g1,g2,g3⟩|g1
    · rw [g1] at hb
      exact ⟨m,r,jc h1 g1,g1,hs _ _ g2,g3,hb⟩
    · rw [g1] at hb;cases hb
  have hap:∀q∈names (hY sp.si aenv hp'),q∉names (iP (cp sp.si aenv hp') sp.si.ob):=by
    unfold oJ at hx
    split at hx<;>try (cases hx;done)
    rename_i hinj
    exact iU.1 (Bool.and_eq_true_iff.1 hinj).2
  have hFf:fi hp (hY sp.si aenv hp'):=hF.sub hs
  have e1:=mb hH hFf
  -- what came in,by its name there
  have inn:∀l,l<1000→l∈kU sp.so.ob→∃m r,cp sp.si aenv hp' l=some m∧m∈names (iP (cp sp.si aenv hp') sp.si.ob)∧hp m=some r∧r.own=true∧m<nx∧ρ' l=ρ m:=by
    intro l hl hm
    obtain ⟨p,h1,h2⟩:=m8 hm
    obtain ⟨o,ho⟩:=mf id (fun _=>none) sp.so.ob (jt id (fun _=>none) sp.so.sl y).2 p h1
    subst h2
    obtain ⟨g1,p',g2,g3⟩:=hEx.inn p.1 o ho hl
    obtain ⟨r,k1,k2,k3,k4⟩:=htO _ _ g2
    obtain ⟨m,hm'⟩:=oc hbk p h1 hl
    rw [k2] at hm'
    rcases k4.src with ⟨m',r',j1,j2,j3⟩|j1
    · refine ⟨m',r',by rw [k2];exact j1,jc k1 j1,hs _ _ j2,j3,(hH.ob _ _ (hs _ _ j2)).1,?_⟩
      rw [g1,hρi,k2,j1]
    · rw [j1] at hm';cases hm'
  have bk:∀l,ii (cp sp.si aenv hp') nx l=if 1000≤l then nx+(l-1000) else match cp sp.si aenv hp' l with|some m=>m|none=>nx:=by
    intro l
    unfold ii
    by_cases h:1000≤l
    · rw [if_pos h,if_pos (Nat.ble_eq_true_of_le h)]
    · rw [if_neg h,if_neg fun e=>h (Nat.le_of_ble_eq_true e)]
      cases cp sp.si aenv hp' l<;>rfl
  have hren:qh ρ' (mw ρ nx ρ') sp.so.nn (nx+(sp.so.nn-1000)) (kU sp.so.ob) (ii (cp sp.si aenv hp') nx):=by
    intro l hl hor
    rw [bk]
    by_cases h:1000≤l
    · rw [if_pos h]
      refine ⟨by omega,?_⟩
      unfold mw
      rw [if_neg (by omega)]
      congr 1
      omega
    · rw [if_neg h]
      obtain ⟨m,r,g1,g2,g3,g4,g5,g6⟩:=inn l (by omega) (hor.resolve_left h)
      simp only [g1]
      refine ⟨Nat.lt_of_lt_of_le g5 (Nat.le_add_right _ _),?_⟩
      unfold mw
      rw [if_pos g5,g6]
  obtain ⟨hso1,hso2⟩:=Bool.and_eq_true_iff.1 hso
  have hcρ:∀l,l<nx→mw ρ nx ρ' l=ρ l:=fun l hl=>by simp [mw,hl]
  have hS:gU (gZ ok ρ (names (hY sp.si aenv hp'))) ok' w w':=by
    intro b hb
    refine ⟨hEx.okm b hb,hEx.same b (e1.1.okl b hb) fun l o ho hw hbl=>?_⟩
    obtain ⟨m,p,h1,h2,h3,h4,h5⟩:=inBlk l o b ho hw hbl
    rcases hb with hb|⟨l',hl',hb⟩
    · exact hH.sep m p b h3 h4 h5 hb
    · rcases ie hFf l' with ⟨_,e,t,xs,k1,_⟩|⟨k1,_⟩
      · have:=hH.dis m l' p _ b h3 k1 h4 rfl h5 hb
        subst this
        exact hap m hl' h1
      · exact k1 hl'
  have hS0:gU ok ok' w w':=fun b hb=>hS b (.inl hb)
  -- an object now
  have now:∀q o,ups hp (eC sp.si aenv hp'++j6 (ii (cp sp.si aenv hp') nx) (eO sp.so (ii (cp sp.si aenv hp') nx) y) sp.so.ob) q=some o→
      (∃p∈sp.so.ob,q=ii (cp sp.si aenv hp') nx p.1∧∃o',eO sp.so id y p.1=some o'∧o'.own=o.own∧p.1<sp.so.nn∧ObR (mw ρ nx ρ') ok' w' (nx+(sp.so.nn-1000)) q o∧mw ρ nx ρ' q=ρ' p.1∧q<nx+(sp.so.nn-1000))∨
      ((∀p∈sp.so.ob,q≠ii (cp sp.si aenv hp') nx p.1)∧((q∉names (eC sp.si aenv hp')∧hp q=some o)∨∃e t xs,hp q=some (.arr e t xs)∧o=.frz e t xs∧q∈names (hY sp.si aenv hp'))):=by
    intro q o hq
    rw [kZ] at hq
    rcases ph (ii (cp sp.si aenv hp') nx) (eO sp.so (ii (cp sp.si aenv hp') nx) y) (ups hp (eC sp.si aenv hp')) sp.so.ob q with ⟨h1,h2⟩|⟨_,h2⟩
    · rw [h2] at hq
      refine .inr ⟨h1,?_⟩
      rcases sr sp.si aenv hp hp' hs q with ⟨g1,g2⟩|⟨g1,g2⟩|⟨_,g0,e,t,xs,g1,g2⟩
      · rw [g2] at hq;exact .inl ⟨g1,hq⟩
      · rw [g2] at hq;cases hq
      · rw [g2] at hq;cases hq;exact .inr ⟨e,t,xs,g1,rfl,g0⟩
    · rw [h2] at hq
      have hq':ofO (ii (cp sp.si aenv hp') nx) (fun _=>none) sp.so.ob (jt id (fun _=>none) sp.so.sl y).2 q=some o:=by
        rw [←pf (ii (cp sp.si aenv hp') nx) id (fun _=>none) (fun _=>none) sp.so.sl y];exact hq
      obtain ⟨p,k1,k2,o',k3,k4,k5⟩:=oy (ok:=ok') (w:=w') hren sp.so.ob _ hso2 q o hq'
      obtain ⟨k6,k7⟩:=hX.ob p.1 o' k3
      have hm:=ku k1
      have h8:=hren p.1 k6 (.inr hm)
      exact .inl ⟨p,k1,k2,o',k3,k4,k6,k5 k6 (.inr hm) k7,by rw [k2];exact h8.2,by rw [k2];exact h8.1⟩
  -- a new object's block,against one that was there,and is not gone
  have cross:∀(p:Nat×Bool×OSh) o' b,p∈sp.so.ob→eO sp.so id y p.1=some o'→o'.own=true→blk (ρ' p.1)=some b→w.heap.size≤b∨∃m r,m∈names (iP (cp sp.si aenv hp') sp.si.ob)∧hp m=some r∧r.own=true∧blk (ρ m)=some b:=by
    intro p o' b hp1 ho hw hb
    by_cases h:p.1<1000
    · obtain ⟨m,r,g1,g2,g3,g4,g5,g6⟩:=inn p.1 h (ku hp1)
      rw [g6] at hb
      exact .inr ⟨m,r,g2,g3,g4,hb⟩
    · rcases hEx.new p.1 o' b ho (by omega) hw hb with h1|⟨l,q,h1,h2,h3⟩
      · exact .inl h1
      · obtain ⟨m,r,g1,_,g2,g3,g4⟩:=inBlk l q b h1 h2 h3
        exact .inr ⟨m,r,g1,g2,g3,g4⟩
  have inLeave:∀m,m∈names (iP (cp sp.si aenv hp') sp.si.ob)→m∈names (eC sp.si aenv hp'):=fun m hm=>(gm sp.si m).2 (.inr hm)
  have frzLeave:∀m,m∈names (hY sp.si aenv hp')→m∈names (eC sp.si aenv hp'):=fun m hm=>(gm sp.si m).2 (.inl hm)
  have namesD:∀m,m∈names (eC sp.si aenv hp')→m∈names (eC sp.si aenv hp'++j6 (ii (cp sp.si aenv hp') nx) (eO sp.so (ii (cp sp.si aenv hp') nx) y) sp.so.ob):=fun m hm=>by
    simp only [names,List.map_append,List.mem_append] at hm ⊢
    exact .inl hm
  have namesD':∀m,m∈names (eC sp.si aenv hp'++j6 (ii (cp sp.si aenv hp') nx) (eO sp.so (ii (cp sp.si aenv hp') nx) y) sp.so.ob)↔m∈names (eC sp.si aenv hp')∨∃p∈sp.so.ob,m=ii (cp sp.si aenv hp') nx p.1:=fun m=>by
    have:=oe (ii (cp sp.si aenv hp') nx) (eO sp.so (ii (cp sp.si aenv hp') nx) y) sp.so.ob m
    simp only [names] at this
    simp only [names,List.map_append,List.mem_append,this]
  refine ⟨mw ρ nx ρ',⟨⟨?_,hX.okl,?_,?_,hX.gl⟩,⟨hEx.os,hEx.tape,hEx.output,hEx.size,by omega,?_,hcρ,fun b hb=>hEx.okm b (.inl hb),?_,?_,?_,?_⟩⟩,?_⟩
  · intro q o hq
    rcases now q o hq with ⟨p,h1,h2,o',h3,h4,h5,h6,h7,h8⟩|⟨h1,⟨h2,h3⟩|⟨e,t,xs,h2,rfl,h3⟩⟩
    · exact ⟨h8,h6⟩
    · obtain ⟨g1,g2⟩:=hH.ob q o h3
      refine ⟨by omega,g2.move hS0 hcρ (by omega) (hcρ q g1) fun hw b hb=>?_⟩
      refine hEx.same b (hH.lt h3 hw hb) fun l p hl hpw hbl=>?_
      obtain ⟨m,r,k1,_,k2,k3,k4⟩:=inBlk l p b hl hpw hbl
      have:=hH.dis m q r o b k2 h3 k3 hw k4 hb
      subst this
      exact h2 (inLeave m k1)
    · have g:=hH.ob q _ h2
      have k:ups hp (hY sp.si aenv hp') q=some (.frz e t xs):=by
        rcases ie hFf q with ⟨_,e',t',xs',k1,k2⟩|⟨k1,_⟩
        · rw [h2] at k1;cases k1;exact k2
        · exact absurd h3 k1
      have k2:=(e1.1.ob q _ k).2
      exact ⟨by omega,k2.move hS (fun l hl=>hcρ l (by omega)) (by omega) (hcρ q g.1) fun h=>by cases h⟩
  · intro q o b hq hw hb hok
    rcases now q o hq with ⟨p,h1,h2,o',h3,h4,h5,h6,h7,h8⟩|⟨h1,⟨h2,h3⟩|⟨e,t,xs,h2,rfl,h3⟩⟩
    · rw [h7] at hb
      exact hX.sep p.1 o' b h3 (h4.trans hw) hb hok
    · rw [hcρ q (hH.ob q o h3).1] at hb
      rcases hEx.okn b hok with (h|⟨l',hl',hbl⟩)|h|⟨l,r,hl,hrw,hbl⟩
      · exact hH.sep q o b h3 hw hb h
      · rcases ie hFf l' with ⟨_,e,t,xs,k1,_⟩|⟨k1,_⟩
        · have:=hH.dis q l' o _ b h3 k1 hw rfl hb hbl
          subst this
          exact h2 (frzLeave q hl')
        · exact k1 hl'
      · have:=hH.lt h3 hw hb;omega
      · obtain ⟨m,r',k1,_,k2,k3,k4⟩:=inBlk l r b hl hrw hbl
        have:=hH.dis m q r' o b k2 h3 k3 hw k4 hb
        subst this
        exact h2 (inLeave m k1)
    · cases hw
  · have AB:∀(q:Nat) (o:Ob) (q':Nat) (o':Ob) (b:Nat),(∃p∈sp.so.ob,q=ii (cp sp.si aenv hp') nx p.1∧∃o',eO sp.so id y p.1=some o'∧o'.own=o.own∧mw ρ nx ρ' q=ρ' p.1)→q'∉names (eC sp.si aenv hp')→hp q'=some o'→o.own=true→o'.own=true→
        blk (mw ρ nx ρ' q)=some b→blk (ρ q')=some b→False:=by
      rintro q o q' o' b ⟨p,h1,h2,o'',h3,h4,h7⟩ g2 g3 hw hw' hb hb'
      rw [h7] at hb
      rcases cross p o'' b h1 h3 (h4.trans hw) hb with h|⟨m,r,k1,k2,k3,k4⟩
      · have:=hH.lt g3 hw' hb';omega
      · have:=hH.dis m q' r o' b k2 g3 k3 hw' k4 hb'
        subst this
        exact g2 (inLeave m k1)
    intro q q' o o' b hq hq' hw hw' hb hb'
    rcases now q o hq with ⟨p,h1,h2,o2,h3,h4,h5,h6,h7,h8⟩|⟨h1,⟨h2,h3⟩|⟨e,t,xs,h2,rfl,h3⟩⟩
    · rcases now q' o' hq' with ⟨p',g1,g2,o3,g3,g4,g5,g6,g7,g8⟩|⟨g1,⟨g2,g3⟩|⟨e,t,xs,g2,rfl,g3⟩⟩
      · rw [h7] at hb;rw [g7] at hb'
        rw [h2,g2,hX.dis p.1 p'.1 o2 o3 b h3 g3 (h4.trans hw) (g4.trans hw') hb hb']
      · rw [hcρ q' (hH.ob q' o' g3).1] at hb'
        exact (AB q o q' o' b ⟨p,h1,h2,o2,h3,h4,h7⟩ g2 g3 hw hw' hb hb').elim
      · cases hw'
    · rw [hcρ q (hH.ob q o h3).1] at hb
      rcases now q' o' hq' with ⟨p',g1,g2,o3,g3,g4,g5,g6,g7,g8⟩|⟨g1,⟨g2,g3⟩|⟨e,t,xs,g2,rfl,g3⟩⟩
      · exact (AB q' o' q o b ⟨p',g1,g2,o3,g3,g4,g7⟩ h2 h3 hw' hw hb' hb).elim
      · rw [hcρ q' (hH.ob q' o' g3).1] at hb'
        exact hH.dis q q' o o' b h3 g3 hw hw' hb hb'
      · cases hw'
    · cases hw
  · intro b hb hne
    refine hEx.same b hb fun l o ho hw hbl=>?_
    obtain ⟨m,r,k1,_,k2,k3,k4⟩:=inBlk l o b ho hw hbl
    exact hne m (namesD m (inLeave m k1)) (hH.ob m r k2).1 r k2 k3 k4
  · intro b hb
    rcases hEx.okn b hb with (h|⟨l',hl',hbl⟩)|h|⟨l,r,hl,hrw,hbl⟩
    · exact .inl h
    · rcases ie hFf l' with ⟨_,e,t,xs,k1,_⟩|⟨k1,_⟩
      · exact .inr (.inr ⟨l',namesD l' (frzLeave l' hl'),(hH.ob l' _ k1).1,_,k1,rfl,hbl⟩)
      · exact absurd hl' k1
    · exact .inr (.inl h)
    · obtain ⟨m,r',k1,_,k2,k3,k4⟩:=inBlk l r b hl hrw hbl
      exact .inr (.inr ⟨m,namesD m (inLeave m k1),(hH.ob m r' k2).1,r',k2,k3,k4⟩)
  · intro l hl hn
    have hn':=fun h=>hn ((namesD' l).2 h)
    rw [kZ]
    rcases ph (ii (cp sp.si aenv hp') nx) (eO sp.so (ii (cp sp.si aenv hp') nx) y) (ups hp (eC sp.si aenv hp')) sp.so.ob l with ⟨h1,h2⟩|⟨h1,_⟩
    · rw [h2,im,gk.2 fun h=>hn' (.inl h)]
    · exact absurd (.inr h1) hn'
  · intro l hl o ho
    rcases now l o ho with ⟨p,h1,h2,o',h3,h4,h5,h6,h7,h8⟩|⟨h1,⟨h2,h3⟩|⟨e,t,xs,h2,rfl,h3⟩⟩
    · rw [bk] at h2
      by_cases h:1000≤p.1
      · rw [if_pos h] at h2;omega
      · obtain ⟨m,r,g1,g2,g3,g4,g5,g6⟩:=inn p.1 (by omega) (ku h1)
        rw [if_neg h,g1] at h2
        exact ⟨r,by rw [h2];exact g3,fun _=>g4⟩
    · exact ⟨o,h3,id⟩
    · exact ⟨_,h2,fun h=>by cases h⟩
  · intro l o b hl ho hw hb
    rcases now l o ho with ⟨p,h1,h2,o',h3,h4,h5,h6,h7,h8⟩|⟨h1,⟨h2,h3⟩|⟨e,t,xs,h2,rfl,h3⟩⟩
    · rw [h7] at hb
      rcases cross p o' b h1 h3 (h4.trans hw) hb with h|⟨m,r,k1,k2,k3,k4⟩
      · exact .inl h
      · exact .inr ⟨m,namesD m (inLeave m k1),(hH.ob m r k2).1,r,k2,k3,k4⟩
    · exact absurd (hH.ob l o h3).1 (by omega)
    · cases hw
  · intro s hs'
    obtain ⟨s',h1,h2⟩:=pg (ok:=ok') (w:=w') hren sp.so.sl y hso1 0 s hs'
    obtain ⟨v0,h3,h4⟩:=hXE 0 s' h1
    have:v0=v:=by simpa using h3.symm
    rw [←this]
    exact h2 v0 h4
theorem yf (hH:ew ρ ok w hp nx) {hp':cT} (hs:∀l o,hp' l=some o→hp l=some o) {si:Sh} {aenv:Env} {tmps:Array Value} (hE:eH ρ ok w nx aenv tmps)
 (hbel:iv si=true) (hnn:si.nn≤1000) {x:TS si} (hx:oJ si aenv hp'=some x):
 ∃ρi oki,ew ρi oki w (eO si id x) 1000∧eH ρi oki w 1000 (ik si id x) tmps∧∀w',ug ρi w (eO si id x) w'→∃ρ2 ok2,Eff ρ ok w hp nx (eC si aenv hp') 0 ρ2 ok2 w':=by
 obtain ⟨ρi,oki,i1,i2,i3⟩:=m9 (sp:=⟨0,si,⟨[],[],[],1000,[]⟩,fun _=>none⟩) hH hs hE hbel hnn rfl rfl hx
 refine ⟨ρi,oki,i1,i2,fun w' hp2=>?_⟩
 have hS:gU oki oki w w':=fun b hb=>⟨hb,hp2.same b (i1.okl b hb) fun l o ho hw hbl=>i1.sep l o b ho hw hbl hb⟩
 obtain ⟨ρ2,e,_⟩:=i3 () undef w' ρi oki ⟨fun l o h=>(by cases h),fun b hb=>Nat.lt_of_lt_of_le (i1.okl b hb) hp2.size,fun l o b h=>(by cases h),fun l m o p b h=>(by cases h),i1.gl.move hS⟩
  (fun t s h=>by cases h) ⟨hp2.os,hp2.tape,hp2.output,hp2.size,hp2.same,fun _ h=>h,fun _ h=> .inl h,fun l o h=>(by cases h),fun l o b h=>(by cases h)⟩
 refine ⟨ρ2,oki,?_⟩
 simpa [j6] using e
end
end Lv
end
section
namespace Lv
variable [gG]
open Go Go.RowKit
def lf (P : Program) (g : FuncId) : Prop := ∃ fn, P.funcs[g]? = some fn ∧ fn.body.isSome = true ∧ fn.name ≠ "runtime.NumGoroutine"
structure gT (P:Program) (cx:Cx):Prop where
 tab:gC P cx.tab
 eqs:qF P cx.eqs
 spec:∀g as hp sp,cx.spec g as hp=some sp→lf P g∧fk P g sp
 specP:∀g as hp sp,cx.specP g as hp=some sp→lf P g∧m7 P g cx.pan sp
def jy (P : Program) (pan : Nat) (inl : Inl) : Prop := ∀ (R : Type) (g : Nat) (args : List (Option fE)) (hp : cT) (nx : Nat) (dt : List Nat) (κ : Option fE → cT → Nat → List Nat → Option R) (κp : Int → cT → Nat → List Nat → Option R) (r : R),inl R g args hp nx dt κ κp = some r →
  lf P g∧∀(ρ:Nat→Value) (ok:Nat→Prop) (w:World) (vals:Array Value),ew ρ ok w hp nx→eH ρ ok w nx (gY args) vals→
    Calls P g vals w fun e w'=>(∃v s hp' nx' dt' D ρ' ok',e=.returned v∧κ s hp' nx' dt'=some r∧dt'=D++dt∧ew ρ' ok' w' hp' nx'∧(∀sl,s=some sl→ij ρ' ok' w' nx' sl v)∧gV ρ ok w hp nx D ρ' ok' w' hp' nx')∨
      (∃n hp' nx' dt' D ρ' ok',e=.panicked (qK pan n)∧κp n hp' nx' dt'=some r∧dt'=D++dt∧ew ρ' ok' w' hp' nx'∧gV ρ ok w hp nx D ρ' ok' w' hp' nx')
theorem vo (P:Program) (pan:Nat):jy P pan inl0:=fun R g args hp nx dt κ κp r h=>by cases h
structure Tm (W:List Nat) (a a':Act):Prop where
 size:a'.tmps.size=a.tmps.size
 defers:a'.defers=a.defers
 same:∀t,t∉W→a'.tmps[t]?=a.tmps[t]?
theorem Tm.refl (W:List Nat) (a:Act):Tm W a a:=⟨rfl,rfl,fun _ _=>rfl⟩
theorem Tm.trans {V W U:List Nat} {a b c:Act} (h:Tm V a b) (k:Tm W b c) (hV:∀t∈V,t∈U) (hW:∀t∈W,t∈U):Tm U a c:=
 ⟨k.size.trans h.size,k.defers.trans h.defers,fun t ht=>(k.same t fun h=>ht (hW t h)).trans (h.same t fun h=>ht (hV t h))⟩
theorem Tm.mono {V W:List Nat} {a b:Act} (h:Tm V a b) (hV:∀t∈V,t∈W):Tm W a b:=⟨h.size,h.defers,fun t ht=>h.same t fun h=>ht (hV t h)⟩
theorem Tm.put (a:Act) (o:Oper) (v:Value):Tm (gX o) a (a.put o.dst v):=by
 cases hd:o.dst with
 |none=>exact ⟨rfl,rfl,fun _ _=>rfl⟩
 |some t=>
  refine ⟨by simp [Act.put],rfl,fun i hi=>?_⟩
  simp only [gX,hd,List.mem_singleton] at hi
  simp only [Act.put]
  exact Array.getElem?_setIfInBounds_ne (fun e=>hi e.symm)
def jO (st:St) (ρ:Nat→Value) (ok:Nat→Prop) (w:World) (a:Act) (W:List Nat) (st':St) (a':Act) (w':World):Prop:=
 ∃ρ' ok' D,st'.dt=D++st.dt∧ew ρ' ok' w' st'.hp st'.nx∧eH ρ' ok' w' st'.nx st'.env a'.tmps∧gV ρ ok w st.hp st.nx D ρ' ok' w' st'.hp st'.nx∧Tm W a a'
section
variable {P:Program} {cx:Cx} {inl:Inl} {R:Type}
theorem kw {ρ ok w nx env} {a:Act} (he:eH ρ ok w nx env a.tmps) {d:Option Nat} {v:Value} {s:Option fE} (hs:∀x,s=some x→ij ρ ok w nx x v) (hd:∀t,d=some t→t<a.tmps.size):
 eH ρ ok w nx (gj env d s) (a.put d v).tmps:=by
 have:=eH.put he hs hd
 cases d<;>exact this
theorem lg {g:FuncId} (h:lf P g) (args:Array Value) (w:World):(callFunc g args).run P w=.ok (.enter g args) w:=by
 obtain ⟨fn,h1,h2,h3⟩:=h
 have h4:¬(fn.body.isNone=true):=by cases hb:fn.body with|none=>rw [hb] at h2;cases h2|some _=>simp
 simp only [callFunc,Sem.run_bind,run_program,Result.andThen_ok,h1,beq_iff_eq,h3,if_false,h4,Bool.false_eq_true,Sem.run_pure]
theorem mG:∀(l:List (Option fE)) (n:Nat),gY l n=(l[n]?).getD none
 | [],n=>by cases n<;>rfl
 |s::r,0=>rfl
 |s::r,n+1=>by simp only [gY,List.getElem?_cons_succ];exact mG r n
theorem qi {ρ ok w} {st : St} {a : Act} {hp' : cT} (hN : Now P ρ ok w st a hp') {f : Operand} {args : Array Operand} {ts : Array TypeId} {o : Oper} (ho : o.op = .call { callee := .value f,args,argTypes := ts })
    {g:Nat} {as:List (Option fE)} (h:mW hp' (eN (opd st.env f)) (args.toList.map (opd st.env))=some (g,as)):
    ∃vals:Array Value,vals.size=as.length∧eH ρ ok w st.nx (gY as) vals∧(lf P g→(execOp a.eval o).run P w=.ok (.enter g vals) w):=by
  have hargs:∀(n:Nat) (s:fE),(args.toList.map (opd st.env))[n]?=some (some s)→∃v,(args.map a.eval)[n]?=some v∧ij ρ ok w st.nx s v:=by
    intro n s hs
    rw [List.getElem?_map] at hs
    cases hx:args.toList[n]? with
    |none=>rw [hx] at hs;cases hs
    |some x=>
      rw [hx] at hs
      simp at hs
      refine ⟨a.eval x,?_,jf hN.E hs⟩
      have:args[n]?=some x:=by simpa using hx
      simp [this]
  unfold mW at h
  split at h<;>try (cases h;done)
  · rename_i g' hc
    cases h
    have hf:a.eval f=.func (.func g) #[] #[]:=(dc (c:=.val (.func (.func g) #[] #[])) hN.E hc).1
    refine ⟨args.map a.eval,by simp,?_,fun hE=>?_⟩
    · intro t s hs
      rw [mG] at hs
      cases hx:(args.toList.map (opd st.env))[t]? with
      |none=>rw [hx] at hs;cases hs
      |some y=>rw [hx] at hs;simp at hs;subst hs;exact hargs t s hx
    · simp only [execOp,ho,resolve,hf,Deferred.ofValue,Sem.run_bind,Sem.run_pure,Result.andThen_ok,invoke]
      rw [lg hE]
      simp
  · rename_i l hc
    split at h<;>try (cases h;done)
    rename_i g' first caps hl
    cases h
    obtain ⟨_,fs,cs,h1,h2,h3⟩:=hN.H.ob l _ (hN.sub _ _ hl)
    have hf:a.eval f=.func (.func g) fs.toArray cs.toArray:=(dc (c:=.ref l) hN.E hc).2.1.trans h1
    refine ⟨(fs.toArray++args.map a.eval)++cs.toArray,by simp [h2.len,h3.len],?_,fun hE=>?_⟩
    · intro t s hs
      rw [mG] at hs
      have hlf:=h2.len
      have hlc:=h3.len
      simp only [List.getElem?_append,List.length_append,List.length_map,Array.length_toList,List.getElem?_map] at hs
      simp only [Array.getElem?_append,List.size_toArray,Array.size_append,Array.size_map,List.getElem?_toArray]
      split at hs
      · rename_i ht
        rw [if_pos (by omega)]
        split at hs
        · rename_i ht2
          rw [if_pos (by omega)]
          have hx:first[t]?=some (first[t]'ht2):=List.getElem?_eq_getElem ht2
          rw [hx] at hs
          simp at hs
          subst hs
          obtain ⟨v,hv1,hv2⟩:=h2.get t _ hx
          exact ⟨v,hv1,hv2⟩
        · rename_i ht2
          rw [if_neg (by omega),←hlf]
          have hx:args.toList[t-first.length]?=some (args.toList[t-first.length]'(by simp;omega)):=List.getElem?_eq_getElem _
          rw [hx] at hs
          simp only [Option.map_some,Option.getD_some] at hs
          exact hargs _ s (by rw [List.getElem?_map,hx,Option.map_some,hs])
      · rename_i ht
        rw [if_neg (by omega)]
        cases hx:caps[t-(first.length+args.size)]? with
        |none=>rw [hx] at hs;cases hs
        |some c=>
          rw [hx] at hs
          simp at hs
          subst hs
          obtain ⟨v,hv1,hv2⟩:=h3.get _ _ hx
          exact ⟨v,by rw [←hlf];exact hv1,hv2⟩
    · simp only [execOp,ho,resolve,hf,Deferred.ofValue,Sem.run_bind,Sem.run_pure,Result.andThen_ok,invoke]
      rw [lg hE]
theorem vt (hT:gC P cx.tab) {ρ ok w} {st:St} {a:Act} (hE:eH ρ ok w st.nx st.env a.tmps) {t:Nat} {x:Operand} {q e q':Bool} (h:nilX cx t (eN (opd st.env x)) q=some (e,q')):
 q'=q∧∃A n c el,P.underlying t=some (.slice el)∧a.eval x=.slice A n c∧(e=false→A.isNone=false):=by
 unfold nilX at h
 split at h<;>try (cases h;done)
 rename_i e' _ _ _ _ _ f u xs h1 h2
 cases h
 refine ⟨rfl,?_⟩
 obtain ⟨A,cap,k1,k2,k3⟩:=dc (c:=.sl f u xs) hE h2
 cases k1':xs with
 |nil=>
  have:=List.cons.inj k1
  exact ⟨A,_,cap,e',(hT t _ h1).sl rfl,this.1,fun h=>by simp [k1'] at h⟩
 |cons y r=>
  refine ⟨A,_,cap,e',(hT t _ h1).sl rfl,(List.cons.inj k1).1,fun _=>?_⟩
  rcases k3 with k3|⟨b,o,k3,_⟩
  ·rw [k1'] at k3;cases k3
  ·rw [k3];rfl
theorem Ah (hT:gC P cx.tab) {ρ ok w} {st:St} {a:Act} (hE:eH ρ ok w st.nx st.env a.tmps) {o:Oper} {e q:Bool} (h:nilQ cx st.env o.op=some (e,q)):
 ∃b,(execOp a.eval o).run P w=.ok (.value (.bool b)) w∧(e=false→b= !q):=by
 generalize ho:o.op=op at h
 unfold nilQ at h
 split at h<;>try (cases h;done)
 ·rename_i t x u
  obtain ⟨rfl,A,n,c,el,h1,h2,h3⟩:=vt hT hE h
  refine ⟨A.isNone,?_,fun he=>by rw [h3 he];rfl⟩
  have hy:a.eval (.const (.slice none 0 0))=.slice none 0 0:=rfl
  have hg:(eqGuard .eql t x (.const (.slice none 0 0)) (.slice A n c) (.slice none 0 0)).run P w=.ok () w:=rfl
  have hq:(Op.equal t (.slice A n c) (.slice none 0 0)).run P w=.ok A.isNone w:=run_equal_slice_nil w t el A n c h1
  have hb:(Go.binOp .eql t (.slice A n c) (.slice none 0 0)).run P w=.ok (.bool A.isNone) w:=by
   simp only [Go.binOp,Sem.run_bind,hq,Result.andThen_ok,Sem.run_pure]
  simp only [execOp,ho,h2,hy,Sem.run_bind,hg,Result.andThen_ok,hb,Sem.run_pure]
 ·rename_i t x u
  obtain ⟨rfl,A,n,c,el,h1,h2,h3⟩:=vt hT hE h
  refine ⟨!A.isNone,?_,fun he=>by rw [h3 he]⟩
  have hy:a.eval (.const (.slice none 0 0))=.slice none 0 0:=rfl
  have hg:(eqGuard .neq t x (.const (.slice none 0 0)) (.slice A n c) (.slice none 0 0)).run P w=.ok () w:=rfl
  have hq:(Op.equal t (.slice A n c) (.slice none 0 0)).run P w=.ok A.isNone w:=run_equal_slice_nil w t el A n c h1
  have hb:(Go.binOp .neq t (.slice A n c) (.slice none 0 0)).run P w=.ok (.bool (!A.isNone)) w:=by
   simp only [Go.binOp,Sem.run_bind,hq,Result.andThen_ok,Sem.run_pure]
  simp only [execOp,ho,h2,hy,Sem.run_bind,hg,Result.andThen_ok,hb,Sem.run_pure]
def iR {R:Type} (pan:Nat) (κp:Int→St→Option R) (r:R) (st:St) (ρ:Nat→Value) (ok:Nat→Prop) (w:World) (a:Act) (W:List Nat) (Q:Exit→Act→World→Prop):Prop:=
 ∀n st' a' w',κp n st'=some r→jO st ρ ok w a W st' a' w'→Q (.panic (qK pan n)) a' w'
theorem iR.mono {pan:Nat} {κp:Int→St→Option R} {r:R} {st:St} {ρ ok w a V W Q} (h:iR pan κp r st ρ ok w a W Q) (hV:∀t∈V,t∈W):iR pan κp r st ρ ok w a V Q:=
 fun n st' a' w' h1 ⟨ρ',ok',D,g1,g2,g3,g4,g5⟩=>h n st' a' w' h1 ⟨ρ',ok',D,g1,g2,g3,g4,g5.mono hV⟩
theorem iR.next {pan:Nat} {κp:Int→St→Option R} {r:R} {st:St} {ρ ok w a W Q} (h:iR pan κp r st ρ ok w a W Q) {V U:List Nat} {st1:St} {a1:Act} {w1:World} {ρ1 ok1 D} (hdt:st1.dt=D++st.dt)
 (g:gV ρ ok w st.hp st.nx D ρ1 ok1 w1 st1.hp st1.nx) (ht:Tm V a a1) (hV:∀t∈V,t∈W) (hU:∀t∈U,t∈W):iR pan κp r st1 ρ1 ok1 w1 a1 U Q:=
 fun n st' a' w' h1 ⟨ρ2,ok2,D2,j1,j2,j3,j4,j5⟩=>h n st' a' w' h1 ⟨ρ2,ok2,D2++D,by rw [j1,hdt,List.append_assoc],j2,j3,g.trans j4,ht.trans j5 hV hU⟩
theorem Ai (hcx : gT P cx) (hinl : jy P cx.pan inl) {o : Oper} {st : St} {κ : St → Option R} {κp : Int → St → Option R} {r : R} (h : step cx inl o st κ κp = some r) {ρ ok w} {a : Act}
    (hH:ew ρ ok w st.hp st.nx) (hE:eH ρ ok w st.nx st.env a.tmps) (hd:∀t∈gX o,t<a.tmps.size) (Q:Exit→Act→World→Prop) (hQp:iR cx.pan κp r st ρ ok w a (gX o) Q):
    o.wp P a w (fun a' w'=>∃st',κ st'=some r∧jO st ρ ok w a (gX o) st' a' w') Q:=by
  have hN:Now P ρ ok w st a st.hp:=⟨hH,hE,fun _ _ h=>h⟩
  have hd':∀t,o.dst=some t→t<a.tmps.size:=fun t ht=>hd t (by simp [gX,ht])
  -- an operation that calls nothing
  have plain:(match nilQ cx st.env o.op with
    |some (e,q)=>bif e then rR (fun b=>κ ⟨gj st.env o.dst (some (.v false [.bool b])),st.hp,st.nx,st.dt⟩)
        else κ ⟨gj st.env o.dst (some (.v false [.bool (!q)])),st.hp,st.nx,st.dt⟩
    |none=>match gR cx st.nx o.op (opd st.env) st.hp with
      |some r=>bif r.c then κ ⟨gj st.env o.dst r.s,ups st.hp r.up,st.nx+r.nw,names r.up++st.dt⟩ else none
      |none=>none)=some r→o.wp P a w (fun a' w'=>∃st',κ st'=some r∧jO st ρ ok w a (gX o) st' a' w') Q:=by
    intro h
    split at h
    · rename_i e q hq
      obtain ⟨b,h1,h2⟩:=Ah hcx.tab hE hq
      have hk:κ ⟨gj st.env o.dst (some (.v false [.bool b])),st.hp,st.nx,st.dt⟩=some r:=by
        cases e with
        |true=>
          have h:rR (fun b=>κ ⟨gj st.env o.dst (some (.v false [.bool b])),st.hp,st.nx,st.dt⟩)=some r:=h
          exact wn h b
        |false=>rw [h2 rfl];exact h
      unfold Oper.wp
      rw [h1]
      exact ⟨_,hk,ρ,ok,[],rfl,hH,kw hE (fun x hx=>by cases hx;exact ⟨_,rfl,rfl⟩) hd',gV.refl fun l o ho=>(hH.ob l o ho).1,Tm.put a o _⟩
    split at h<;>try (cases h;done)
    rename_i res hres
    cases hc:res.c with
    |false=>rw [hc] at h;cases h
    |true=>
      rw [hc] at h
      have h:κ ⟨gj st.env o.dst res.s,ups st.hp res.up,st.nx+res.nw,names res.up++st.dt⟩=some r:=h
      obtain ⟨n,w',ρ',ok',h1,h2,h3⟩:=vj cx hcx.tab hcx.eqs hN hres hc
      have hE':=hE.move h2.2 hH
      unfold Oper.wp
      rw [h1]
      rcases h3 with ⟨v,rfl,hs⟩|⟨rfl,hs⟩
      · exact ⟨_,h,ρ',ok',names res.up,rfl,h2.1,kw hE' hs hd',h2.2,Tm.put a o v⟩
      · exact ⟨_,h,ρ',ok',names res.up,rfl,h2.1,kw hE' (fun x hx=>by rw [hs] at hx;cases hx) hd',h2.2,Tm.put a o undef⟩
  unfold step at h
  split at h
  · rename_i f args ts ho
    split at h<;>try (cases h;done)
    rename_i g as hg
    obtain ⟨vals,hsz,hv,hrun⟩:=qi hN ho hg
    split at h
    · rename_i sp hsp
      obtain ⟨hent,hspec⟩:=hcx.spec g _ _ sp hsp
      split at h<;>try (cases h;done)
      rename_i cr hcr
      unfold qA at hcr
      split at hcr<;>try (cases hcr;done)
      rename_i hn
      split at hcr<;>try (cases hcr;done)
      rename_i hchk
      simp only [Bool.and_eq_true] at hchk
      obtain ⟨c1,c2,c3,c4⟩:=hchk
      split at hcr<;>try (cases hcr;done)
      rename_i x hx
      cases hcr
      obtain ⟨y,hy,hκ⟩:=Option.bind_eq_some_iff.1 h
      obtain ⟨ρi,oki,i1,i2,i3⟩:=m9 hH (fun _ _ h=>h) hv c1 (Nat.le_of_ble_eq_true c2) c3 c4 hx
      unfold Oper.wp
      rw [hrun hent]
      rw [Oper.upon_enter]
      refine (hspec x y hy ρi oki w vals (by rw [hsz];exact Nat.eq_of_beq_eq_true hn) i1 i2).mono ?_
      rintro e w' ⟨v,ρ',ok',rfl,e1,e2,e3⟩
      obtain ⟨ρ2,e4,e5⟩:=i3 y v w' ρ' ok' e1 e2 e3
      have hE':=hE.move e4.2 hH
      exact ⟨_,hκ,ρ2,ok',_,rfl,e4.1,kw hE' e5 hd',e4.2,Tm.put a o v⟩
    · split at h
      · rename_i sp hsp
        obtain ⟨hent,hspec⟩:=hcx.specP g _ _ sp hsp
        split at h<;>try (cases h;done)
        rename_i cr hcr
        unfold u4 at hcr
        split at hcr<;>try (cases hcr;done)
        rename_i hn
        split at hcr<;>try (cases hcr;done)
        rename_i hchk
        simp only [Bool.and_eq_true] at hchk
        obtain ⟨c1,c2,c3,c4⟩:=hchk
        split at hcr<;>try (cases hcr;done)
        rename_i x hx
        cases hcr
        obtain ⟨z,hz,hκ⟩:=Option.bind_eq_some_iff.1 h
        cases z with
        |inl y=>
          obtain ⟨ρi,oki,i1,i2,i3⟩:=m9 (sp:=⟨sp.n,sp.si,sp.so,fun _=>none⟩) hH (fun _ _ h=>h) hv c1 (Nat.le_of_ble_eq_true c2) c3 c4 hx
          unfold Oper.wp
          rw [hrun hent]
          rw [Oper.upon_enter]
          refine (hspec x _ hz ρi oki w vals (by rw [hsz];exact Nat.eq_of_beq_eq_true hn) i1 i2).mono ?_
          intro e w' he
          obtain ⟨v,ρ',ok',rfl,e1,e2,e3⟩:=he
          obtain ⟨ρ2,e4,e5⟩:=i3 y v w' ρ' ok' e1 e2 e3
          have hE':=hE.move e4.2 hH
          exact ⟨_,hκ,ρ2,ok',_,rfl,e4.1,kw hE' e5 hd',e4.2,Tm.put a o v⟩
        |inr n=>
          obtain ⟨ρi,oki,i1,i2,i4⟩:=yf hH (fun _ _ h=>h) hv c1 (Nat.le_of_ble_eq_true c2) hx
          unfold Oper.wp
          rw [hrun hent]
          rw [Oper.upon_enter]
          refine (hspec x _ hz ρi oki w vals (by rw [hsz];exact Nat.eq_of_beq_eq_true hn) i1 i2).mono ?_
          intro e w' he
          obtain ⟨rfl,e1⟩:=he
          obtain ⟨ρ2,ok2,e4⟩:=i4 w' e1
          exact hQp n _ a w' hκ ⟨ρ2,ok2,_,rfl,e4.1,hE.move e4.2 hH,e4.2,Tm.refl _ _⟩
      · obtain ⟨hent,hcall⟩:=hinl R g as st.hp st.nx st.dt _ _ r h
        unfold Oper.wp
        rw [hrun hent]
        rw [Oper.upon_enter]
        refine (hcall ρ ok w vals hH hv).mono ?_
        rintro e w' (⟨v,s,hp',nx',dt',D,ρ',ok',rfl,hκ,hdt,e1,e2,e3⟩|⟨n,hp',nx',dt',D,ρ',ok',rfl,hκ,hdt,e1,e3⟩)
        · have hE':=hE.move e3 hH
          exact ⟨_,hκ,ρ',ok',D,hdt,e1,kw hE' e2 hd',e3,Tm.put a o v⟩
        · exact hQp n _ a w' hκ ⟨ρ',ok',D,hdt,e1,hE.move e3 hH,e3,Tm.refl _ _⟩
  · rename_i x ho
    split at h<;>try (cases h;done)
    rename_i t n hx
    split at h<;>try (cases h;done)
    rename_i ht
    have ht:=Nat.eq_of_beq_eq_true ht
    have hv:=(dc hE hx).1
    unfold Oper.wp
    have hrun:(execOp a.eval o).run P w=.halt (.panic (wm cx.pan n)) w:=by
      simp only [execOp,ho,hv,Instr.panic]
      rw [←ht]
      rfl
    rw [hrun,Oper.upon_panic]
    exact hQp n st a w h ⟨ρ,ok,[],rfl,hH,hE,gV.refl fun l o ho=>(hH.ob l o ho).1,Tm.refl _ _⟩
  · exact plain h
theorem wp_op {o:Oper} {ops:Array Oper} {a:Act} {w:World} {K:Act→World→Prop} {Q:Exit→Act→World→Prop} {i:Nat} (ho:ops[i]?=some o)
 (h:if Region.wanted o (yielded ops a.tmps) then o.wp P a w K Q else K (a.put o.dst undef) w):wpOp P ops Q i K a w:=by
 unfold wpOp
 rw [ho]
 simp only
 split
 ·rename_i hw;rw [if_pos hw] at h;exact .inl h
 ·rename_i hw;rw [if_neg hw] at h;exact h
theorem yg (hcx : gT P cx) (hinl : jy P cx.pan inl) (ops : Array Oper) {o : Oper} {st : St} {κ : St → Option R} {κp : Int → St → Option R} {r : R} (h : ev1 cx inl ops o st κ κp = some r) {ρ ok w} {a : Act}
    (hH:ew ρ ok w st.hp st.nx) (hE:eH ρ ok w st.nx st.env a.tmps) (hdo:∀t∈gX o,t<a.tmps.size) {K:Act→World→Prop} {Q:Exit→Act→World→Prop}
    (hQ:∀st' a' w',κ st'=some r→jO st ρ ok w a (gX o) st' a' w'→K a' w') (hQp:iR cx.pan κp r st ρ ok w a (gX o) Q):
    if Region.wanted o (yielded ops a.tmps) then o.wp P a w K Q else K (a.put o.dst undef) w:=by
  -- the operation is done,from a state with the same memory
  have doIt:∀env,eH ρ ok w st.nx env a.tmps→step cx inl o ⟨env,st.hp,st.nx,st.dt⟩ κ κp=some r→o.wp P a w K Q:=by
    intro env hEnv hs
    refine Oper.wp_mono ?_ (Ai hcx hinl hs hH hEnv hdo Q hQp)
    rintro a1 w1 ⟨st1,h1,h2⟩
    exact hQ st1 a1 w1 h1 h2
  -- the operation is left out
  have skipIt:∀env,eH ρ ok w st.nx env a.tmps→κ ⟨gj env o.dst (some (.tup [])),st.hp,st.nx,st.dt⟩=some r→K (a.put o.dst undef) w:=by
    intro env hEnv hs
    have hEn:=kw (v:=undef) (s:=some (.tup [])) hEnv (fun x hx=>by cases hx;exact ⟨[],rfl,.nil⟩) (d:=o.dst) (fun t ht=>hdo t (by simp [gX,ht]))
    exact hQ _ _ _ hs ⟨ρ,ok,[],rfl,hH,hEn,gV.refl fun l o ho=>(hH.ob l o ho).1,Tm.put a o undef⟩
  unfold ev1 at h
  split at h
  · rename_i hg
    rw [if_pos (by simp [Region.wanted,hg])]
    exact doIt st.env hE h
  · rename_i gd want hg
    split at h<;>try (cases h;done)
    rename_i t ht
    split at h
    case h_2=>
      split at h<;>try (cases h;done)
      rename_i hu
      obtain ⟨v,hv1,vs,hv2,hv3⟩:=hE t _ hu
      cases hv3
      subst hv2
      have hy:yielded ops a.tmps gd=none:=by simp [yielded,ht,hv1]
      rw [if_neg (by simp [Region.wanted,hg,hy])]
      exact skipIt _ hE h
    rename_i b hb
    obtain ⟨v,hv1,hv2⟩:=hE t _ (kq hb)
    obtain ⟨c,e,hv2⟩:=hv2
    cases e
    have hv:v=.bool b:=hv2
    subst hv
    have hy:yielded ops a.tmps gd=some b:=by simp [yielded,ht,hv1]
    have hEb:∀b',b=b'→eH ρ ok w st.nx (Lv.put st.env t (some (.v false [.bool b']))) a.tmps:=by
      intro b' e i s hs
      subst e
      simp only [Lv.put] at hs
      split at hs
      · rename_i hi
        cases hs
        rw [Nat.eq_of_beq_eq_true hi]
        exact ⟨_,hv1,_,rfl,rfl⟩
      · exact hE i s hs
    cases b with
    |true=>
      simp only [cond_true] at h
      cases want with
      |true=>
        rw [if_pos (by simp [Region.wanted,hg,hy])]
        exact doIt _ (hEb true rfl) h
      |false=>
        rw [if_neg (by simp [Region.wanted,hg,hy])]
        exact skipIt _ (hEb true rfl) h
    |false=>
      simp only [cond_false] at h
      cases want with
      |false=>
        rw [if_pos (by simp [Region.wanted,hg,hy])]
        exact doIt _ (hEb false rfl) h
      |true=>
        rw [if_neg (by simp [Region.wanted,hg,hy])]
        exact skipIt _ (hEb false rfl) h
theorem ss (hcx:gT P cx) (hinl:jy P cx.pan inl) (ops:Array Oper):∀(l:List Oper) (st:St) (κ:St→Option R) (κp:Int→St→Option R) (r:R),xI cx inl ops l st κ κp=some r→∀ρ ok w (a:Act),
    ew ρ ok w st.hp st.nx→eH ρ ok w st.nx st.env a.tmps→(∀o∈l,∀t∈gX o,t<a.tmps.size)→∀(Q:Exit→Act→World→Prop),
    (∀st' a' w',κ st'=some r→jO st ρ ok w a (l.flatMap gX) st' a' w'→Q .normal a' w')→iR cx.pan κp r st ρ ok w a (l.flatMap gX) Q→wpList P ops Q l a w
  | [],st,κ,κp,r,h,ρ,ok,w,a,hH,hE,_,Q,hQ,_=>hQ st a w h ⟨ρ,ok,[],rfl,hH,hE,gV.refl fun l o ho=>(hH.ob l o ho).1,Tm.refl _ _⟩
  | o :: l,st,κ,κp,r,h,ρ,ok,w,a,hH,hE,hd,Q,hQ,hQp => by
    have hdo:∀t∈gX o,t<a.tmps.size:=hd o List.mem_cons_self
    have key:=yg hcx hinl ops (K:=wpList P ops Q l) h hH hE hdo (fun st1 a1 w1 h1 h2=>by
      obtain ⟨ρ1,ok1,D,k1,k2,k3,k4,k5⟩:=h2
      refine ss hcx hinl ops l st1 κ κp r h1 ρ1 ok1 w1 a1 k2 k3 (fun o' ho' t ht=>by rw [k5.size];exact hd o' (List.mem_cons_of_mem _ ho') t ht) Q (fun st2 a2 w2 g1 g2=>hQ st2 a2 w2 g1 ?_) (hQp.next k1 k4 k5 (fun t ht=>by simp [ht]) (fun t ht=>by simp only [List.flatMap_cons,List.mem_append];exact .inr ht))
      obtain ⟨ρ2,ok2,D2,j1,j2,j3,j4,j5⟩:=g2
      exact ⟨ρ2,ok2,D2++D,by rw [j1,k1,List.append_assoc],j2,j3,k4.trans j4,k5.trans j5 (fun t ht=>by simp [ht]) (fun t ht=>by simp only [List.flatMap_cons,List.mem_append];exact .inr ht)⟩) (hQp.mono fun t ht=>by simp [ht])
    unfold wpList
    split
    · rename_i hw;rw [if_pos hw] at key;exact .inl key
    · rename_i hw;rw [if_neg hw] at key;exact key
theorem nI {ls:List Bool}:∀{es:List Edge},oM ls es=true↔∀e∈es,Region.binds .any e=true→ls.getD e.on false=true
 | []=>by simp [oM]
 |e::r=>by
  simp only [oM,Bool.and_eq_true,Bool.or_eq_true,Bool.not_eq_true',nI (es:=r),List.mem_cons,forall_eq_or_imp]
  refine and_congr ?_ Iff.rfl
  cases Region.binds .any e<;>simp
theorem su {ls : List Bool} {j : Nat} : ∀ {l : List Oper} {i : Nat},j ∈ rT ls i l ↔ i ≤ j ∧ ls.getD j true = false ∧ ∃ o,l[j - i]? = some o ∧ ∀ e ∈ o.after.toList,Region.binds .any e = true → ls.getD e.on false = true
  | [],i=>by simp [rT]
  | o :: r,i => by
    have ih:=su (ls:=ls) (j:=j) (l:=r) (i:=i+1)
    have tail:(i+1≤j∧ls.getD j true=false∧∃o',r[j-(i+1)]?=some o'∧∀e∈o'.after.toList,Region.binds .any e=true→ls.getD e.on false=true)↔
        (j≠i∧i≤j∧ls.getD j true=false∧∃o',(o::r)[j-i]?=some o'∧∀e∈o'.after.toList,Region.binds .any e=true→ls.getD e.on false=true):=by
      constructor
      · rintro ⟨h1,h2,o',h3,h4⟩
        refine ⟨by omega,by omega,h2,o',?_,h4⟩
        rw [show j-i=(j-(i+1))+1 by omega,List.getElem?_cons_succ];exact h3
      · rintro ⟨h0,h1,h2,o',h3,h4⟩
        refine ⟨by omega,h2,o',?_,h4⟩
        rw [show j-i=(j-(i+1))+1 by omega,List.getElem?_cons_succ] at h3;exact h3
    unfold rT
    cases hb:(!(ls.getD i true)&&oM ls o.after.toList) with
    |true=>
      simp only [cond_true,List.mem_cons,ih,tail]
      simp only [Bool.and_eq_true,Bool.not_eq_true',nI] at hb
      constructor
      · rintro (rfl|⟨_,h⟩)
        · exact ⟨Nat.le_refl _,hb.1,o,by simp,hb.2⟩
        · exact h
      · intro h
        by_cases e:j=i
        · exact .inl e
        · exact .inr ⟨e,h⟩
    |false=>
      simp only [cond_false,ih,tail]
      constructor
      · exact fun h=>h.2
      · intro h
        refine ⟨fun e=>?_,h⟩
        subst e
        obtain ⟨h1,h2,o',h3,h4⟩:=h
        simp at h3
        subst h3
        have:(!(ls.getD j true)&&oM ls o.after.toList)=true:=by
          rw [Bool.and_eq_true,Bool.not_eq_true',nI];exact ⟨h2,h4⟩
        rw [this] at hb;cases hb
theorem sv {ops:Array Oper} {listed:Array Bool} {j:Nat}:j∈Region.ready .any ops listed↔j∈rT listed.toList 0 ops.toList:=by
 rw [mem_ready,su]
 simp only [Nat.zero_le,true_and,Nat.sub_zero,Array.getElem?_toList,Array.mem_toList_iff]
 simp only [Array.getD_eq_getD_getElem?,List.getD_eq_getElem?_getD,Array.getElem?_toList]
theorem sx:∀(l:List Bool) (i:Nat),l[i]?=some false→(l.set i true).countP (! ·)+1=l.countP (! ·)
 | [],i,h=>by simp at h
 |b::r,0,h=>by simp at h;subst h;simp
 |b::r,i+1,h=>by
  have:=sx r i (by simpa using h)
  simp only [List.set_cons_succ,List.countP_cons]
  omega
theorem wI:∀(l:List Bool),l.countP (! ·)=0→∀i,i<l.length→l[i]?=some true:=by
 intro l h i hi
 rw [List.countP_eq_zero] at h
 have:=h l[i] (List.getElem_mem hi)
 rw [List.getElem?_eq_getElem hi]
 simpa using this
theorem yh (hcx : gT P cx) (hinl : jy P cx.pan inl) (ops : Array Oper) {κ : St → Option R} {κp : Int → St → Option R} {r : R} {Q : Exit → Act → World → Prop} : ∀ (fuel : Nat) (listed : Array Bool) (st : St),u6 cx inl ops fuel listed.toList st κ κp = some r →
    listed.toList.countP (! ·)=fuel→listed.size=ops.size→∀ρ ok w (a:Act),ew ρ ok w st.hp st.nx→eH ρ ok w st.nx st.env a.tmps→(∀o∈ops.toList,∀t∈gX o,t<a.tmps.size)→
    (∀st' a' w',κ st'=some r→jO st ρ ok w a (ops.toList.flatMap gX) st' a' w'→Q .normal a' w')→iR cx.pan κp r st ρ ok w a (ops.toList.flatMap gX) Q→wpAny P .any ops Q fuel listed a w:=by
  intro fuel
  induction fuel with
  |zero=>
    intro listed st h hc hs ρ ok w a hH hE hd hQ hQp
    refine ⟨?_,hQ st a w h ⟨ρ,ok,[],rfl,hH,hE,gV.refl fun l o ho=>(hH.ob l o ho).1,Tm.refl _ _⟩⟩
    cases hr:Region.ready .any ops listed with
    |nil=>rfl
    |cons i l=>
      have hi:i∈Region.ready .any ops listed:=by rw [hr];exact List.mem_cons_self
      obtain ⟨h1,o,h2,_⟩:=mem_ready.1 hi
      have hlt:i<listed.toList.length:=by rw [Array.length_toList,hs];exact (Array.getElem?_eq_some_iff.1 h2).1
      have:=wI _ hc i hlt
      rw [Array.getElem?_toList] at this
      simp [Array.getD_eq_getD_getElem?,this] at h1
  |succ fuel ih=>
    intro listed st h hc hs ρ ok w a hH hE hd hQ hQp
    simp only [u6] at h
    have hne:=wo h
    have hall:=rS h
    refine ⟨fun hr=>?_,fun i hi=>?_⟩
    · exfalso
      apply hne
      have:rT listed.toList 0 ops.toList=[]:=by
        apply List.eq_nil_iff_forall_not_mem.2
        intro j hj
        have:=sv.2 hj
        rw [hr] at this;cases this
      rw [this];rfl
    · obtain ⟨hun,o,ho,hafter⟩:=mem_ready.1 hi
      have h1:=hall _ (List.mem_map.2 ⟨i,sv.1 hi,rfl⟩)
      have hol:ops.toList[i]?=some o:=by simpa using ho
      rw [hol] at h1
      simp only at h1
      have hmem:o∈ops.toList:=List.mem_of_getElem? hol
      have hlt:i<listed.size:=by rw [hs];exact (Array.getElem?_eq_some_iff.1 ho).1
      have hcount:(listed.setIfInBounds i true).toList.countP (! ·)=fuel:=by
        have hf:listed.toList[i]?=some false:=by
          rw [Array.getElem?_toList,Array.getElem?_eq_getElem hlt]
          simp [Array.getD_eq_getD_getElem?,hlt] at hun
          rw [hun]
        have h:=sx listed.toList i hf
        rw [hc] at h
        rw [Array.toList_setIfInBounds]
        omega
      refine wp_op ho (yg hcx hinl ops h1 hH hE (hd o hmem) (fun st1 a1 w1 k1 k2=>?_) (hQp.mono fun t ht=>List.mem_flatMap.2 ⟨o,hmem,ht⟩))
      obtain ⟨ρ1,ok1,D,g1,g2,g3,g4,g5⟩:=k2
      refine ih (listed.setIfInBounds i true) st1 (by rw [Array.toList_setIfInBounds];exact k1) hcount (by simpa using hs) ρ1 ok1 w1 a1 g2 g3 (fun o' ho' t ht=>by rw [g5.size];exact hd o' ho' t ht) (fun st2 a2 w2 j1 j2=>hQ st2 a2 w2 j1 ?_) (hQp.next g1 g4 g5 (fun t ht=>List.mem_flatMap.2 ⟨o,hmem,ht⟩) (fun t ht=>ht))
      obtain ⟨ρ2,ok2,D2,j1,j2,j3,j4,j5⟩:=j2
      exact ⟨ρ2,ok2,D2++D,by rw [j1,g1,List.append_assoc],j2,j3,g4.trans j4,g5.trans j5 (fun t ht=>List.mem_flatMap.2 ⟨o,hmem,ht⟩) (fun t ht=>ht)⟩
end
end Lv
end
section
namespace Lv
variable [gG]
open Go Go.RowKit
theorem uh {S R:Type} {body:S→Option (S⊕R)} {s:S} {r:R} (h:p4 body s=some r):∃n,ix body n s=some r:=by
 unfold p4 at h
 split at h
 ·rename_i hx
  cases h
  exact ⟨_,Classical.choose_spec (Classical.choose_spec hx)⟩
 ·cases h
theorem mH {S R:Type} {body:S→Option (S⊕R)}:∀{n m:Nat} {s:S} {r:R},ix body n s=some r→n≤m→ix body m s=some r
  |0,_,_,_,h,_=>by cases h
  |n+1,0,_,_,_,hm=>by omega
  | n + 1,m + 1,s,r,h,hm => by
    simp only [ix] at h ⊢
    split at h<;>first|(cases h;done)|skip
    · rename_i s' hs
      exact mH h (by omega)
    · exact h
theorem sy {S R:Type} {body:S→Option (S⊕R)} {s:S} {r:R} {n:Nat} (h:ix body n s=some r):p4 body s=some r:=by
 have hx:∃n r,ix body n s=some r:=⟨n,r,h⟩
 unfold p4
 rw [dif_pos hx]
 congr 1
 have h2:=Classical.choose_spec (Classical.choose_spec hx)
 generalize Classical.choose (Classical.choose_spec hx)=r' at h2 ⊢
 rcases Nat.le_total n (Classical.choose hx) with hle|hle
 ·have:=mH h hle
  rw [this] at h2
  exact (Option.some.inj h2).symm
 ·have:=mH h2 hle
  rw [this] at h
  exact Option.some.inj h
theorem vu {S R:Type} (body:S→Option (S⊕R)) (s:S):aN body s=p4 body s:=by
 unfold aN
 split
 ·rename_i r h;exact (sy h).symm
 ·rfl
theorem iV {S R:Type} {body:S→Option (S⊕R)} {s:S} {r:R} (h:aN body s=some r):∃n,ix body n s=some r:=uh (by rw [←vu];exact h)
theorem kL {S R:Type} {body:S→Option (S⊕R)} {s:S} {r:R} {n:Nat} (h:ix body n s=some r):aN body s=some r:=by rw [vu];exact sy h
theorem dC {S R : Type} (body : S → Option (S ⊕ R)) (s : S) : aN body s = match body s with
    |some (.inl s')=>aN body s'
    |some (.inr r)=>some r
    |none=>none:=by
  cases hb:body s with
  |none=>
    cases hl:aN body s with
    |none=>rfl
    |some r=>
      obtain ⟨n,hn⟩:=iV hl
      cases n with
      |zero=>cases hn
      |succ n=>simp [ix,hb] at hn
  |some z=>
    cases z with
    |inr r=>exact kL (n:=1) (by simp [ix,hb])
    | inl s' =>
      simp only
      cases hl:aN body s' with
      |some r=>
        obtain ⟨n,hn⟩:=iV hl
        exact kL (n:=n+1) (by simp [ix,hb,hn])
      |none=>
        cases hl':aN body s with
        |none=>rfl
        |some r=>
          obtain ⟨n,hn⟩:=iV hl'
          cases n with
          |zero=>cases hn
          |succ n=>
            simp only [ix,hb] at hn
            rw [kL hn] at hl
            cases hl
theorem lM {p:Nat→Prop} (h:∃n,p n):∃n,p n∧∀m,p m→n≤m:=by
 obtain ⟨n,hn⟩:=h
 induction n using Nat.strongRecOn with
 |ind n ih=>
  by_cases hx:∃m,m<n∧p m
  ·obtain ⟨m,h1,h2⟩:=hx;exact ih m h1 h2
  ·exact ⟨n,hn,fun m hm=>Nat.le_of_not_lt fun hlt=>hx ⟨m,hlt,hm⟩⟩
open Classical in
noncomputable def nJ (p:Nat→Prop):Nat:=if h:∃n,p n∧∀m,p m→n≤m then choose h else 0
theorem sz {p:Nat→Prop} (h:∃n,p n):p (nJ p):=by
 unfold nJ
 rw [dif_pos (lM h)]
 exact (Classical.choose_spec (lM h)).1
theorem wK {p:Nat→Prop} {m:Nat} (h:p m):nJ p≤m:=by
 unfold nJ
 rw [dif_pos (lM ⟨m,h⟩)]
 exact (Classical.choose_spec (lM ⟨m,h⟩)).2 m h
def Out.st:Out→St
 | .normal st=>st
 | .exit _ st=>st
 | .ret st=>st
 | .pan _ st=>st
def BG:Out→Exit→Prop
 | .normal _,e=>e=.normal
 | .exit id _,e=>e=.exit id
 | .ret _,e=>e=.ret
 | .pan _ _,_=>False
def jz (P : Program) (cx : Cx) : Prop := P.follows .mixedOrders = true ∧ ∀ (R : Type) (id : Nat) (ops : Array Oper) (st : St) (κ : St → Option R) (r : R),
  (iQ cx ops ops.toList st [] fun st tr=>if va ops (ops.toList.zip tr)=true then κ st else none)=some r→∀ρ ok w (a:Act),
    ew ρ ok w st.hp st.nx→eH ρ ok w st.nx st.env a.tmps→(∀o∈ops.toList,∀t∈gX o,t<a.tmps.size)→∀(Q:Exit→Act→World→Prop),
    (∀st' a' w',κ st'=some r→jO st ρ ok w a (ops.toList.flatMap gX) st' a' w'→Q .normal a' w')→(Code.region id ops true).wp P Q a w
theorem ui {kp:List Nat} {env:Env} {t:Nat} {s:fE} (h:rM kp env t=some s):t∈kp∧env t=some s:=by
 unfold rM at h
 split at h
 ·rename_i hm;exact ⟨iK.1 hm,h⟩
 ·cases h
theorem j9 {ren : Ren} {nx : Nat} : ∀ (ob : List (Nat × Bool × OSh)) (l : Nat),hZ ren nx ob l = nx + l ∨ (ren l = some (hZ ren nx ob l) ∧ ∃ p ∈ ob,p.1 = l ∧ p.2.1 = true)
  | [],l=> .inl rfl
  |(m,k,o)::r,l=>by
    simp only [hZ]
    split
    · rename_i hm
      have hm:=Nat.eq_of_beq_eq_true hm
      subst hm
      split
      · split
        · rename_i hr;exact .inr ⟨hr,_,List.mem_cons_self,rfl,rfl⟩
        · exact .inl rfl
      · exact .inl rfl
    · rcases j9 r l with h|⟨h1,p,h2,h3⟩
      · exact .inl h
      · exact .inr ⟨h1,p,List.mem_cons_of_mem _ h2,h3⟩
theorem lN {ren : Ren} {f : Nat → Nat} : ∀ {ob : List (Nat × Bool × OSh)},oO ren f ob = true → ∀ p ∈ ob,p.2.1 = true → ren p.1 = some (f p.1)
  |(l,true,o)::r,h,p,hp,hk=>by
    obtain ⟨h1,h2⟩:=Bool.and_eq_true_iff.1 h
    rcases List.mem_cons.1 hp with rfl|hp
    · split at h1
      · rename_i m hm
        simp only
        rw [hm,Nat.eq_of_beq_eq_true h1]
      · cases h1
    · exact lN h2 p hp hk
  |(l,false,o)::r,h,p,hp,hk=>by
    rcases List.mem_cons.1 hp with rfl|hp
    · cases hk
    · exact lN (ob:=r) h p hp hk
theorem nK {nx : Nat} {obs : List Nat} {hp : cT} : ∀ {l : List Nat},dtOk nx obs hp l = true → ∀ d ∈ l,nx ≤ d ∨ d ∈ obs ∨ hp d = none
  | d :: r,h,x,hx => by
    obtain ⟨h1,h2⟩:=Bool.and_eq_true_iff.1 h
    rcases List.mem_cons.1 hx with rfl|hx
    · rcases Bool.or_eq_true_iff.1 h1 with h|h
      · exact .inl (Nat.le_of_ble_eq_true h)
      · rcases Bool.or_eq_true_iff.1 h with h|h
        · exact .inr (.inl (iK.1 h))
        · cases hd:hp x with
          |none=>exact .inr (.inr rfl)
          |some o=>rw [hd] at h;cases h
    · exact nK h2 x hx
theorem oz {f:Nat→Nat}:∀{ob:List (Nat×Bool×OSh)} {q:Nat},q∈obN f ob↔∃p∈ob,q=f p.1
  | [],q=>by simp [obN]
  |(l,k,o)::r,q=>by
    simp only [obN,List.mem_cons,oz (ob:=r)]
    constructor
    · rintro (h|⟨p,h1,h2⟩)
      · exact ⟨_,.inl rfl,h⟩
      · exact ⟨p,.inr h1,h2⟩
    · rintro ⟨p,rfl|h1,h2⟩
      · exact .inl h2
      · exact .inr ⟨p,h1,h2⟩
section
variable {P:Program} {cx:Cx} {inl:Inl}
theorem qL {sh:Sh} {c:Code} (hsh:shOk sh c=true) {st:St} {ρ0:Nat→Value} {ok0:Nat→Prop} {w0:World} {a0:Act} (hH0:ew ρ0 ok0 w0 st.hp st.nx) (hE0:eH ρ0 ok0 w0 st.nx st.env a0.tmps)
    {f:Nat→Nat} {H0:cT} {gone:List Nat}
    (hH0':∀q o,H0 q=some o→(st.hp q=some o∨∃e t xs,st.hp q=some (.arr e t xs)∧o=.frz e t xs)) (hgone:∀q,q∉gone→H0 q=st.hp q)
    {st':St} {ρ:Nat→Value} {ok:Nat→Prop} {w:World} {a:Act} (hH:ew ρ ok w st'.hp st'.nx) (hE:eH ρ ok w st'.nx st'.env a.tmps) {D:List Nat} (G:gV ρ0 ok0 w0 st.hp st.nx D ρ ok w st'.hp st'.nx) (hT:Tm (writes c) a0 a)
    (hf:j8 f st.nx sh.nn (cp sh st'.env st'.hp)) (hB:∀q o,H0 q=some o→ObR ρ (gZ ok ρ (names (hY sh st'.env st'.hp))) w st.nx q o∧ups st'.hp (hY sh st'.env st'.hp) q=some o∧q∉names (iP (cp sh st'.env st'.hp) sh.ob))
    (hC:∀d,d∈names (eC sh st'.env st'.hp)∨d∈D→d<st.nx→st.hp d≠none→d∈obN f sh.ob++gone) {x:TS sh} (hx:oJ sh st'.env st'.hp=some x):
    ∃ ρ2 ok2,ew ρ2 ok2 w (xD sh f H0 st.env x) (st.nx + sh.nn) ∧ eH ρ2 ok2 w (st.nx + sh.nn) (uZ sh f st.env x) a.tmps ∧
      gV ρ0 ok0 w0 st.hp st.nx (obN f sh.ob++gone) ρ2 ok2 w (xD sh f H0 st.env x) (st.nx+sh.nn)∧(∀q o,H0 q=some o→ObR ρ2 ok2 w st.nx q o):=by
  obtain ⟨hap,hbel⟩:=Bool.and_eq_true_iff.1 hsh
  have hap:=iU.1 hap
  have hlt:∀q o,H0 q=some o→q<st.nx:=fun q o h=>by
    rcases hH0' q o h with h1|⟨e,t,xs,h1,_⟩
    · exact (hH0.ob q o h1).1
    · exact (hH0.ob q _ h1).1
  have hKE:eH ρ ok w st.nx (rM sh.kp st.env) a.tmps:=by
    intro t s hs
    obtain ⟨h1,h2⟩:=ui hs
    obtain ⟨v,h3,h4⟩:=hE0 t s h2
    exact ⟨v,by rw [hT.same t (hap t h1)];exact h3,h4.move (G.sameOk hH0) G.rho (Nat.le_refl _)⟩
  obtain ⟨t1,t2,t3⟩:=uf hH hE hbel hx hf (H0:=H0) (fun q o h=>⟨hlt q o h,hB q o h⟩) hKE
  refine ⟨_,_,t1,t2,?_,fun q o h=>(hB q o h).1.move (gU.refl _ _) (fun l hl=>by simp [reρ,hl]) (Nat.le_refl _) (by simp [reρ,hlt q o h]) fun _ _ _=>rfl⟩
  refine sn G hH hf (H0:=H0) t3 (fun q hq=>kK f H0 sh.ob _ q hq) (fun q o h=>⟨hlt q o h,by
    rcases ie (iE sh st'.env st'.hp) q with ⟨_,e,t,xs,k1,k2⟩|⟨_,k2⟩
    · rw [(hB q o h).2.1] at k2;cases k2;exact ⟨_,k1,fun h=>by cases h⟩
    · rw [(hB q o h).2.1] at k2;exact ⟨o,k2.symm,id⟩⟩) (fun q _ hn=>hgone q fun h=>hn (List.mem_append_right _ h)) (fun p hp=>List.mem_append_left _ (oz.2 ⟨p,hp,rfl⟩)) hC
theorem wL (sh:Sh) (env:Env) (hp:cT) (q:Nat) (o:Ob) (h:ups hp (eC sh env hp) q=some o):
 q∉names (iP (cp sh env hp) sh.ob)∧(hp q=some o∨∃e t xs,hp q=some (.arr e t xs)∧o=.frz e t xs):=by
 rcases sr sh env hp hp (fun _ _ h=>h) q with ⟨h1,h2⟩|⟨_,h2⟩|⟨h0,_,e,t,xs,h1,h2⟩
 ·rw [h2] at h;exact ⟨fun hg=>h1 ((gm sh q).2 (.inr hg)),.inl h⟩
 ·rw [h2] at h;cases h
 ·rw [h2] at h;cases h;exact ⟨h0,.inr ⟨e,t,xs,h1,rfl⟩⟩
theorem Aj {sh:Sh} {st:St} {hp:cT} (hlt:∀l m,cp sh st.env hp l=some m→m<st.nx):j8 (hZ (cp sh st.env hp) st.nx sh.ob) st.nx sh.nn (cp sh st.env hp):=fun l _=>by
 rcases j9 (nx:=st.nx) (ren:=cp sh st.env hp) sh.ob l with h|⟨h,_⟩
 ·exact .inl h
 ·exact .inr ⟨h,hlt _ _ h⟩
theorem mg {ρ:Nat→Value} {ok:Nat→Prop} {w:World} {nx:Nat}:∀{cs:List CSh} {ds:List Cell} {vs:List Value},All2 (dP ρ ok w nx) ds vs→∀p∈oH cs ds,p.2<nx
  | [],[],_,_,p,hp=>by simp [oH] at hp
  | [],_::_,_,_,p,hp=>by simp [oH] at hp
  |c::r,[],_,_,p,hp=>by cases c<;>simp [oH] at hp
  | c :: r,d :: ds,_,.cons hd ht,p,hp => by
    have ih:=mg (cs:=r) ht
    cases c<;>cases d<;>simp only [oH,List.mem_cons] at hp<;>first
      |exact ih p hp
      | (rcases hp with rfl | hp
         · exact hd.1
         · exact ih p hp)
theorem sA {ρ : Nat → Value} {ok : Nat → Prop} {w : World} {nx : Nat} : ∀ {cs : List (Bool × List CSh)} {ds : List (Bool × List Cell)} {vs : List Value},All2 (fun (p : Bool × List Cell) u => VR ρ ok w nx p.1 p.2 u) ds vs → ∀ p ∈ pY cs ds,p.2 < nx
  | [],_,_,_,p,hp=>by simp [pY] at hp
  |_::_,[],_,_,p,hp=>by simp [pY] at hp
  |(_,cs)::r,(g,ds)::dr,_,.cons hd ht,p,hp=>by
    simp only [pY,List.mem_append] at hp
    rcases hp with hp|hp
    · cases g with
      |true=>obtain ⟨us,_,hus⟩:=hd;exact mg hus p hp
      |false=>
        obtain ⟨c,e,hc⟩:=hd
        have e:ds=[c]:=e
        subst e
        exact mg (.cons hc .nil) p hp
    · exact sA ht p hp
theorem pi {ρ : Nat → Value} {ok : Nat → Prop} {w : World} {nx : Nat} {env : Env} {tmps : Array Value} (hE : eH ρ ok w nx env tmps) : ∀ (l : List (Nat × SSh)),∀ p ∈ oI env l,p.2 < nx
  | [],p,hp=>by simp [oI] at hp
  | (t,.v _ cs) :: r,p,hp => by
    simp only [oI,List.mem_append] at hp
    rcases hp with hp|hp
    · split at hp
      · rename_i g ds hd
        obtain ⟨v,_,hv⟩:=hE t _ hd
        cases g with
        |true=>obtain ⟨us,_,hus⟩:=hv;exact mg hus p hp
        |false=>
          obtain ⟨c,e,hc⟩:=hv
          subst e
          exact mg (.cons hc .nil) p hp
      · cases hp
    · exact pi hE r p hp
  |(t,.tup l)::r,p,hp=>by
    simp only [oI,List.mem_append] at hp
    rcases hp with hp|hp
    · split at hp
      · rename_i ds hd
        obtain ⟨v,_,us,_,hv⟩:=hE t _ hd
        exact sA hv p hp
      · cases hp
    · exact pi hE r p hp
theorem oA {ρ : Nat → Value} {ok : Nat → Prop} {w : World} {hp : cT} {nx : Nat} (hH : ew ρ ok w hp nx) : ∀ (l : List (Nat × Bool × OSh)) (acc : List (Nat × Nat)),(∀ p ∈ acc,p.2 < nx) → ∀ p ∈ xC hp l acc,p.2 < nx
  | [],acc,h,p,hp'=>h p hp'
  |(l,_,.box _ cs)::r,acc,h,p,hp'=>by
    simp only [xC] at hp'
    refine oA hH r _ ?_ p hp'
    intro q hq
    split at hq
    · rename_i m hm
      split at hq
      · rename_i e ds hd
        rcases List.mem_append.1 hq with hq|hq
        · exact h q hq
        · obtain ⟨_,b,vs,_,_,hv⟩:=hH.ob m _ hd
          exact mg hv q hq
      · exact h q hq
    · exact h q hq
  |(l,_,.arr _ _)::r,acc,h,p,hp'=>oA hH r acc h p hp'
  |(l,_,.mp _ _)::r,acc,h,p,hp'=>oA hH r acc h p hp'
theorem qj:∀{l:List (Nat×Nat)} {k m:Nat},rJ l k=some m→(k,m)∈l
  |(a,b)::r,k,m,h=>by
    simp only [rJ] at h
    split at h
    · rename_i he;cases h;rw [Nat.eq_of_beq_eq_true he];exact List.mem_cons_self
    · exact List.mem_cons_of_mem _ (qj h)
theorem pj {ρ:Nat→Value} {ok:Nat→Prop} {w:World} {hp:cT} {nx:Nat} (hH:ew ρ ok w hp nx):∀(l:List (Nat×Nat)),∀p∈rK hp l,p.2<nx
  | [],p,h=>by cases h
  |(a,m)::r,p,h=>by
    unfold rK at h
    split at h
    · rename_i o ho
      rcases List.mem_cons.1 h with rfl|h
      · exact (hH.ob m o ho).1
      · exact pj hH r p h
    · exact pj hH r p h
theorem yi {ρ:Nat→Value} {ok:Nat→Prop} {w:World} {hp:cT} {nx:Nat} {env:Env} {tmps:Array Value} (hH:ew ρ ok w hp nx) (hE:eH ρ ok w nx env tmps) (sh:Sh) {l m:Nat} (h:cp sh env hp l=some m):m<nx:=
 oA hH sh.ob _ (fun p hp=>(List.mem_append.1 hp).elim (pj hH sh.fx p) (pi hE sh.sl p)) _ (qj h)
theorem pn {sh:Sh} {st:St} {ρ:Nat→Value} {ok:Nat→Prop} {w:World} {a:Act} (hH:ew ρ ok w st.hp st.nx) (hE:eH ρ ok w st.nx st.env a.tmps) {ren:Ren}
 (hk:oO ren (hZ (cp sh st.env st.hp) st.nx sh.ob) sh.ob=true):j8 (hZ (cp sh st.env st.hp) st.nx sh.ob) st.nx sh.nn ren:=fun l _=>by
 rcases j9 (nx:=st.nx) (ren:=cp sh st.env st.hp) sh.ob l with h|⟨h,p,h1,h2,h3⟩
 ·exact .inl h
 ·refine .inr ⟨?_,yi hH hE sh h⟩
  have:=lN hk p h1 h3
  rwa [h2] at this
theorem wM {sh:Sh} {env:Env} {hp:cT} {p:Nat×Option Ob} (h:p∈jZ sh env hp):p.2=none:=by
 rcases List.mem_append.1 h with h|h
 ·exact nH h
 ·obtain ⟨q,_,rfl⟩:=List.mem_map.1 h;rfl
theorem wO {sh:Sh} {env:Env} {hp:cT} {p:Nat×Bool×OSh} {m:Nat} (h:p∈sh.ob) (e:cp sh env hp p.1=some m):m∈names (jZ sh env hp):=by
 unfold jZ names
 rw [List.map_append]
 exact List.mem_append_left _ (jc h e)
def qM {R:Type} (κ:Out→Option R) (r:R) (st:St) (ρ:Nat→Value) (ok:Nat→Prop) (w:World) (a:Act) (W:List Nat) (Q:Exit→Act→World→Prop):Prop:=
 ∀o e a' w',κ o=some r→BG o e→jO st ρ ok w a W o.st a' w'→Q e a' w'
def hN:H→Nat
 | .c _ b=>hN b+1
 |_=>0
theorem yj {c:Code} {R:Type} {f:H→St→(Out→Option R)→Option R}
 (ih:∀(h:H) (st:St) (κ:Out→Option R) (r:R),f h st κ=some r→∀ρ ok w (a:Act),ew ρ ok w st.hp st.nx→eH ρ ok w st.nx st.env a.tmps→(∀t∈writes c,t<a.tmps.size)→∀(Q:Exit→Act→World→Prop),qM κ r st ρ ok w a (writes c) Q→iR cx.pan (fun n st=>κ (.pan n st)) r st ρ ok w a (writes c) Q→c.wp P Q a w):
 ∀(h:H) (st:St) (κ:Out→Option R) (r:R),unr f h st κ=some r→∀ρ ok w (a:Act),ew ρ ok w st.hp st.nx→eH ρ ok w st.nx st.env a.tmps→(∀t∈writes c,t<a.tmps.size)→∀(Q:Exit→Act→World→Prop),qM κ r st ρ ok w a (writes c) Q→iR cx.pan (fun n st=>κ (.pan n st)) r st ρ ok w a (writes c) Q→Code.rounds P c Q (hN h) a w
 | .c x y,st,κ,r,hc,ρ,ok,w,a,hH,hE,hW,Q,hQ,hQp=>by
  simp only [unr] at hc
  refine ih x st _ r hc ρ ok w a hH hE hW _ ?_ hQp
  intro o e a' w' h1 h2 h3
  cases o with
  |pan n st'=>cases h2
  |exit id st'=>cases h2;exact hQ _ _ _ _ h1 rfl h3
  |ret st'=>cases h2;exact hQ _ _ _ _ h1 rfl h3
  |normal st'=>
   cases h2
   obtain ⟨ρ',ok',D,g1,g2,g3,g4,g5⟩:=h3
   have g1:st'.dt=D++st.dt:=g1
   refine yj ih y st' κ r h1 ρ' ok' w' a' g2 g3 (fun t ht=>by rw [g5.size];exact hW t ht) Q ?_ (hQp.next g1 g4 g5 (fun _ h=>h) (fun _ h=>h))
   intro o e a2 w2 k1 k2 ⟨ρ3,ok3,D2,j1,j2,j3,j4,j5⟩
   exact hQ o e a2 w2 k1 k2 ⟨ρ3,ok3,D2++D,by rw [j1,g1,List.append_assoc],j2,j3,g4.trans j4,g5.trans j5 (fun _ h=>h) (fun _ h=>h)⟩
 | .n,st,κ,r,hc,_,_,_,_,_,_,_,_,_,_=>by cases hc
 | .s _ _ _,st,κ,r,hc,_,_,_,_,_,_,_,_,_,_=>by cases hc
 | .b _,st,κ,r,hc,_,_,_,_,_,_,_,_,_,_=>by cases hc
 | .l _ _,st,κ,r,hc,_,_,_,_,_,_,_,_,_,_=>by cases hc
 | .d,st,κ,r,hc,_,_,_,_,_,_,_,_,_,_=>by cases hc
theorem jA (    hcx : gT P cx) (hinl : jy P cx.pan inl) (hdr : jz P cx) : ∀ (c : Code) (R : Type) (h : H) (st : St) (κ : Out → Option R) (r : R),evC cx inl R c h st κ = some r → ∀ ρ ok w (a : Act),
    ew ρ ok w st.hp st.nx→eH ρ ok w st.nx st.env a.tmps→(∀t∈writes c,t<a.tmps.size)→∀(Q:Exit→Act→World→Prop),qM κ r st ρ ok w a (writes c) Q→iR cx.pan (fun n st=>κ (.pan n st)) r st ρ ok w a (writes c) Q→c.wp P Q a w
  | .skip,R,h,st,κ,r,hc,ρ,ok,w,a,hH,hE,hW,Q,hQ,hQp=>by
    simp only [evC] at hc
    exact wp_skip (hQ _ _ _ _ hc rfl ⟨ρ,ok,[],rfl,hH,hE,gV.refl fun l o ho=>(hH.ob l o ho).1,Tm.refl _ _⟩)
  | .label l,R,h,st,κ,r,hc,ρ,ok,w,a,hH,hE,hW,Q,hQ,hQp=>by
    simp only [evC] at hc
    exact wp_label (hQ _ _ _ _ hc rfl ⟨ρ,ok,[],rfl,hH,hE,gV.refl fun l o ho=>(hH.ob l o ho).1,Tm.refl _ _⟩)
  | .ret,R,h,st,κ,r,hc,ρ,ok,w,a,hH,hE,hW,Q,hQ,hQp=>by
    simp only [evC] at hc
    exact wp_ret (hQ _ _ _ _ hc rfl ⟨ρ,ok,[],rfl,hH,hE,gV.refl fun l o ho=>(hH.ob l o ho).1,Tm.refl _ _⟩)
  | .exit id,R,h,st,κ,r,hc,ρ,ok,w,a,hH,hE,hW,Q,hQ,hQp=>by
    simp only [evC] at hc
    exact wp_exit (hQ _ _ _ _ hc rfl ⟨ρ,ok,[],rfl,hH,hE,gV.refl fun l o ho=>(hH.ob l o ho).1,Tm.refl _ _⟩)
  | .region id ops false,R,h,st,κ,r,hc,ρ,ok,w,a,hH,hE,hW,Q,hQ,hQp=>by
    simp only [evC] at hc
    refine wp_region_list (ss hcx hinl ops ops.toList st _ _ r hc ρ ok w a hH hE (fun o ho t ht=>hW t (List.mem_flatMap.2 ⟨o,ho,ht⟩)) Q (fun st' a' w' h1 h2=>hQ _ _ _ _ h1 rfl h2) hQp)
  | .region id ops true,R,h,st,κ,r,hc,ρ,ok,w,a,hH,hE,hW,Q,hQ,hQp=>by
    simp only [evC] at hc
    have hWo:∀o∈ops.toList,∀t∈gX o,t<a.tmps.size:=fun o ho t ht=>hW t (List.mem_flatMap.2 ⟨o,ho,ht⟩)
    split at hc
    · have hG:gV ρ ok w st.hp st.nx [] ρ ok {w with drawn:=w.drawn+1} st.hp st.nx:=
        ⟨rfl,rfl,⟨rfl,fun _=>Nat.le_succ _⟩,Nat.le_refl _,Nat.le_refl _,fun _ _ _=>rfl,fun _ _=>rfl,fun _ h=>h,fun _ h=> .inl h,fun _ _ _=>rfl,fun _ _ o h=>⟨o,h,fun h=>h⟩,fun l o b hl ho _ _=>absurd (hH.ob l o ho).1 (by omega)⟩
      have hH1:ew ρ ok {w with drawn:=w.drawn+1} st.hp st.nx:=
        ⟨fun l o ho=>⟨(hH.ob l o ho).1,ObR.move (w:=w) (w':={w with drawn:=w.drawn+1}) (ok:=ok) (ok':=ok) (ρ:=ρ) (nx:=st.nx) (fun b hb=>⟨hb,rfl⟩) (fun _ _=>rfl) (Nat.le_refl _) rfl (fun _ _ _=>rfl) (hH.ob l o ho).2⟩,hH.okl,hH.sep,hH.dis,hH.gl.move (fun b hb=>⟨hb,rfl⟩)⟩
      have hl:(Array.replicate ops.size false).toList=List.replicate ops.toList.length false:=by simp
      refine wp_region_any hdr.1 (yh hcx hinl ops ops.size _ st (by rw [hl];simpa using hc) (by rw [hl];simp [List.countP_replicate]) (by simp) ρ ok _ a hH1 (hE.move hG hH) hWo ?_ ?_)
      rotate_left
      · rintro n st' a' w' h1 ⟨ρ',ok',D,g1,g2,g3,g4,g5⟩
        exact hQp n st' a' w' h1 ⟨ρ',ok',D++ [],by rw [List.append_nil];exact g1,g2,g3,hG.trans g4,g5⟩
      rintro st' a' w' h1 ⟨ρ',ok',D,g1,g2,g3,g4,g5⟩
      exact hQ _ _ _ _ h1 rfl ⟨ρ',ok',D++ [],by rw [List.append_nil];exact g1,g2,g3,hG.trans g4,g5⟩
    · exact hdr.2 R id ops st _ r hc ρ ok w a hH hE hWo Q fun st' a' w' h1 h2=>hQ _ _ _ _ h1 rfl h2
  | .cond c x y,R,h,st,κ,r,hc,ρ,ok,w,a,hH,hE,hW,Q,hQ,hQp=>by
    simp only [evC] at hc
    split at hc<;>try (cases hc;done)
    rename_i v hv
    have he:a.eval c=.bool v:=dc (c:=.bool v) hE hv
    refine wp_cond he ?_
    cases v with
    |true=>exact jA hcx hinl hdr x R _ st κ r hc ρ ok w a hH hE (fun t ht=>hW t (List.mem_append_left _ ht)) Q (fun o e a' w' h1 h2 ⟨ρ',ok',D,g1,g2,g3,g4,g5⟩=>hQ o e a' w' h1 h2 ⟨ρ',ok',D,g1,g2,g3,g4,g5.mono fun t ht=>List.mem_append_left _ ht⟩) (hQp.mono fun t ht=>List.mem_append_left _ ht)
    |false=>exact jA hcx hinl hdr y R _ st κ r hc ρ ok w a hH hE (fun t ht=>hW t (List.mem_append_right _ ht)) Q (fun o e a' w' h1 h2 ⟨ρ',ok',D,g1,g2,g3,g4,g5⟩=>hQ o e a' w' h1 h2 ⟨ρ',ok',D,g1,g2,g3,g4,g5.mono fun t ht=>List.mem_append_right _ ht⟩) (hQp.mono fun t ht=>List.mem_append_right _ ht)
  | .block id c,R,h,st,κ,r,hc,ρ,ok,w,a,hH,hE,hW,Q,hQ,hQp=>by
    simp only [evC] at hc
    refine wp_block (jA hcx hinl hdr c R _ st _ r hc ρ ok w a hH hE hW _ ?_ hQp)
    intro o e a' w' h1 h2 h3
    cases o with
    |pan n st'=>cases h2
    |normal st'=>cases h2;exact hQ _ _ _ _ h1 rfl h3
    |ret st'=>cases h2;exact hQ _ _ _ _ h1 rfl h3
    |exit id' st'=>
      cases h2
      simp only at h1
      by_cases hi:id'=id
      · subst hi
        rw [if_pos (Nat.beq_refl id')] at h1
        simp only [Exit.inBlock,if_true]
        exact hQ _ _ _ _ h1 rfl h3
      · rw [if_neg fun e=>hi (Nat.eq_of_beq_eq_true e)] at h1
        simp only [Exit.inBlock,hi,if_false]
        exact hQ _ _ _ _ h1 rfl h3
  | .seq x y,R,h,st,κ,r,hc,ρ,ok,w,a,hH,hE,hW,Q,hQ,hQp=>by
    have hWx:∀t∈writes x,t<a.tmps.size:=fun t ht=>hW t (List.mem_append_left _ ht)
    have hWy:∀t∈writes y,t<a.tmps.size:=fun t ht=>hW t (List.mem_append_right _ ht)
    have inx:∀t∈writes x,t∈writes (x.seq y):=fun t ht=>List.mem_append_left _ ht
    have iny:∀t∈writes y,t∈writes (x.seq y):=fun t ht=>List.mem_append_right _ ht
    simp only [evC] at hc
    split at hc
    · refine wp_seq (jA hcx hinl hdr x R _ st _ r hc ρ ok w a hH hE hWx _ ?_ (hQp.mono inx))
      intro o e a' w' h1 h2 h3
      have h3':jO st ρ ok w a (writes (x.seq y)) o.st a' w':=by
        obtain ⟨ρ',ok',D,g1,g2,g3,g4,g5⟩:=h3
        exact ⟨ρ',ok',D,g1,g2,g3,g4,g5.mono inx⟩
      cases o with
      |pan n st'=>cases h2
      |exit id st'=>cases h2;exact hQ _ _ _ _ h1 rfl h3'
      |ret st'=>cases h2;exact hQ _ _ _ _ h1 rfl h3'
      |normal st'=>
        cases h2
        obtain ⟨ρ',ok',D,g1,g2,g3,g4,g5⟩:=h3
        have g1:st'.dt=D++st.dt:=g1
        refine jA hcx hinl hdr y R _ st' κ r h1 ρ' ok' w' a' g2 g3 (fun t ht=>by rw [g5.size];exact hWy t ht) Q ?_ (hQp.next g1 g4 g5 inx iny)
        intro o e a2 w2 k1 k2 ⟨ρ2,ok2,D2,j1,j2,j3,j4,j5⟩
        exact hQ o e a2 w2 k1 k2 ⟨ρ2,ok2,D2++D,by rw [j1,g1,List.append_assoc],j2,j3,g4.trans j4,g5.trans j5 inx iny⟩
    · rename_i sh hj
      split at hc<;>try (cases hc;done)
      rename_i hsh
      obtain ⟨z,hz,hκ⟩:=Option.bind_eq_some_iff.1 hc
      refine wp_seq (jA hcx hinl hdr x (TS sh⊕R) _ ⟨st.env,st.hp,st.nx,[]⟩ _ z hz ρ ok w a hH hE hWx _ ?_ ?_)
      rotate_left
      · rintro n st1 a' w' h1 ⟨ρ',ok',D,g1,g2,g3,g4,g5⟩
        obtain ⟨r',hr',he⟩:=Option.map_eq_some_iff.1 h1
        subst he
        cases hκ
        refine hQp n _ a' w' hr' ⟨ρ',ok',D,?_,g2,g3,g4,g5.mono inx⟩
        simp only at g1 ⊢
        rw [g1,List.append_nil]
      intro o e a' w' h1 h2 h3
      have leaves:∀st1:St,jO ⟨st.env,st.hp,st.nx,[]⟩ ρ ok w a (writes x) st1 a' w'→jO st ρ ok w a (writes (x.seq y)) ⟨st1.env,st1.hp,st1.nx,st1.dt++st.dt⟩ a' w':=by
        rintro st1 ⟨ρ',ok',D,g1,g2,g3,g4,g5⟩
        refine ⟨ρ',ok',D,?_,g2,g3,g4,g5.mono inx⟩
        simp only at g1 ⊢
        rw [g1,List.append_nil]
      cases o with
      |pan n st'=>cases h2
      |exit id st'=>
        cases h2
        simp only at h1
        obtain ⟨r',hr',he⟩:=Option.map_eq_some_iff.1 h1
        subst he
        cases hκ
        exact hQ _ _ _ _ hr' rfl (leaves st' h3)
      |ret st'=>
        cases h2
        simp only at h1
        obtain ⟨r',hr',he⟩:=Option.map_eq_some_iff.1 h1
        subst he
        cases hκ
        exact hQ _ _ _ _ hr' rfl (leaves st' h3)
      |normal st'=>
        cases h2
        simp only at h1
        split at h1<;>try (cases h1;done)
        rename_i s hs
        cases h1
        simp only at hκ
        unfold oP at hs
        split at hs<;>try (cases hs;done)
        rename_i hkept
        split at hs<;>try (cases hs;done)
        rename_i hdt
        obtain ⟨ρ',ok',D,g1,g2,g3,g4,g5⟩:=h3
        have g1:st'.dt=D++ []:=g1
        rw [List.append_nil] at g1
        have g4:gV ρ ok w st.hp st.nx D ρ' ok' w' st'.hp st'.nx:=g4
        have g2:ew ρ' ok' w' st'.hp st'.nx:=g2
        have g3:eH ρ' ok' w' st'.nx st'.env a'.tmps:=g3
        have hdt':=nK hdt
        rw [g1] at hdt'
        have hf:=pn (sh:=sh) hH hE hkept
        have hgm:∀q o,ups st.hp (jZ sh st.env st.hp) q=some o→st.hp q=some o∧q∉names (jZ sh st.env st.hp):=by
          intro q o h
          rw [im] at h
          cases hl:jv (jZ sh st.env st.hp) q with
          |none=>rw [hl] at h;exact ⟨h,gk.1 hl⟩
          |some p=>
            rw [hl] at h
            have:p=none:=wM (jY hl)
            rw [this] at h;cases h
        have hnot:∀q o,ups st.hp (jZ sh st.env st.hp) q=some o→q∉names (eC sh st'.env st'.hp)∧q∉D:=by
          intro q o h
          obtain ⟨k1,k2⟩:=hgm q o h
          have hlt:=(hH.ob q o k1).1
          have hnob:q∉obN (hZ (cp sh st.env st.hp) st.nx sh.ob) sh.ob:=fun hm=>by
            obtain ⟨p,hp1,hp2⟩:=oz.1 hm
            rcases j9 (nx:=st.nx) (ren:=cp sh st.env st.hp) sh.ob p.1 with k|⟨k,_⟩
            · rw [←hp2] at k;omega
            · rw [←hp2] at k;exact k2 (wO hp1 k)
          have:q∉names (eC sh st'.env st'.hp)++D:=fun hm=>by
            rcases hdt' q hm with k|k|k
            · omega
            · exact hnob k
            · rw [h] at k;cases k
          exact ⟨fun hm=>this (List.mem_append_left _ hm),fun hm=>this (List.mem_append_right _ hm)⟩
        obtain ⟨ρ2,ok2,t1,t2,t3,t4⟩:=qL hsh hH hE (f:=hZ (cp sh st.env st.hp) st.nx sh.ob) (H0:=ups st.hp (jZ sh st.env st.hp)) (gone:=names (jZ sh st.env st.hp))
          (fun q o h=> .inl (hgm q o h).1) (fun q hq=>by rw [im,gk.2 hq]) g2 g3 g4 g5 hf
          (by
            intro q o h
            obtain ⟨k1,k2⟩:=hgm q o h
            obtain ⟨k3,k4⟩:=hnot q o h
            have k5:q∉names (hY sh st'.env st'.hp):=fun hm=>k3 ((gm sh q).2 (.inl hm))
            refine ⟨?_,?_,fun hm=>k3 ((gm sh q).2 (.inr hm))⟩
            · obtain ⟨m1,m2⟩:=hH.ob q o k1
              refine m2.move (ok':=gZ ok' ρ' (names (hY sh st'.env st'.hp))) (fun b hb=>⟨.inl (g4.okm b hb),(g4.sameOk hH b hb).2⟩) g4.rho (Nat.le_refl _) (g4.rho q m1) fun hw b hb=>?_
              exact g4.same b (hH.lt k1 hw hb) fun l hl hlt p hp hpw hbl=>by
                have:=hH.dis q l o p b k1 hp hw hpw hb hbl
                subst this
                exact k4 hl
            · rcases ie (iE sh st'.env st'.hp) q with ⟨m1,_⟩|⟨_,m1⟩
              · exact absurd m1 k5
              · rw [m1,g4.hps q (hH.ob q o k1).1 k4];exact k1)
          (by
            intro d hd hlt hne
            have hd':d∈names (eC sh st'.env st'.hp)++D:=by
              rcases hd with hd|hd
              · exact List.mem_append_left _ hd
              · exact List.mem_append_right _ hd
            rcases hdt' d hd' with k|k|k
            · omega
            · exact List.mem_append_left _ k
            · by_cases hm:d∈names (jZ sh st.env st.hp)
              · exact List.mem_append_right _ hm
              · rw [im,gk.2 hm] at k;exact absurd k hne) hs
        refine jA hcx hinl hdr y R _ _ κ r hκ ρ2 ok2 w' a' t1 t2 (fun t ht=>by rw [g5.size];exact hWy t ht) Q ?_ (hQp.next (D:=obN (hZ (cp sh st.env st.hp) st.nx sh.ob) sh.ob++names (jZ sh st.env st.hp)) (by simp only [List.append_assoc]) t3 g5 inx iny)
        intro o e a2 w2 k1 k2 ⟨ρ3,ok3,D2,j1,j2,j3,j4,j5⟩
        refine hQ o e a2 w2 k1 k2 ⟨ρ3,ok3,D2++(obN (hZ (cp sh st.env st.hp) st.nx sh.ob) sh.ob++names (jZ sh st.env st.hp)),?_,j2,j3,t3.trans j4,g5.trans j5 inx iny⟩
        rw [j1]
        simp only [List.append_assoc]
  | .loop c,R,h,st,κ,r,hc,ρ,ok,w,a,hH,hE,hW,Q,hQ,hQp => by
    simp only [evC] at hc
    split at hc<;>try (cases hc;done)
    rotate_left
    · exact wp_loop_rounds _ (yj (fun h st κ r hc=>jA hcx hinl hdr c R h st κ r hc) _ st κ r hc ρ ok w a hH hE hW Q hQ hQp)
    rename_i sh h'
    split at hc<;>try (cases hc;done)
    rename_i hsh
    split at hc<;>try (cases hc;done)
    rename_i s0 hs0
    obtain ⟨n0,hn0⟩:=iV hc
    -- a round's head
    let head:TS sh→St:=fun s=>⟨uZ sh (hZ (cp sh st.env st.hp) st.nx sh.ob) st.env s,xD sh (hZ (cp sh st.env st.hp) st.nx sh.ob) (ups st.hp (eC sh st.env st.hp)) st.env s,st.nx+sh.nn,[]⟩
    let D0:List Nat:=obN (hZ (cp sh st.env st.hp) st.nx sh.ob) sh.ob++names (eC sh st.env st.hp)
    let body : TS sh → Option (TS sh ⊕ R) := fun s => evC cx inl (TS sh ⊕ R) c h' (head s) fun o => match o with
        | .normal st'=>(match oP sh (hZ (cp sh st.env st.hp) st.nx sh.ob) st.nx (ups st.hp (eC sh st.env st.hp)) st' with|some x=>some (.inl x)|none=>none)
        | .exit id st'=>(κ (.exit id ⟨st'.env,st'.hp,st'.nx,st'.dt++(obN (hZ (cp sh st.env st.hp) st.nx sh.ob) sh.ob++(names (eC sh st.env st.hp)++st.dt))⟩)).map .inr
        | .ret st'=>(κ (.ret ⟨st'.env,st'.hp,st'.nx,st'.dt++(obN (hZ (cp sh st.env st.hp) st.nx sh.ob) sh.ob++(names (eC sh st.env st.hp)++st.dt))⟩)).map .inr
        | .pan n st'=>(κ (.pan n ⟨st'.env,st'.hp,st'.nx,st'.dt++(obN (hZ (cp sh st.env st.hp) st.nx sh.ob) sh.ob++(names (eC sh st.env st.hp)++st.dt))⟩)).map .inr
    have hn0:ix body n0 s0=some r:=hn0
    let Pn:Nat→Act→World→Prop:=fun n a' w'=>∃s ρ' ok',ix body n s=some r∧ew ρ' ok' w' (head s).hp (head s).nx∧eH ρ' ok' w' (head s).nx (head s).env a'.tmps∧gV ρ ok w st.hp st.nx D0 ρ' ok' w' (head s).hp (head s).nx∧Tm (writes c) a a'∧(∀q o,ups st.hp (eC sh st.env st.hp) q=some o→ObR ρ' ok' w' st.nx q o)
    have hleave:∀q o,ups st.hp (eC sh st.env st.hp) q=some o→q∉names (iP (cp sh st.env st.hp) sh.ob)∧(st.hp q=some o∨∃e t xs,st.hp q=some (.arr e t xs)∧o=.frz e t xs):=wL sh st.env st.hp
    have hlt:∀q o,ups st.hp (eC sh st.env st.hp) q=some o→q<st.nx:=fun q o h=>by
      rcases (hleave q o h).2 with k|⟨e,t,xs,k,_⟩
      · exact (hH.ob q o k).1
      · exact (hH.ob q _ k).1
    have hfrz:∀q o,ups st.hp (eC sh st.env st.hp) q=some o→ups st.hp (hY sh st.env st.hp) q=some o:=fun q o h=>by
      have e:ups st.hp (eC sh st.env st.hp)=ups (ups st.hp (hY sh st.env st.hp)) (iP (cp sh st.env st.hp) sh.ob):=by rw [←kZ];rfl
      have hl:=(hleave q o h).1
      rw [e,im,gk.2 hl] at h
      exact h
    have start:Pn n0 a w:=by
      have e1:=mb hH (iE sh st.env st.hp)
      have hf:=Aj (sh:=sh) (st:=st) (hp:=st.hp) fun l m h=>yi hH hE sh h
      obtain ⟨ρ2,ok2,t1,t2,t3,t4⟩:=qL hsh hH hE (f:=hZ (cp sh st.env st.hp) st.nx sh.ob) (H0:=ups st.hp (eC sh st.env st.hp)) (gone:=names (eC sh st.env st.hp))
        (fun q o h=>(hleave q o h).2) (fun q hq=>by rw [im,gk.2 hq]) hH hE (gV.refl fun l o ho=>(hH.ob l o ho).1) (Tm.refl (writes c) a) hf
        (fun q o h=>⟨(e1.1.ob q o (hfrz q o h)).2.move (gU.refl _ _) (fun _ _=>rfl) (Nat.le_refl _) rfl fun _ _ _=>rfl,hfrz q o h,(hleave q o h).1⟩)
        (fun d hd _ _=>by
          rcases hd with hd|hd
          · exact List.mem_append_right _ hd
          · cases hd) hs0
      exact ⟨s0,ρ2,ok2,hn0,t1,t2,t3,Tm.refl _ _,t4⟩
    refine wp_loop (fun a' w'=>∃n,Pn n a' w') (fun a' w'=>nJ fun n=>Pn n a' w') ⟨n0,start⟩ ?_
    intro a1 w1 hI
    obtain ⟨s,ρ1,ok1,i1,i2,i3,i4,i5,i6⟩:=sz hI
    cases hn:nJ (fun n=>Pn n a1 w1) with
    |zero=>rw [hn] at i1;cases i1
    |succ n=>
      rw [hn] at i1
      simp only [ix] at i1
      -- the round gives z
      have hz:∃z,body s=some z∧match z with| .inl s'=>ix body n s'=some r| .inr r'=>r'=r:=by
        split at i1<;>first|(cases i1;done)|skip
        · rename_i s' hs';exact ⟨_,hs',i1⟩
        · rename_i r' hr';cases i1;exact ⟨_,hr',rfl⟩
      obtain ⟨z,hz,hz2⟩:=hz
      refine jA hcx hinl hdr c (TS sh⊕R) h' (head s) _ z hz ρ1 ok1 w1 a1 i2 i3 (fun t ht=>by rw [i5.size];exact hW t ht) _ ?_ ?_
      rotate_left
      · rintro n' st1 a' w' h1 ⟨ρ',ok',D,g1,g2,g3,g4,g5⟩
        obtain ⟨r',hr',he⟩:=Option.map_eq_some_iff.1 h1
        subst he
        cases hz2
        refine hQp n' _ a' w' hr' ⟨ρ',ok',D++D0,?_,g2,g3,i4.trans g4,i5.trans g5 (fun _ h=>h) (fun _ h=>h)⟩
        have g1:st1.dt=D++ []:=g1
        rw [List.append_nil] at g1
        simp only [g1,D0,List.append_assoc]
      intro o e a' w' h1 h2 h3
      have leaves:∀st1:St,jO (head s) ρ1 ok1 w1 a1 (writes c) st1 a' w'→jO st ρ ok w a (writes (.loop c)) ⟨st1.env,st1.hp,st1.nx,st1.dt++(obN (hZ (cp sh st.env st.hp) st.nx sh.ob) sh.ob++(names (eC sh st.env st.hp)++st.dt))⟩ a' w':=by
        rintro st1 ⟨ρ',ok',D,g1,g2,g3,g4,g5⟩
        refine ⟨ρ',ok',D++D0,?_,g2,g3,i4.trans g4,i5.trans g5 (fun _ h=>h) (fun _ h=>h)⟩
        have g1:st1.dt=D++ []:=g1
        rw [List.append_nil] at g1
        simp only [g1,D0,List.append_assoc]
      cases o with
      |pan n st'=>cases h2
      |exit id st'=>
        cases h2
        simp only at h1
        obtain ⟨r',hr',he⟩:=Option.map_eq_some_iff.1 h1
        subst he
        cases hz2
        exact hQ _ _ _ _ hr' rfl (leaves st' h3)
      |ret st'=>
        cases h2
        simp only at h1
        obtain ⟨r',hr',he⟩:=Option.map_eq_some_iff.1 h1
        subst he
        cases hz2
        exact hQ _ _ _ _ hr' rfl (leaves st' h3)
      |normal st'=>
        cases h2
        simp only at h1
        split at h1<;>try (cases h1;done)
        rename_i s' hs'
        cases h1
        simp only at hz2
        unfold oP at hs'
        split at hs'<;>try (cases hs';done)
        rename_i hkept
        split at hs'<;>try (cases hs';done)
        rename_i hdt
        obtain ⟨ρ',ok',D,g1,g2,g3,g4,g5⟩:=h3
        have g1:st'.dt=D++ []:=g1
        rw [List.append_nil] at g1
        have g2:ew ρ' ok' w' st'.hp st'.nx:=g2
        have g3:eH ρ' ok' w' st'.nx st'.env a'.tmps:=g3
        have g4:gV ρ1 ok1 w1 (head s).hp (head s).nx D ρ' ok' w' st'.hp st'.nx:=g4
        have hdt':=nK hdt
        rw [g1] at hdt'
        have hf:=pn (sh:=sh) hH hE hkept
        have G:=i4.trans g4
        have T:=i5.trans g5 (U:=writes c) (fun _ h=>h) (fun _ h=>h)
        have hnob:∀q o,ups st.hp (eC sh st.env st.hp) q=some o→∀p∈sh.ob,q≠hZ (cp sh st.env st.hp) st.nx sh.ob p.1:=by
          intro q o h p hp e
          rcases j9 (nx:=st.nx) (ren:=cp sh st.env st.hp) sh.ob p.1 with k|⟨k,_⟩
          · have:=hlt q o h;omega
          · rw [←e] at k;exact (hleave q o h).1 (jc hp k)
        have hnot:∀q o,ups st.hp (eC sh st.env st.hp) q=some o→q∉names (eC sh st'.env st'.hp)∧q∉D:=by
          intro q o h
          have:q∉names (eC sh st'.env st'.hp)++D:=fun hm=>by
            rcases hdt' q hm with k|k|k
            · have:=hlt q o h;omega
            · obtain ⟨p,hp1,hp2⟩:=oz.1 k
              exact hnob q o h p hp1 hp2
            · rw [h] at k;cases k
          exact ⟨fun hm=>this (List.mem_append_left _ hm),fun hm=>this (List.mem_append_right _ hm)⟩
        have hhead:∀q o,ups st.hp (eC sh st.env st.hp) q=some o→(head s).hp q=some o:=fun q o h=>by
          show ofO _ _ sh.ob _ q=some o
          rw [kK _ _ _ _ _ (hnob q o h)];exact h
        obtain ⟨ρ2,ok2,t1,t2,t3,t4⟩:=qL hsh hH hE (f:=hZ (cp sh st.env st.hp) st.nx sh.ob) (H0:=ups st.hp (eC sh st.env st.hp)) (gone:=names (eC sh st.env st.hp))
          (fun q o h=>(hleave q o h).2) (fun q hq=>by rw [im,gk.2 hq]) g2 g3 G T hf
          (by
            intro q o h
            obtain ⟨k3,k4⟩:=hnot q o h
            have k1:=hhead q o h
            have k5:q∉names (hY sh st'.env st'.hp):=fun hm=>k3 ((gm sh q).2 (.inl hm))
            refine ⟨?_,?_,fun hm=>k3 ((gm sh q).2 (.inr hm))⟩
            · have hqn:=hlt q o h
              refine (i6 q o h).move (ok':=gZ ok' ρ' (names (hY sh st'.env st'.hp))) (fun b hb=>⟨.inl (g4.okm b hb),(g4.sameOk i2 b hb).2⟩)
                (fun l hl=>g4.rho l (by show l<st.nx+sh.nn;omega)) (Nat.le_refl _) (g4.rho q (by show q<st.nx+sh.nn;omega)) fun hw b hb=>?_
              exact g4.same b (i2.lt k1 hw hb) fun l hl hlt p hp hpw hbl=>by
                have:=i2.dis q l o p b k1 hp hw hpw hb hbl
                subst this
                exact k4 hl
            · rcases ie (iE sh st'.env st'.hp) q with ⟨m1,_⟩|⟨_,m1⟩
              · exact absurd m1 k5
              · rw [m1,g4.hps q (i2.ob q o k1).1 k4];exact k1)
          (by
            intro d hd hlt' hne
            rcases hd with hd|hd
            · rcases hdt' d (List.mem_append_left _ hd) with k|k|k
              · omega
              · exact List.mem_append_left _ k
              · refine List.mem_append_right _ ?_
                by_cases hm:d∈names (eC sh st.env st.hp)
                · exact hm
                · rw [im,gk.2 hm] at k;exact absurd k hne
            · rcases List.mem_append.1 hd with hd|hd
              · rcases hdt' d (List.mem_append_right _ hd) with k|k|k
                · omega
                · exact List.mem_append_left _ k
                · refine List.mem_append_right _ ?_
                  by_cases hm:d∈names (eC sh st.env st.hp)
                  · exact hm
                  · rw [im,gk.2 hm] at k;exact absurd k hne
              · exact hd) hs'
        have hP:Pn n a' w':=⟨s',ρ2,ok2,hz2,t1,t2,t3,T,t4⟩
        refine ⟨⟨n,hP⟩,?_⟩
        exact Nat.lt_succ_of_le (wK hP)
  | .rangeFunc _ _ _ _,R,h,st,κ,r,hc,ρ,ok,w,a,hH,hE,hW,Q,hQ,hQp=>by simp only [evC] at hc;cases hc
  | .scope _,R,h,st,κ,r,hc,ρ,ok,w,a,hH,hE,hW,Q,hQ,hQp=>by simp only [evC] at hc;cases hc
  | .goto _,R,h,st,κ,r,hc,ρ,ok,w,a,hH,hE,hW,Q,hQ,hQp=>by simp only [evC] at hc;cases hc
  | .refuse _,R,h,st,κ,r,hc,ρ,ok,w,a,hH,hE,hW,Q,hQ,hQp=>by simp only [evC] at hc;cases hc
end
end Lv
end
section
namespace Lv
variable [gG]
open Go Go.RowKit
theorem lO (c:Cell) (r:List Cell):dL (c::r)=dL [c]++dL r:=by cases c<;>rfl
section
variable {ρ ρ':Nat→Value} {ok ok':Nat→Prop} {w w':World} {nx nx':Nat}
theorem dP.names:∀{c:Cell} {v:Value},dP ρ ok w nx c v→∀l∈dL [c],l<nx
 | .int _ _,_,_,l,hl=>by cases hl
 | .bool _,_,_,l,hl=>by cases hl
 | .str _,_,_,l,hl=>by cases hl
 | .val _,_,_,l,hl=>by cases hl
 | .sl _ _ _,_,_,l,hl=>by cases hl
 | .rdp _ _ _,_,_,l,hl=>by cases hl
 | .ref _,_,h,l,hl=>by cases List.mem_singleton.1 hl;exact h.1
 | .sub _ _ _ _,_,h,l,hl=>by cases List.mem_singleton.1 hl;exact h.1
 | .ptr _ _,_,h,l,hl=>by cases List.mem_singleton.1 hl;exact h.1
 | .ifc _,_,_,l,hl=>by cases hl
 | .np _,_,h,l,hl=>by cases List.mem_singleton.1 hl;exact h.1
 | .bs _ _,_,h,l,hl=>by cases List.mem_singleton.1 hl;exact h.1
 | .elp _ _ _ _,_,h,l,hl=>by cases List.mem_singleton.1 hl;exact h.1
theorem dP.moveM (hs:gU ok ok' w w'):∀{c:Cell} {v:Value},(∀l∈dL [c],ρ' l=ρ l∧l<nx')→dP ρ ok w nx c v→dP ρ' ok' w' nx' c v
 | .int _ _,_,_,h=>h
 | .bool _,_,_,h=>h
 | .str _,_,_,h=>h
 | .val _,_,_,h=>h
 | .sl _ _ _,v,_,h=>ju hs h
 | .ref l,_,hr,⟨_,e,o⟩=>⟨(hr l (by simp [dL])).2,e.trans (hr l (by simp [dL])).1.symm,o⟩
 | .sub l _ _ _,_,hr,⟨_,A,cap,e,hl,hx⟩=>⟨(hr l (by simp [dL])).2,A,cap,e,hl,hx.imp id fun ⟨b,L,C,h1,h2⟩=>⟨b,L,C,(hr l (by simp [dL])).1.trans h1,h2⟩⟩
 | .ptr l _,_,hr,⟨_,b,e,hv⟩=>⟨(hr l (by simp [dL])).2,b,(hr l (by simp [dL])).1.trans e,hv⟩
 | .ifc _,_,_,h=>h
 | .bs l _,_,hr,⟨_,b,e,hv⟩=>⟨(hr l (by simp [dL])).2,b,(hr l (by simp [dL])).1.trans e,hv⟩
 | .np l,_,hr,⟨_,g⟩=>⟨(hr l (by simp [dL])).2,g.imp (fun h=>h) fun ⟨b,e,hv⟩=>⟨b,(hr l (by simp [dL])).1.trans e,hv⟩⟩
 | .elp l _ _ _,_,hr,⟨_,b,L,C,e,hv⟩=>⟨(hr l (by simp [dL])).2,b,L,C,(hr l (by simp [dL])).1.trans e,hv⟩
 | .rdp _ _ _,_,_,⟨b,o,vs,e,hb,hk,hc⟩=>⟨b,o,vs,e,(hs b hb).1,ju hs hk,fun j u hj=>(hs.cell hb).trans (hc j u hj)⟩
theorem lP:∀{cs:List Cell} {vs:List Value},All2 (dP ρ ok w nx) cs vs→∀l∈dL cs,l<nx
 |_,_,.nil,l,hl=>by cases hl
 |c::r,_,.cons h t,l,hl=>by
  rw [lO] at hl
  rcases List.mem_append.1 hl with hl|hl
  ·exact h.names l hl
  ·exact lP t l hl
theorem lQ (hs:gU ok ok' w w'):∀{cs:List Cell} {vs:List Value},(∀l∈dL cs,ρ' l=ρ l∧l<nx')→All2 (dP ρ ok w nx) cs vs→All2 (dP ρ' ok' w' nx') cs vs
 |_,_,_,.nil=> .nil
 |c::r,_,hr,.cons h t=>by
  rw [lO] at hr
  exact .cons (h.moveM hs fun l hl=>hr l (List.mem_append_left _ hl)) (lQ hs (fun l hl=>hr l (List.mem_append_right _ hl)) t)
theorem VR.names {g:Bool} {cs:List Cell} {v:Value} (h:VR ρ ok w nx g cs v):∀l∈dL cs,l<nx:=by
 cases g with
 |true=>obtain ⟨vs,_,h⟩:=h;exact lP h
 |false=>obtain ⟨c,e,h⟩:=h;subst e;exact h.names
theorem VR.moveM (hs:gU ok ok' w w') {g:Bool} {cs:List Cell} {v:Value} (hr:∀l∈dL cs,ρ' l=ρ l∧l<nx') (h:VR ρ ok w nx g cs v):VR ρ' ok' w' nx' g cs v:=by
 cases g with
 |true=>obtain ⟨vs,e,h⟩:=h;exact ⟨vs,e,lQ hs hr h⟩
 |false=>obtain ⟨c,e,h⟩:=h;subst e;exact ⟨c,rfl,h.moveM hs hr⟩
theorem mh:∀{cs:List (Bool×List Cell)} {vs:List Value},All2 (fun (p:Bool×List Cell) u=>VR ρ ok w nx p.1 p.2 u) cs vs→∀l∈kG cs,l<nx
  |_,_,.nil,l,hl=>by cases hl
  |(g,c)::r,_,.cons h t,l,hl=>by
    rcases List.mem_append.1 hl with hl|hl
    · exact VR.names h l hl
    · exact mh t l hl
theorem mi (hs:gU ok ok' w w'):∀{cs:List (Bool×List Cell)} {vs:List Value},(∀l∈kG cs,ρ' l=ρ l∧l<nx')→All2 (fun (p:Bool×List Cell) u=>VR ρ ok w nx p.1 p.2 u) cs vs→
    All2 (fun (p:Bool×List Cell) u=>VR ρ' ok' w' nx' p.1 p.2 u) cs vs
  |_,_,_,.nil=> .nil
  |(g,c)::r,_,hr,.cons h t=>
    .cons (VR.moveM hs (fun l hl=>hr l (List.mem_append_left _ hl)) h) (mi hs (fun l hl=>hr l (List.mem_append_right _ hl)) t)
theorem ij.names:∀{s:fE} {v:Value},ij ρ ok w nx s v→∀l∈gW (some s),l<nx
 | .v _ _,_,h=>VR.names h
 | .tup _,_,⟨vs,_,h⟩=>mh h
theorem ij.moveM (hs:gU ok ok' w w'):∀{s:fE} {v:Value},(∀l∈gW (some s),ρ' l=ρ l∧l<nx')→ij ρ ok w nx s v→ij ρ' ok' w' nx' s v
 | .v _ _,_,hr,h=>VR.moveM hs hr h
 | .tup _,_,hr,⟨vs,e,h⟩=>⟨vs,e,mi hs hr h⟩
theorem ObR.names {l:Nat}:∀{o:Ob},ObR ρ ok w nx l o→∀m∈iJ (some o),m<nx
 | .box _ _,⟨_,_,_,_,h⟩,m,hm=>lP h m hm
 | .arr _ _ _,_,m,hm=>by cases hm
 | .frz _ _ _,_,m,hm=>by cases hm
 | .mp _ _ _,_,m,hm=>by cases hm
 | .clo _ _ _,⟨_,_,_,h,k⟩,m,hm=>by
  rcases List.mem_append.1 hm with hm|hm
  ·exact mh h m hm
  ·exact mh k m hm
theorem ObR.moveM (hs:gU ok ok' w w') {l:Nat} (hl:ρ' l=ρ l):∀{o:Ob},(∀m∈iJ (some o),ρ' m=ρ m∧m<nx')→
 (o.own=true→∀b,blk (ρ l)=some b→w'.heap[b]?=w.heap[b]?)→ObR ρ ok w nx l o→ObR ρ' ok' w' nx' l o
 | .box e cs,hr,hb,⟨b,vs,h1,h2,h3⟩=>⟨b,vs,hl.trans h1,(hb rfl b (by rw [h1];rfl)).trans h2,lQ hs hr h3⟩
 | .arr e t xs,hr,hb,⟨inner,h1,h2⟩=>⟨inner,by rw [hl];exact kY h1 (hb rfl),h2.move hs⟩
 | .frz e t xs,hr,hb,h=>by show K ok' w' (.sl e t) xs [ρ' l];rw [hl];exact ju hs h
 | .mp g t kvs,hr,hb,⟨rr,es,clock,h1,h2,h3,h4⟩=>⟨rr,es,clock,hl.trans h1,(hb rfl rr (by rw [h1];rfl)).trans h2,h3.imp fun _ _=>mY.move hs,h4⟩
 | .clo f a b,hr,hb,⟨as,bs,h1,h2,h3⟩=>⟨as,bs,hl.trans h1,mi hs (fun m hm=>hr m (List.mem_append_left _ hm)) h2,mi hs (fun m hm=>hr m (List.mem_append_right _ hm)) h3⟩
end
section
variable {ρ:Nat→Value} {ok:Nat→Prop} {w:World} {hp hpL:cT} {nx nm nw:Nat} {up:Ups} {ρ':Nat→Value} {ok':Nat→Prop} {w':World}
def kx (ρ ρ':Nat→Value) (nm nw:Nat):Nat→Value:=fun l=>if nm≤l∧l<nm+nw then ρ' l else ρ l
theorem ka (hs:∀l o,hpL l=some o→hp l=some o) {q:Nat} {o:Ob} (h:ups hp up q=some o):ups hpL up q=some o∨(q∉names up∧hp q=some o∧hpL q=none):=by
 rw [im] at h
 cases hl:jv up q with
 |some x=>
  rw [hl] at h
  exact .inl (by rw [im,hl];exact h)
 |none=>
  rw [hl] at h
  cases hq:hpL q with
  |none=>exact .inr ⟨gk.1 hl,h,rfl⟩
  |some p=>
   have:=hs q p hq
   have h:hp q=some o:=h
   rw [h] at this
   cases this
   exact .inl (by rw [im,hl];exact hq)
theorem wP (hH : ew ρ ok w hp nx) (hs : ∀ l o,hpL l = some o → hp l = some o) (hL : ew ρ ok w hpL nm) (E : Eff ρ ok w hpL nm up nw ρ' ok' w') (hnx : nm + nw ≤ nx)
    (hno:∀l o,hp l=some o→(l<nm∨nm+nw≤l)∧∀m∈iJ (some o),m<nm∨nm+nw≤m):ew (kx ρ ρ' nm nw) ok' w' (ups hp up) nx:=by
  obtain ⟨R,g⟩:=E
  have old:∀l,(l<nm∨nm+nw≤l)→kx ρ ρ' nm nw l=ρ l:=fun l h=>by unfold kx;rw [if_neg (by omega)]
  have new:∀l,l<nm+nw→kx ρ ρ' nm nw l=ρ' l:=fun l h=>by
    unfold kx
    by_cases hl:nm≤l
    · rw [if_pos ⟨hl,h⟩]
    · rw [if_neg (by omega)];exact (g.rho l (by omega)).symm
  have hS:=g.sameOk hL
  refine ⟨?_,R.okl,?_,?_,R.gl⟩
  · intro q o h
    rcases ka hs h with h|⟨h1,h2,_⟩
    · obtain ⟨k1,k2⟩:=R.ob q o h
      exact ⟨by omega,k2.move (gU.refl _ _) new hnx (new q k1) fun _ _ _=>rfl⟩
    · obtain ⟨k1,k2⟩:=hH.ob q o h2
      obtain ⟨n1,n2⟩:=hno q o h2
      refine ⟨k1,k2.moveM hS (old q n1) (fun m hm=>⟨old m (n2 m hm),k2.names m hm⟩) fun hw b hb=>?_⟩
      refine g.same b (hH.lt h2 hw hb) fun l hl hlt p hp hpw hbl=>h1 ?_
      rwa [hH.dis q l o p b h2 (hs l p hp) hw hpw hb hbl]
  · intro q o b h hw hb hok
    rcases ka hs h with h|⟨h1,h2,_⟩
    · rw [new q (R.ob q o h).1] at hb
      exact R.sep q o b h hw hb hok
    · rw [old q (hno q o h2).1] at hb
      rcases g.okn b hok with k|k|⟨m,hm,hlt,p,hp,hpw,hbl⟩
      · exact hH.sep q o b h2 hw hb k
      · have:=hH.lt h2 hw hb;omega
      · exact h1 (by rwa [hH.dis q m o p b h2 (hs m p hp) hw hpw hb hbl])
  · have mix:∀l m o p b,ups hpL up l=some o→m∉names up→hp m=some p→o.own=true→p.own=true→blk (ρ' l)=some b→blk (ρ m)=some b→l=m:=by
      intro l m o p b h1 h2 h3 ho hpw hb1 hb2
      by_cases hl:l<nm
      · obtain ⟨q,k1,k2⟩:=g.stay l hl o h1
        rw [g.rho l hl] at hb1
        exact hH.dis l m q p b (hs l q k1) h3 (k2 ho) hpw hb1 hb2
      · rcases g.nb l o b (by omega) h1 ho hb1 with k|⟨m',hm',hlt,q,hq,hqw,hbq⟩
        · have:=hH.lt h3 hpw hb2;omega
        · have:=hH.dis m' m q p b (hs m' q hq) h3 hqw hpw hbq hb2
          subst this
          exact absurd hm' h2
    intro q q' o o' b h h' hw hw' hb hb'
    rcases ka hs h with h|⟨h1,h2,_⟩
    · rw [new q (R.ob q o h).1] at hb
      rcases ka hs h' with h'|⟨h1',h2',_⟩
      · rw [new q' (R.ob q' o' h').1] at hb'
        exact R.dis q q' o o' b h h' hw hw' hb hb'
      · rw [old q' (hno q' o' h2').1] at hb'
        exact mix q q' o o' b h h1' h2' hw hw' hb hb'
    · rw [old q (hno q o h2).1] at hb
      rcases ka hs h' with h'|⟨h1',h2',_⟩
      · rw [new q' (R.ob q' o' h').1] at hb'
        exact (mix q' q o' o b h' h1 h2 hw' hw hb' hb).symm
      · rw [old q' (hno q' o' h2').1] at hb'
        exact hH.dis q q' o o' b h2 h2' hw hw' hb hb'
theorem wQ {ρ0 : Nat → Value} {ok0 : Nat → Prop} {w0 : World} {hp0 : cT} {nx0 : Nat} {D : List Nat} (G : gV ρ0 ok0 w0 hp0 nx0 D ρ ok w hp nx) (hH : ew ρ ok w hp nx)
    (hs:∀l o,hpL l=some o→hp l=some o) (E:Eff ρ ok w hpL nm up nw ρ' ok' w') (h0:nx0≤nm) (hD:∀l∈names up,l∈D)
    (hno:∀l o,hp l=some o→l<nm∨nm+nw≤l):gV ρ0 ok0 w0 hp0 nx0 D (kx ρ ρ' nm nw) ok' w' (ups hp up) nx:=by
  obtain ⟨R,g⟩:=E
  have old:∀l,(l<nm∨nm+nw≤l)→kx ρ ρ' nm nw l=ρ l:=fun l h=>by unfold kx;rw [if_neg (by omega)]
  have new:∀l,l<nm+nw→kx ρ ρ' nm nw l=ρ' l:=fun l h=>by
    unfold kx
    by_cases hl:nm≤l
    · rw [if_pos ⟨hl,h⟩]
    · rw [if_neg (by omega)];exact (g.rho l (by omega)).symm
  have mid:∀l o b,hp l=some o→o.own=true→blk (ρ l)=some b→(l<nx0∧∃p,hp0 l=some p∧p.own=true∧blk (ρ0 l)=some b)∨
      (nx0≤l∧(w0.heap.size≤b∨∃m∈D,m<nx0∧∃p,hp0 m=some p∧p.own=true∧blk (ρ0 m)=some b)):=by
    intro l o b ho hw hb
    by_cases hl:l<nx0
    · obtain ⟨p,hp',hpw⟩:=G.stay l hl o ho
      exact .inl ⟨hl,p,hp',hpw hw,by rw [←G.rho l hl];exact hb⟩
    · exact .inr ⟨by omega,G.nb l o b (by omega) ho hw hb⟩
  refine ⟨g.os.trans G.os,g.tape.trans G.tape,g.output.trans G.output,Nat.le_trans G.size g.size,G.nxl,?_,?_,fun b hb=>g.okm b (G.okm b hb),?_,?_,?_,?_⟩
  · intro b hb hne
    have e1:w.heap[b]?=w0.heap[b]?:=G.same b hb hne
    refine (g.same b (Nat.lt_of_lt_of_le hb G.size) ?_).trans e1
    intro l hl hlt o ho hw hbl
    rcases mid l o b (hs l o ho) hw hbl with ⟨h1,p,h2,h3,h4⟩|⟨h1,h2|⟨m,hm,h3,p,h4,h5,h6⟩⟩
    · exact hne l (hD l hl) h1 p h2 h3 h4
    · omega
    · exact hne m hm h3 p h4 h5 h6
  · intro l hl
    rw [old l (by omega)]
    exact G.rho l hl
  · intro b hb
    rcases g.okn b hb with h1|h1|⟨l,hl,hlt,o,ho,hw,hbl⟩
    · exact G.okn b h1
    · exact .inr (.inl (Nat.le_trans G.size h1))
    · rcases mid l o b (hs l o ho) hw hbl with ⟨h1,p,h2,h3,h4⟩|⟨h1,h2|⟨m,hm,h3,p,h4,h5,h6⟩⟩
      · exact .inr (.inr ⟨l,hD l hl,h1,p,h2,h3,h4⟩)
      · exact .inr (.inl h2)
      · exact .inr (.inr ⟨m,hm,h3,p,h4,h5,h6⟩)
  · intro l hl hn
    rw [im,gk.2 fun h=>hn (hD l h)]
    exact G.hps l hl hn
  · intro l hl o ho
    rcases ka hs ho with h|⟨_,h,_⟩
    · obtain ⟨p,h1,h2⟩:=g.stay l (by omega) o h
      obtain ⟨q,h3,h4⟩:=G.stay l hl p (hs l p h1)
      exact ⟨q,h3,fun hw=>h4 (h2 hw)⟩
    · exact G.stay l hl o h
  · intro l o b hl ho hw hb
    rcases ka hs ho with h|⟨_,h,_⟩
    · rw [new l (R.ob l o h).1] at hb
      by_cases hl1:nm≤l
      · rcases g.nb l o b hl1 h hw hb with h1|⟨m,hm,h2,p,h3,h4,h5⟩
        · exact .inl (Nat.le_trans G.size h1)
        · rcases mid m p b (hs m p h3) h4 h5 with ⟨g1,q,g2,g3,g4⟩|⟨g1,g2⟩
          · exact .inr ⟨m,hD m hm,g1,q,g2,g3,g4⟩
          · exact g2
      · obtain ⟨p,h1,h2⟩:=g.stay l (by omega) o h
        rw [g.rho l (by omega)] at hb
        exact G.nb l p b hl (hs l p h1) (h2 hw) hb
    · rw [old l (hno l o h)] at hb
      exact G.nb l o b hl h hw hb
end
end Lv
end
section
namespace Lv
variable [gG]
open Go Go.RowKit
def yk (P:Program) (o:Oper) (st:St) (s:Option fE) (t:Tr):Prop:=∀ρ ok w (a:Act),ew ρ ok w (jN t.looks st.hp) st.nx→eH ρ ok w st.nx (ko (je o) st.env) a.tmps→(∀d∈gX o,d<a.tmps.size)→
 ∀Q:Exit→Act→World→Prop,o.wp P a w (fun a' w'=>∃v ρ' ok',a'=a.put o.dst v∧Eff ρ ok w (jN t.looks st.hp) st.nx t.up t.nw ρ' ok' w'∧∀x,s=some x→ij ρ' ok' w' (st.nx+t.nw) x v) Q
structure E where
 o:Oper
 yes:Bool
 s:Option fE
 t:Tr
def E.go (e:E) (st:St):St:=⟨gj st.env e.o.dst e.s,ups st.hp e.t.up,st.nx+e.t.nw,names e.t.up++st.dt⟩
def goAll (st:St):List E→St
 | []=>st
 |e::r=>goAll (e.go st) r
structure nL (P:Program) (ops:Array Oper) (st:St) (e:E):Prop where
 nm:e.t.nm=st.nx
 guard:match e.o.guard with
  |none=>e.yes=true
  |some (g,want)=>∃t,(ops[g]?).bind (·.dst)=some t∧((∃b,st.env t=some (.v false [.bool b])∧e.yes=(b==want))∨(st.env t=some (.tup [])∧e.yes=false))
 no:e.yes=false→e.s=some (.tup [])∧e.t.up=[]∧e.t.nw=0
 says:∀l,l∈gW e.s∨l∈jR e.t.up→l∈e.t.says
 looks:e.yes=true→(∀t∈je e.o,∀l∈gW (st.env t),l∈e.t.looks)∧(∀l∈e.t.looks,l<st.nx)∧(∀l∈e.t.looks,∀m∈iJ (st.hp l),m<st.nx)
 loc:e.yes=true→yk P e.o st e.s e.t
theorem jp {nx:Nat}:∀{l:List Nat},jo nx l=true↔∀x∈l,x<nx
 | []=>by simp [jo]
 |x::r=>by
  simp only [jo,Bool.and_eq_true,jp (l:=r),List.mem_cons,forall_eq_or_imp]
  refine and_congr ?_ Iff.rfl
  exact ⟨fun h=>Nat.le_of_ble_eq_true h,fun h=>Nat.ble_eq_true_of_le h⟩
theorem lR:∀{l:List (Option fE)} {s:Option fE} {n:Nat},s∈l→n∈gW s→n∈j7 l
 |s::r,t,n,h,hn=>by
  rcases List.mem_cons.1 h with rfl|h
  ·exact List.mem_append_left _ hn
  ·exact List.mem_append_right _ (lR h hn)
theorem uj {o:Oper} {t:Nat}:t∈je o↔Operand.tmp t∈o.op.operands.toList:=by
 unfold je
 rw [List.mem_filterMap]
 constructor
 ·rintro ⟨x,hx,h⟩
  cases x<;>simp at h
  subst h;exact hx
 ·intro h
  exact ⟨_,h,rfl⟩
theorem yl {st:St} {o:Oper} {l:Nat} (h:l∈j7 (qB (ko (je o) st.env) o)):l∈jQ st o:=by
 unfold jQ
 split<;>first|exact h|exact List.mem_append_left _ h
theorem wR {st:St} {o:Oper} (h:lkOk st (jQ st o)=true):
 (∀t∈je o,∀l∈gW (st.env t),l∈jQ st o)∧(∀l∈jQ st o,l<st.nx)∧(∀l∈jQ st o,∀m∈iJ (st.hp l),m<st.nx):=by
 obtain ⟨h1,h2⟩:=Bool.and_eq_true_iff.1 h
 refine ⟨fun t ht l hl=>?_,jp.1 h1,fun l hl m hm=>jp.1 h2 m (List.mem_flatMap.2 ⟨l,hl,hm⟩)⟩
 refine yl (lR (s:=st.env t) (List.mem_map.2 ⟨.tmp t,uj.1 ht,?_⟩) hl)
 show ko (je o) st.env t=_
 unfold ko
 rw [if_pos (iK.2 ht)]
theorem qk (l:List Nat) (hp:cT):∀n o,jN l hp n=some o→hp n=some o:=fun n o h=>by
 unfold jN at h
 split at h
 ·exact h
 ·cases h
theorem nM {l:List Nat} {hp:cT} {n:Nat} {o:Ob} (h:jN l hp n=some o):n∈l:=by
 unfold jN at h
 split at h
 ·rename_i hm;exact iK.1 hm
 ·cases h
section
variable {P:Program} {cx:Cx} {R:Type}
theorem wS (hcx:gT P cx) {o:Oper} {st:St} {κ:St→Tr→Option R} {r:R} (h:pZ cx o st κ=some r):
 ∃s t,κ ⟨gj st.env o.dst s,ups st.hp t.up,st.nx+t.nw,names t.up++st.dt⟩ t=some r∧t.nm=st.nx∧(∀l,l∈gW s∨l∈jR t.up→l∈t.says)∧t.looks=jQ st o∧lkOk st (jQ st o)=true∧yk P o st s t:=by
 unfold pZ at h
 split at h<;>try (cases h;done)
 rename_i hlk
 have plain:(match gR cx st.nx o.op (opd (ko (je o) st.env)) (jN (jQ st o) st.hp) with
  |some r=>bif r.c then κ ⟨gj st.env o.dst r.s,ups st.hp r.up,st.nx+r.nw,names r.up++st.dt⟩
   ⟨r.up,jQ st o,gW r.s++jR r.up,st.nx,r.nw⟩ else none
  |none=>none)=some r→∃s t,κ ⟨gj st.env o.dst s,ups st.hp t.up,st.nx+t.nw,names t.up++st.dt⟩ t=some r∧t.nm=st.nx∧(∀l,l∈gW s∨l∈jR t.up→l∈t.says)∧t.looks=jQ st o∧lkOk st (jQ st o)=true∧yk P o st s t:=by
  intro h
  split at h<;>try (cases h;done)
  rename_i res hres
  cases hc:res.c with
  |false=>rw [hc] at h;cases h
  |true=>
   rw [hc] at h
   refine ⟨res.s,⟨res.up,jQ st o,gW res.s++jR res.up,st.nx,res.nw⟩,h,rfl,fun l hl=>List.mem_append.2 hl,rfl,hlk,?_⟩
   intro ρ ok w a hH hE hd Q
   have hN:Now P ρ ok w ⟨ko (je o) st.env,jN (jQ st o) st.hp,st.nx,[]⟩ a (jN (jQ st o) st.hp):=⟨hH,hE,fun _ _ h=>h⟩
   obtain ⟨n,w',ρ',ok',h1,h2,h3⟩:=vj cx hcx.tab hcx.eqs hN hres hc
   unfold Oper.wp
   rw [h1]
   rcases h3 with ⟨v,rfl,hs⟩|⟨rfl,hs⟩
   ·exact ⟨v,ρ',ok',rfl,h2,hs⟩
   ·exact ⟨undef,ρ',ok',rfl,h2,fun x hx=>by rw [hs] at hx;cases hx⟩
 split at h
 ·rename_i f args ts ho
  split at h<;>try (cases h;done)
  rename_i g as hg
  split at h<;>try (cases h;done)
  rename_i sp hsp
  obtain ⟨hent,hspec⟩:=hcx.spec g _ _ sp hsp
  split at h<;>try (cases h;done)
  rename_i cr hcr
  unfold qA at hcr
  split at hcr<;>try (cases hcr;done)
  rename_i hn
  split at hcr<;>try (cases hcr;done)
  rename_i hchk
  simp only [Bool.and_eq_true] at hchk
  obtain ⟨c1,c2,c3,c4⟩:=hchk
  split at hcr<;>try (cases hcr;done)
  rename_i x hx
  cases hcr
  obtain ⟨y,hy,hκ⟩:=Option.bind_eq_some_iff.1 h
  refine ⟨_,⟨_,jQ st o,_,st.nx,_⟩,hκ,rfl,fun l hl=>List.mem_append.2 hl,rfl,hlk,?_⟩
  intro ρ ok w a hH hE hd Q
  have hN:Now P ρ ok w ⟨ko (je o) st.env,jN (jQ st o) st.hp,st.nx,[]⟩ a (jN (jQ st o) st.hp):=⟨hH,hE,fun _ _ h=>h⟩
  obtain ⟨vals,hsz,hv,hrun⟩:=qi hN ho hg
  obtain ⟨ρi,oki,i1,i2,i3⟩:=m9 hH (fun _ _ h=>h) hv c1 (Nat.le_of_ble_eq_true c2) c3 c4 hx
  unfold Oper.wp
  rw [hrun hent]
  rw [Oper.upon_enter]
  refine (hspec x y hy ρi oki w vals (by rw [hsz];exact Nat.eq_of_beq_eq_true hn) i1 i2).mono ?_
  rintro e w' ⟨v,ρ',ok',rfl,e1,e2,e3⟩
  obtain ⟨ρ2,e4,e5⟩:=i3 y v w' ρ' ok' e1 e2 e3
  exact ⟨v,ρ2,ok',rfl,e4,e5⟩
 ·exact plain h
theorem sB {env:Env} {t:Nat} {s:Option fE} (h:env t=s):Lv.put env t s=env:=by
 funext i
 simp only [Lv.put]
 split
 ·rename_i hi;rw [Nat.eq_of_beq_eq_true hi,h]
 ·rfl
theorem po (hcx : gT P cx) (ops : Array Oper) : ∀ (l : List Oper) (st : St) (tr : List Tr) (κ : St → List Tr → Option R) (r : R),iQ cx ops l st tr κ = some r →
    ∃es:List E,es.map (·.o)=l∧κ (goAll st es) (tr++es.map (·.t))=some r∧∀i e,es[i]?=some e→nL P ops (goAll st (es.take i)) e
  | [],st,tr,κ,r,h=>⟨[],rfl,by simpa [iQ,goAll] using h,fun i e he=>by simp at he⟩
  | o :: l,st,tr,κ,r,h => by
    have add:∀(e:E),e.o=o→nL P ops st e→iQ cx ops l (e.go st) (tr++ [e.t]) κ=some r→
        ∃es:List E,es.map (·.o)=o::l∧κ (goAll st es) (tr++es.map (·.t))=some r∧∀i e,es[i]?=some e→nL P ops (goAll st (es.take i)) e:=by
      intro e he hc h
      obtain ⟨es,h1,h2,h3⟩:=po hcx ops l (e.go st) (tr++ [e.t]) κ r h
      refine ⟨e::es,by simp [he,h1],by simpa [goAll] using h2,fun i x hx=>?_⟩
      cases i with
      |zero=>simp at hx;subst hx;exact hc
      |succ i=>exact h3 i x (by simpa using hx)
    have doIt:pZ cx o st (fun st t=>iQ cx ops l st (tr++ [t]) κ)=some r→
        (match o.guard with
          |none=>True
          |some (g,want)=>∃t,(ops[g]?).bind (·.dst)=some t∧((∃b,st.env t=some (.v false [.bool b])∧true=(b==want))∨(st.env t=some (.tup [])∧true=false)))→
        ∃es:List E,es.map (·.o)=o::l∧κ (goAll st es) (tr++es.map (·.t))=some r∧∀i e,es[i]?=some e→nL P ops (goAll st (es.take i)) e:=by
      intro hs hg
      obtain ⟨s,t,h1,h2,h3,h4,h5,h6⟩:=wS hcx hs
      refine add ⟨o,true,s,t⟩ rfl ⟨h2,?_,(fun h=>by cases h),h3,(fun _=>?_),fun _=>h6⟩ h1
      · simp only
        revert hg
        cases o.guard with
        |none=>exact fun _=>trivial
        |some p=>exact id
      · simp only [h4];exact wR h5
    have skipIt:iQ cx ops l ⟨gj st.env o.dst (some (.tup [])),st.hp,st.nx,st.dt⟩ (tr++ [⟨[],[],[],st.nx,0⟩]) κ=some r→
        (∃g want,o.guard=some (g,want)∧∃t,(ops[g]?).bind (·.dst)=some t∧((∃b,st.env t=some (.v false [.bool b])∧false=(b==want))∨(st.env t=some (.tup [])∧false=false)))→
        ∃es:List E,es.map (·.o)=o::l∧κ (goAll st es) (tr++es.map (·.t))=some r∧∀i e,es[i]?=some e→nL P ops (goAll st (es.take i)) e:=by
      rintro hs ⟨g,want,hg,ht⟩
      refine add ⟨o,false,some (.tup []),⟨[],[],[],st.nx,0⟩⟩ rfl ⟨rfl,?_,(fun _=>⟨rfl,rfl,rfl⟩),?_,(fun h=>by cases h),(fun h=>by cases h)⟩ hs
      · simp only [hg];simpa using ht
      · rintro l (hl|hl)<;>cases hl
    simp only [iQ] at h
    split at h
    · rename_i hg
      exact doIt h (by rw [hg];trivial)
    · rename_i g want hg
      split at h<;>try (cases h;done)
      rename_i t ht
      split at h
      case h_2=>
        split at h<;>try (cases h;done)
        rename_i hu
        exact skipIt h ⟨g,want,hg,t,ht,.inr ⟨hu,rfl⟩⟩
      rename_i b hb
      have hb:=kq hb
      cases b with
      |true=>
        rw [sB hb] at h
        simp only [cond_true] at h
        cases want with
        |true=>exact doIt h (by rw [hg];exact ⟨t,ht,.inl ⟨true,hb,rfl⟩⟩)
        |false=>exact skipIt h ⟨g,false,hg,t,ht,.inl ⟨true,hb,rfl⟩⟩
      |false=>
        rw [sB hb] at h
        simp only [cond_false] at h
        cases want with
        |false=>exact doIt h (by rw [hg];exact ⟨t,ht,.inl ⟨false,hb,rfl⟩⟩)
        |true=>exact skipIt h ⟨g,true,hg,t,ht,.inl ⟨false,hb,rfl⟩⟩
end
section
variable {α:Type} {n:Nat} {val:Nat→Nat→α} {wr:Nat→Nat→Option α} {rd:Nat→Nat→Prop} {ord:Nat→Nat→Prop}
structure lv (n:Nat) (val:Nat→Nat→α) (wr:Nat→Nat→Option α) (rd:Nat→Nat→Prop) (ord:Nat→Nat→Prop):Prop where
 step:∀i,i<n→∀k,val (i+1) k=(wr i k).getD (val i k)
 free:∀i j,i<j→j<n→¬ord i j→∀k,(wr i k≠none→¬rd j k∧wr j k=none)∧(wr j k≠none→¬rd i k)
def uk (n:Nat) (val:Nat→Nat→α) (wr:Nat→Nat→Option α) (rd:Nat→Nat→Prop) (ls:Nat→Prop) (cur:Nat→α):Prop:=
 ∀k,(k=n∨(k<n∧¬ls k))→∀key,(k=n∨rd k key)→(∀j,j<k→¬ls j→wr j key=none)→cur key=val k key
theorem lv.keep (h:lv n val wr rd ord) {i k:Nat} (hik:i≤k) (hk:k≤n) {key:Nat} (hn:∀j,i≤j→j<k→wr j key=none):val k key=val i key:=by
 induction k with
 |zero=>cases Nat.le_zero.1 hik;rfl
 |succ k ih=>
  by_cases hk':i=k+1
  ·subst hk';rfl
  ·rw [h.step k (by omega),hn k (by omega) (by omega),Option.getD_none]
   exact ih (by omega) (by omega) fun j h1 h2=>hn j h1 (by omega)
theorem lv.start (h:lv n val wr rd ord):uk n val wr rd (fun _=>False) (val 0):=fun k hk key _ hn=>
 (h.keep (Nat.zero_le k) (by omega) fun j _ hj=>hn j hj id).symm
theorem lv.reads (h:lv n val wr rd ord) {ls:Nat→Prop} {cur:Nat→α} (hs:uk n val wr rd ls cur) {i:Nat} (hi:i<n) (hn:¬ls i) (hr:∀j,ord j i→ls j) {key:Nat} (hk:rd i key):cur key=val i key:=by
 refine hs i (.inr ⟨hi,hn⟩) key (.inr hk) fun j hj hjn=>?_
 cases hw:wr j key with
 |none=>rfl
 |some x=>exact absurd hk ((h.free j i hj hi fun ho=>hjn (hr j ho)) key|>.1 (by rw [hw];simp)).1
theorem lv.next (h : lv n val wr rd ord) {ls : Nat → Prop} {cur : Nat → α} (hs : uk n val wr rd ls cur) {i : Nat} (hi : i < n) (hn : ¬ ls i) (hr : ∀ j,ord j i → ls j) (hdown : ∀ j,j < n → ls j → ∀ m,ord m j → ls m)
    {cur':Nat→α} (hc:∀key,cur' key=(wr i key).getD (cur key)):uk n val wr rd (fun j=>ls j∨j=i) cur':=by
  intro k hk key hkr hnw
  have hk2:k=n∨(k<n∧¬ls k):=hk.imp id fun ⟨a,b⟩=>⟨a,fun hl=>b (.inl hl)⟩
  rw [hc]
  cases hw:wr i key with
  |none=>
    rw [Option.getD_none]
    refine hs k hk2 key hkr fun j hj hjn=>?_
    by_cases hji:j=i
    · subst hji;exact hw
    · exact hnw j hj fun hx=>hx.elim hjn hji
  |some v=>
    rw [Option.getD_some]
    have hik:i<k:=by
      rcases hk with rfl|⟨hk1,hk2⟩
      · exact hi
      · rcases hkr with rfl|hkr
        · exact hi
        · rcases Nat.lt_trichotomy i k with hlt|heq|hgt
          · exact hlt
          · exact absurd (.inr heq.symm) hk2
          · exact absurd hkr ((h.free k i hgt hi fun ho=>hk2 (.inl (hr k ho))) key|>.2 (by rw [hw];simp))
    have hkn:k≤n:=by omega
    rw [h.keep (i:=i+1) hik hkn fun j hj1 hj2=>?_,h.step i hi,hw,Option.getD_some]
    by_cases hjl:ls j
    · exact ((h.free i j hj1 (by omega) fun ho=>hn (hdown j (by omega) hjl i ho)) key|>.1 (by rw [hw];simp)).2
    · exact hnw j hj2 fun hx=>hx.elim hjl (by omega)
theorem lv.last (h:lv n val wr rd ord) {ls:Nat→Prop} {cur:Nat→α} (hs:uk n val wr rd ls cur) (hall:∀i,i<n→ls i) (key:Nat):cur key=val n key:=
 hs n (.inl rfl) key (.inl rfl) fun j hj hn=>absurd (hall j hj) hn
end
end Lv
end
section
namespace Lv
variable [gG]
open Go Go.RowKit
theorem mI {acc : List Nat} {i : Nat} : ∀ {es : List Edge},(kX acc es).testBit i = true → ∃ e ∈ es,Region.binds .any e = true ∧ (e.on = i ∨ (acc.getD e.on 0).testBit i = true)
  | [],h=>by simp [kX] at h
  | e :: r,h => by
    simp only [kX] at h
    cases hb:Region.binds .any e with
    |false=>
      rw [hb] at h
      obtain ⟨e',h1,h2⟩:=mI (es:=r) h
      exact ⟨e',List.mem_cons_of_mem _ h1,h2⟩
    |true=>
      rw [hb] at h
      have h:((2^e.on|||acc.getD e.on 0)|||kX acc r).testBit i=true:=h
      rw [Nat.testBit_or,Nat.testBit_or,Nat.testBit_two_pow] at h
      simp only [Bool.or_eq_true,decide_eq_true_eq] at h
      rcases h with (h|h)|h
      · exact ⟨e,List.mem_cons_self,hb,.inl h⟩
      · exact ⟨e,List.mem_cons_self,hb,.inr h⟩
      · obtain ⟨e',h1,h2⟩:=mI (es:=r) h
        exact ⟨e',List.mem_cons_of_mem _ h1,h2⟩
theorem nN {α:Type} (n:Nat) (k:Nat→α):xJ n k=k n:=by cases n<;>rfl
theorem nP:∀(l:List Oper) (acc:List Nat) (j:Nat),j<acc.length→(lz l acc).getD j 0=acc.getD j 0
 | [],acc,j,h=>rfl
 |o::r,acc,j,h=>by
  rw [lz,nN,nP r _ j (by simp;omega)]
  simp [List.getElem?_append_left h]
theorem sC:∀(l:List Oper) (acc:List Nat) (k:Nat) (o:Oper),l[k]?=some o→∃acc':List Nat,(∀m,m<acc.length+k→acc'.getD m 0=(lz l acc).getD m 0)∧(∀m,acc.length+k≤m→acc'.getD m 0=0)∧
    (lz l acc).getD (acc.length+k) 0=kX acc' o.after.toList
  | [],_,k,o,h=>by simp at h
  | p :: r,acc,0,o,h => by
    simp at h;subst h
    refine ⟨acc,fun m hm=>?_,fun m hm=>?_,?_⟩
    · exact (nP (p::r) acc m (by omega)).symm
    · simp only [List.getD_eq_getElem?_getD]
      rw [List.getElem?_eq_none (by omega)];rfl
    · rw [lz,nN,nP r _ _ (by simp)]
      simp
  |p::r,acc,k+1,o,h=>by
    rw [lz,nN]
    obtain ⟨acc',h1,h2,h3⟩:=sC r (acc++ [kX acc p.after.toList]) k o (by simpa using h)
    simp only [List.length_append,List.length_singleton] at h1 h2 h3
    exact ⟨acc',fun m hm=>h1 m (by omega),fun m hm=>h2 m (by omega),by rw [←h3];congr 1;omega⟩
theorem vv {ops:Array Oper} {i j:Nat} {o:Oper} (ho:ops[j]?=some o) (h:((lz ops.toList []).getD j 0).testBit i=true):
 ∃e∈o.after,Region.binds .any e=true∧(e.on=i∨(e.on<j∧((lz ops.toList []).getD e.on 0).testBit i=true)):=by
 obtain ⟨acc,h1,h2,h3⟩:=sC ops.toList [] j o (by simpa using ho)
 simp only [List.length_nil,Nat.zero_add] at h1 h2 h3
 rw [h3] at h
 obtain ⟨e,g1,g2,g3⟩:=mI h
 refine ⟨e,by simpa using g1,g2,g3.imp id fun g=>?_⟩
 by_cases hlt:e.on<j
 ·exact ⟨hlt,by rw [←h1 e.on hlt];exact g⟩
 ·rw [h2 e.on (by omega)] at g;simp at g
theorem lS:∀{l:List Oper} {i:Nat},nD i l=true→∀(k:Nat) (o:Oper),l[k]?=some o→∀e∈o.after,Region.binds .any e=true→e.on<i+k
  | [],i,_,k,o,h,_,_,_=>by simp at h
  | p :: r,i,hb,k,o,h,e,he,hbd => by
    obtain ⟨h1,h2⟩:=Bool.and_eq_true_iff.1 hb
    cases k with
    |zero=>
      simp at h;subst h
      have:=List.all_eq_true.1 h1 e (by simpa using he)
      rw [hbd] at this
      simpa [Nat.blt_eq] using this
    |succ k=>
      have:=lS h2 k o (by simpa using h) e he hbd
      omega
theorem pp {ops:Array Oper} {bs:List Nat} {i:Nat} {o:Oper} {t:Tr}:∀{l:List (Oper×Tr)} {j:Nat},xK ops bs i o t j l=true→∀(k:Nat) (p:Oper) (u:Tr),l[k]?=some (p,u)→
    (bs.getD (j+k) 0).testBit i=true∨oN ops o p t u=true
  | [],j,_,k,p,u,h=>by simp at h
  |(q,v)::r,j,hb,k,p,u,h=>by
    obtain ⟨h1,h2⟩:=Bool.and_eq_true_iff.1 hb
    cases k with
    |zero=>simp at h;obtain ⟨rfl,rfl⟩:=h;exact Bool.or_eq_true_iff.1 h1
    |succ k=>
      have:=pp h2 k p u (by simpa using h)
      rwa [show j+1+k=j+(k+1) by omega] at this
theorem nc {ops:Array Oper} {bs:List Nat}:∀{l:List (Oper×Tr)} {i0:Nat},qC ops bs i0 l=true→∀(i j:Nat) (o p:Oper) (t u:Tr),i<j→l[i]?=some (o,t)→l[j]?=some (p,u)→
    (bs.getD (i0+j) 0).testBit (i0+i)=true∨oN ops o p t u=true
  | [],i0,_,i,j,o,p,t,u,_,h,_=>by simp at h
  |(q,v)::r,i0,hb,i,j,o,p,t,u,hij,h,k=>by
    obtain ⟨h1,h2⟩:=Bool.and_eq_true_iff.1 hb
    obtain ⟨j,rfl⟩:∃j',j=j'+1:=⟨j-1,by omega⟩
    have k:r[j]?=some (p,u):=by simpa using k
    cases i with
    |zero=>
      simp at h;obtain ⟨rfl,rfl⟩:=h
      have:=pp h1 j p u k
      rwa [show i0+1+j=i0+(j+1) by omega] at this
    |succ i=>
      have:=nc h2 i j o p t u (by omega) (by simpa using h) k
      rwa [show i0+1+j=i0+(j+1) by omega,show i0+1+i=i0+(i+1) by omega] at this
theorem pq (st:St):∀(l:List E) (e:E),goAll st (l++ [e])=e.go (goAll st l)
 | [],e=>rfl
 |a::r,e=>pq (a.go st) r e
theorem mJ {st:St} {es:List E} {i:Nat} {e:E} (h:es[i]?=some e):goAll st (es.take (i+1))=e.go (goAll st (es.take i)):=by
 rw [←pq]
 congr 1
 rw [List.take_add_one,h]
 rfl
theorem sD (st:St):∀(es:List E),∃D,(goAll st es).dt=D++st.dt∧∀e∈es,∀l∈names e.t.up,l∈D
 | []=>⟨[],rfl,fun e he=>by cases he⟩
 |e::r=>by
  obtain ⟨D,h1,h2⟩:=sD (e.go st) r
  refine ⟨D++names e.t.up,by rw [goAll,h1];simp [E.go],fun x hx l hl=>?_⟩
  rcases List.mem_cons.1 hx with rfl|hx
  ·exact List.mem_append_right _ hl
  ·exact List.mem_append_left _ (h2 x hx l hl)
theorem og:∀{u:Ups} {l:Nat} {o:Option Ob} {m:Nat},(l,o)∈u→m∈iJ o→m∈jR u
  |(a,b)::r,l,o,m,h,hm=>by
    rcases List.mem_cons.1 h with h|h
    · cases h;exact List.mem_append_left _ hm
    · exact List.mem_append_right _ (og h hm)
theorem ew.heap {ρ:Nat→Value} {ok:Nat→Prop} {w w':World} {hp:cT} {nx:Nat} (h:ew ρ ok w hp nx) (e:w'.heap=w.heap):ew ρ ok w' hp nx:=
 have hS:gU ok ok w w':=fun b hb=>⟨hb,by rw [e]⟩
 ⟨fun l o ho=>⟨(h.ob l o ho).1,(h.ob l o ho).2.move hS (fun _ _=>rfl) (Nat.le_refl _) rfl fun _ _ _=>by rw [e]⟩,fun b hb=>by rw [e];exact h.okl b hb,h.sep,h.dis,h.gl.move hS⟩
theorem eH.heap {ρ:Nat→Value} {ok:Nat→Prop} {w w':World} {env:Env} {tmps:Array Value} {nx:Nat} (h:eH ρ ok w nx env tmps) (e:w'.heap=w.heap):eH ρ ok w' nx env tmps:=
 fun t s hs=>let ⟨v,h1,h2⟩:=h t s hs
 ⟨v,h1,h2.move (fun b hb=>⟨hb,by rw [e]⟩) (fun _ _=>rfl) (Nat.le_refl _)⟩
theorem ql:∀(l:List Bool) (i:Nat),l[i]?=some false→(l.set i true).countP (! ·)+1=l.countP (! ·)
 | [],i,h=>by simp at h
 |b::r,0,h=>by simp at h;subst h;simp
 |b::r,i+1,h=>by
  have:=ql r i (by simpa using h)
  simp only [List.set_cons_succ,List.countP_cons]
  omega
theorem pr:∀(l:List Bool),l.countP (! ·)=0→∀i,i<l.length→l[i]?=some true
  | [],_,i,h=>by simp at h
  | b :: r,h,i,hi => by
    simp only [List.countP_cons] at h
    cases b with
    |false=>simp at h
    |true=>
      cases i with
      |zero=>rfl
      |succ i=>simpa using pr r (by simpa using h) i (by simpa using hi)
theorem sE (l:Array Bool):(∀i,i<l.size→l.getD i false=true)∨∃i,i<l.size∧l.getD i false=false∧∀j,j<i→l.getD j false=true:=by
 by_cases h:∃i,i<l.size∧l.getD i false=false
 ·obtain ⟨i,⟨h1,h2⟩,h3⟩:=lM h
  refine .inr ⟨i,h1,h2,fun j hj=>?_⟩
  cases hl:l.getD j false with
  |true=>rfl
  |false=>have:=h3 j ⟨by omega,hl⟩;omega
 ·refine .inl fun i hi=>?_
  cases hl:l.getD i false with
  |true=>rfl
  |false=>exact absurd ⟨i,hi,hl⟩ h
end Lv
end
section
namespace Lv
variable [gG]
open Go Go.RowKit
section
variable (P:Program) (ops:Array Oper) (es:List E) (st:St)
def vE (i t:Nat):Option fE:=(goAll st (es.take i)).env t
def wE (i t:Nat):Option (Option fE):=match es[i]? with|some e=>if e.o.dst=some t then some e.s else none|none=>none
def rE (i t:Nat):Prop:=∃e,es[i]?=some e∧t∈mB ops e.o
def vH (i l:Nat):Option Ob:=(goAll st (es.take i)).hp l
def wH (i l:Nat):Option (Option Ob):=match es[i]? with|some e=>jv e.t.up l|none=>none
def rH (i l:Nat):Prop:=∃e,es[i]?=some e∧l∈e.t.looks
def nmAt (i:Nat):Nat:=(goAll st (es.take i)).nx
def ym (i j:Nat):Prop:=((lz ops.toList []).getD j 0).testBit i=true
structure Ok:Prop where
 all:es.map (·.o)=ops.toList
 cond:∀i e,es[i]?=some e→nL P ops (goAll st (es.take i)) e
 back:∀(k:Nat) (o:Oper),ops[k]?=some o→∀e∈o.after,Region.binds .any e=true→e.on<k
 free:∀i j a b,i<j→es[i]?=some a→es[j]?=some b→¬ym ops i j→oN ops a.o b.o a.t b.t=true
end
section
variable {P:Program} {ops:Array Oper} {es:List E} {st:St}
theorem nQ (env:Env) (d:Option Nat) (s:Option fE) (t:Nat):gj env d s t=(if d=some t then some s else none).getD (env t):=by
 cases d with
 |none=>rfl
 |some u=>
  simp only [gj,Lv.put]
  by_cases h:u=t
  ·subst h;simp
  ·rw [if_neg fun e=>h (Nat.eq_of_beq_eq_true e).symm,if_neg (by simpa using h)];rfl
theorem Ok.canonE (K:Ok P ops es st):lv es.length (vE es st) (wE es) (rE ops es) (ym ops):=by
 refine ⟨fun i hi k=>?_,fun i j hij hj hn k=>?_⟩
 ·have he:es[i]?=some es[i]:=List.getElem?_eq_getElem hi
  simp only [vE,wE,he,mJ he,E.go]
  exact nQ _ _ _ _
 ·have h1:es[i]?=some es[i]:=List.getElem?_eq_getElem (by omega)
  have h2:es[j]?=some es[j]:=List.getElem?_eq_getElem hj
  have hf:=K.free i j _ _ hij h1 h2 hn
  simp only [oN,Bool.and_eq_true,iU] at hf
  obtain ⟨⟨⟨⟨⟨⟨⟨⟨⟨f1,f2⟩,f3⟩,f4⟩,f5⟩,f6⟩,f7⟩,f8⟩,f9⟩,f10⟩:=hf
  have dst:∀i (hi:i<es.length),wE es i k≠none→k∈gX es[i].o:=fun i hi h=>by
   have he:es[i]?=some es[i]:=List.getElem?_eq_getElem hi
   simp only [wE,he] at h
   split at h
   ·rename_i hd;simp [gX,hd]
   ·exact absurd rfl h
  refine ⟨fun h=>⟨?_,?_⟩,fun h=>?_⟩
  ·rintro ⟨e,he,ht⟩
   rw [h2] at he;cases he
   exact f1 k (dst i (by omega) h) ht
  ·cases hw:wE es j k with
   |none=>rfl
   |some x=>exact absurd (dst j hj (by rw [hw];simp)) (f3 k (dst i (by omega) h))
  ·rintro ⟨e,he,ht⟩
   rw [h1] at he;cases he
   exact f2 k (dst j hj h) ht
theorem Ok.canonH (K:Ok P ops es st):lv es.length (vH es st) (wH es) (rH es) (ym ops):=by
 refine ⟨fun i hi k=>?_,fun i j hij hj hn k=>?_⟩
 ·have he:es[i]?=some es[i]:=List.getElem?_eq_getElem hi
  simp only [vH,wH,he,mJ he,E.go,im]
  cases jv es[i].t.up k<;>rfl
 ·have h1:es[i]?=some es[i]:=List.getElem?_eq_getElem (by omega)
  have h2:es[j]?=some es[j]:=List.getElem?_eq_getElem hj
  have hf:=K.free i j _ _ hij h1 h2 hn
  simp only [oN,Bool.and_eq_true,iU] at hf
  obtain ⟨⟨⟨⟨⟨⟨⟨⟨⟨f1,f2⟩,f3⟩,f4⟩,f5⟩,f6⟩,f7⟩,f8⟩,f9⟩,f10⟩:=hf
  have dst:∀i (hi:i<es.length),wH es i k≠none→k∈names es[i].t.up:=fun i hi h=>by
   have he:es[i]?=some es[i]:=List.getElem?_eq_getElem hi
   simp only [wH,he] at h
   cases hl:jv es[i].t.up k with
   |none=>exact absurd hl h
   |some x=>exact List.mem_map.2 ⟨_,jY hl,rfl⟩
  refine ⟨fun h=>⟨?_,?_⟩,fun h=>?_⟩
  ·rintro ⟨e,he,ht⟩
   rw [h2] at he;cases he
   exact f5 k (dst i (by omega) h) ht
  ·cases hw:wH es j k with
   |none=>rfl
   |some x=>exact absurd (dst j hj (by rw [hw];simp)) (f4 k (dst i (by omega) h))
  ·rintro ⟨e,he,ht⟩
   rw [h1] at he;cases he
   exact f6 k (dst j hj h) ht
theorem mj {i:Nat} {e:E} (h:es[i]?=some e):nmAt es st (i+1)=nmAt es st i+e.t.nw:=by
 simp only [nmAt,mJ h,E.go]
theorem ml : ∀ {i j : Nat},i ≤ j → nmAt es st i ≤ nmAt es st j
  |i,0,h=>by cases Nat.le_zero.1 h;exact Nat.le_refl _
  | i,j + 1,h => by
    by_cases e:i=j+1
    · subst e;exact Nat.le_refl _
    · refine Nat.le_trans (ml (i:=i) (j:=j) (by omega)) ?_
      cases hj:es[j]? with
      |some x=>rw [mj hj];omega
      |none=>
        have:=List.getElem?_eq_none_iff.1 hj
        simp only [nmAt]
        rw [List.take_of_length_le (by omega),List.take_of_length_le (by omega)]
        exact Nat.le_refl _
theorem vx : ∀ {i : Nat} {m : Nat},m < nmAt es st i → m < st.nx ∨ ∃ j e,j < i ∧ es[j]? = some e ∧ nmAt es st j ≤ m ∧ m < nmAt es st j + e.t.nw
  |0,m,h=>by simp [nmAt,goAll] at h;exact .inl h
  | i + 1,m,h => by
    by_cases hm:m<nmAt es st i
    · rcases vx hm with h|⟨j,e,h1,h2⟩
      · exact .inl h
      · exact .inr ⟨j,e,by omega,h2⟩
    · cases hi:es[i]? with
      |some e=>
        rw [mj hi] at h
        exact .inr ⟨i,e,by omega,hi,by omega,h⟩
      |none=>
        have:=List.getElem?_eq_none_iff.1 hi
        simp only [nmAt] at h hm
        rw [List.take_of_length_le (by omega)] at h hm
        omega
def Use (es:List E) (st:St) (ls:Nat→Prop) (m:Nat):Prop:=m<st.nx∨∃j e,ls j∧es[j]?=some e∧nmAt es st j≤m∧m<nmAt es st j+e.t.nw
structure Inv (ops:Array Oper) (es:List E) (st:St) (D W:List Nat) (ρ0:Nat→Value) (ok0:Nat→Prop) (w0:World) (a0:Act) (listed:Array Bool) (env:Env) (hp:cT) (ρ:Nat→Value) (ok:Nat→Prop) (w:World) (a:Act):Prop where
 size:listed.size=es.length
 closed:∀j o,listed.getD j false=true→ops[j]?=some o→∀e∈o.after,Region.binds .any e=true→listed.getD e.on false=true
 seenE:uk es.length (vE es st) (wE es) (rE ops es) (fun j=>listed.getD j false=true) env
 seenH:uk es.length (vH es st) (wH es) (rH es) (fun j=>listed.getD j false=true) hp
 H:ew ρ ok w hp (nmAt es st es.length)
 envR:eH ρ ok w (nmAt es st es.length) env a.tmps
 useH:∀l o,hp l=some o→Use es st (fun j=>listed.getD j false=true) l∧∀m∈iJ (some o),Use es st (fun j=>listed.getD j false=true) m
 useE:∀t,∀m∈gW (env t),Use es st (fun j=>listed.getD j false=true) m
 G:gV ρ0 ok0 w0 st.hp st.nx D ρ ok w hp (nmAt es st es.length)
 T:Tm W a0 a
theorem Ok.down (K:Ok P ops es st) {listed:Array Bool} (hc:∀j o,listed.getD j false=true→ops[j]?=some o→∀e∈o.after,Region.binds .any e=true→listed.getD e.on false=true) (hsz:listed.size=es.length):
 ∀(j:Nat),listed.getD j false=true→∀i,ym ops i j→listed.getD i false=true:=by
 have hlen:ops.size=es.length:=by rw [←Array.length_toList,←K.all,List.length_map]
 intro j
 induction j using Nat.strongRecOn with
 |ind j ih=>
  intro hj i ho
  have hlt:j<ops.size:=by
   rw [hlen,←hsz]
   rcases Nat.lt_or_ge j listed.size with h|h
   ·exact h
   ·simp [Array.getElem?_eq_none h] at hj
  have hop:ops[j]?=some ops[j]:=Array.getElem?_eq_getElem hlt
  obtain ⟨e,h1,h2,h3⟩:=vv hop ho
  have h4:=hc j _ hj hop e h1 h2
  rcases h3 with rfl|⟨h5,h6⟩
  ·exact h4
  ·exact ih e.on h5 h4 i h6
section
variable {D W:List Nat} {ρ0:Nat→Value} {ok0:Nat→Prop} {w0:World} {a0:Act} {listed:Array Bool} {env:Env} {hp:cT} {ρ:Nat→Value} {ok:Nat→Prop} {w:World} {a:Act}
theorem Inv.before (K:Ok P ops es st) (I:Inv ops es st D W ρ0 ok0 w0 a0 listed env hp ρ ok w a) {i:Nat} (hr:i∈Region.ready .any ops listed):∀j,ym ops j i→listed.getD j false=true:=by
 intro j ho
 obtain ⟨_,o,hop,hall⟩:=mem_ready.1 hr
 obtain ⟨e,h1,h2,h3⟩:=vv hop ho
 have h4:=hall e h1 h2
 rcases h3 with rfl|⟨_,h6⟩
 ·exact h4
 ·exact K.down I.closed I.size _ h4 j h6
theorem yn (l:Array Bool) (i j:Nat) (hi:i<l.size):(l.setIfInBounds i true).getD j false=true↔(l.getD j false=true∨j=i):=by
 by_cases h:i=j
 ·subst h;simp [hi]
 ·rw [getD_set_ne false h];exact ⟨.inl,fun hx=>hx.elim id fun e=>absurd e.symm h⟩
theorem Inv.next (K : Ok P ops es st) (hD : ∀ e ∈ es,∀ l ∈ names e.t.up,l ∈ D) (hW : ∀ e ∈ es,∀ t ∈ gX e.o,t ∈ W ∧ t < a0.tmps.size) (I : Inv ops es st D W ρ0 ok0 w0 a0 listed env hp ρ ok w a)
    {i:Nat} {e:Lv.E} (he:es[i]?=some e) (hr:i∈Region.ready .any ops listed) {hpL:cT} (hs:∀l o,hpL l=some o→hp l=some o) (hL:ew ρ ok w hpL (nmAt es st i)) {ρ':Nat→Value} {ok':Nat→Prop} {w':World}
    (F:Eff ρ ok w hpL (nmAt es st i) e.t.up e.t.nw ρ' ok' w') {v:Value} (hv:∀x,e.s=some x→ij ρ' ok' w' (nmAt es st i+e.t.nw) x v):
    ∃ρ2,Inv ops es st D W ρ0 ok0 w0 a0 (listed.setIfInBounds i true) (gj env e.o.dst e.s) (ups hp e.t.up) ρ2 ok' w' (a.put e.o.dst v):=by
  have hi:i<es.length:=(List.getElem?_eq_some_iff.1 he).1
  have hem:e∈es:=List.mem_of_getElem? he
  obtain ⟨hun,o,hop,hall⟩:=mem_ready.1 hr
  have hunl:¬listed.getD i false=true:=by
    have:i<listed.size:=by rw [I.size];exact hi
    simp [Array.getD,this] at hun ⊢;exact hun
  have hbef:=I.before K hr
  have hset:=yn listed i (hi:=by rw [I.size];exact hi)
  have hn1:nmAt es st i+e.t.nw≤nmAt es st es.length:=by rw [←mj he];exact ml hi
  have hn0:st.nx≤nmAt es st i:=ml (es:=es) (st:=st) (i:=0) (Nat.zero_le i)
  -- what is in use is not new
  have old:∀m,Use es st (fun j=>listed.getD j false=true) m→m<nmAt es st i∨nmAt es st i+e.t.nw≤m:=by
    rintro m (h|⟨j,x,h1,h2,h3,h4⟩)
    · exact .inl (by omega)
    · rcases Nat.lt_trichotomy j i with hlt|heq|hgt
      · have:=ml (es:=es) (st:=st) (i:=j+1) (j:=i) hlt
        rw [mj h2] at this
        exact .inl (by omega)
      · exact absurd (heq▸h1) hunl
      · have:=ml (es:=es) (st:=st) (i:=i+1) (j:=j) hgt
        rw [mj he] at this
        exact .inr (by omega)
  have more:∀m,Use es st (fun j=>listed.getD j false=true) m→Use es st (fun j=>(listed.setIfInBounds i true).getD j false=true) m:=fun m h=>h.imp id fun ⟨j,x,h1,h2⟩=>⟨j,x,(hset j).2 (.inl h1),h2⟩
  have hc:=K.cond i e he
  have hnm:e.t.nm=nmAt es st i:=hc.nm
  -- what the operation made
  have made:∀m,m<nmAt es st i+e.t.nw→m∈e.t.says→Use es st (fun j=>(listed.setIfInBounds i true).getD j false=true) m:=by
    intro m hm hsay
    rw [←mj he] at hm
    rcases vx hm with h|⟨j,x,h1,h2,h3,h4⟩
    · exact .inl h
    · refine .inr ⟨j,x,(hset j).2 ?_,h2,h3,h4⟩
      by_cases hji:j=i
      · exact .inr hji
      · left
        cases hl:listed.getD j false with
        |true=>rfl
        |false=>
          exfalso
          have hf:=K.free j i x e (by omega) h2 he fun ho=>by rw [hbef j ho] at hl;cases hl
          simp only [oN,Bool.and_eq_true,iU] at hf
          have hxn:x.t.nm=nmAt es st j:=(K.cond j x h2).nm
          refine hf.1.1.1.2 m (List.mem_map.2 ⟨m-x.t.nm,?_,?_⟩) hsay
          · rw [List.mem_range];omega
          · omega
  refine ⟨kx ρ ρ' (nmAt es st i) e.t.nw,?_,?_,?_,?_,?_,?_,?_,?_,?_,?_⟩
  · rw [Array.size_setIfInBounds];exact I.size
  · intro j o' hj ho' ed hed hb
    rw [hset] at hj
    refine (hset _).2 (.inl ?_)
    rcases hj with hj|rfl
    · exact I.closed j o' hj ho' ed hed hb
    · rw [hop] at ho';cases ho'
      exact hall ed hed hb
  · have:=K.canonE.next I.seenE hi hunl hbef (fun j hj hl m hm=>K.down I.closed I.size j hl m hm) (cur':=gj env e.o.dst e.s) fun key=>by
      rw [nQ];simp only [wE,he]
    intro k hk key hkr hnw
    exact this k (hk.imp id fun ⟨a,b⟩=>⟨a,fun h=>b ((hset k).2 h)⟩) key hkr fun j hj hjn=>hnw j hj fun h=>hjn ((hset j).1 h)
  · have:=K.canonH.next I.seenH hi hunl hbef (fun j hj hl m hm=>K.down I.closed I.size j hl m hm) (cur':=ups hp e.t.up) fun key=>by
      rw [im];simp only [wH,he];cases jv e.t.up key<;>rfl
    intro k hk key hkr hnw
    exact this k (hk.imp id fun ⟨a,b⟩=>⟨a,fun h=>b ((hset k).2 h)⟩) key hkr fun j hj hjn=>hnw j hj fun h=>hjn ((hset j).1 h)
  · exact wP I.H hs hL F hn1 fun l o ho=>⟨old l (I.useH l o ho).1,fun m hm=>old m ((I.useH l o ho).2 m hm)⟩
  · have hE:eH (kx ρ ρ' (nmAt es st i) e.t.nw) ok' w' (nmAt es st es.length) env a.tmps:=by
      intro t s hts
      obtain ⟨u,h1,h2⟩:=I.envR t s hts
      refine ⟨u,h1,h2.moveM (F.2.sameOk hL) fun m hm=>⟨?_,h2.names m hm⟩⟩
      have:=old m (I.useE t m (by rw [hts];exact hm))
      unfold kx
      rw [if_neg (by omega)]
    refine kw hE (fun x hx=>(hv x hx).move (gU.refl _ _) (fun l hl=>?_) hn1) fun t ht=>?_
    · unfold kx
      by_cases h:nmAt es st i≤l
      · rw [if_pos ⟨h,hl⟩]
      · rw [if_neg (by omega)];exact (F.2.rho l (by omega)).symm
    · rw [I.T.size];exact (hW e hem t (by simp [gX,ht])).2
  · intro l o' h
    rw [im] at h
    cases hl:jv e.t.up l with
    |none=>
      rw [hl] at h
      obtain ⟨h1,h2⟩:=I.useH l o' h
      exact ⟨more l h1,fun m hm=>more m (h2 m hm)⟩
    |some x=>
      rw [hl] at h
      have h:x=some o':=h
      subst h
      have hL':ups hpL e.t.up l=some o':=by rw [im,hl]
      obtain ⟨k1,k2⟩:=F.1.ob l o' hL'
      refine ⟨?_,fun m hm=>made m (k2.names m hm) (hc.says m (.inr (og (jY hl) hm)))⟩
      by_cases hlt:l<nmAt es st i
      · obtain ⟨p,g1,_⟩:=F.2.stay l hlt o' hL'
        exact more l (I.useH l p (hs l p g1)).1
      · exact .inr ⟨i,e,(hset i).2 (.inr rfl),he,by omega,k1⟩
  · intro t m hm
    rw [nQ] at hm
    by_cases hd:e.o.dst=some t
    · rw [if_pos hd,Option.getD_some] at hm
      cases hes:e.s with
      |none=>rw [hes] at hm;cases hm
      |some x=>
        refine made m ((hv x hes).names m (by rw [←hes];exact hm)) (hc.says m (.inl hm))
    · rw [if_neg hd,Option.getD_none] at hm
      exact more m (I.useE t m hm)
  · exact wQ I.G I.H hs F hn0 (hD e hem) fun l o ho=>old l (I.useH l o ho).1
  · exact I.T.trans (Tm.put a e.o v) (fun _ h=>h) fun t ht=>(hW e hem t ht).1
end
end
end Lv
end
