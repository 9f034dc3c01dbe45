import Derived.Lib.AtoiAll
import Derived.Lib.ItoaNum
import Derived.Lib.Replace
import Derived.Lib.Join
import Derived.Test.YtleadolkcmagfaaGreatDoorDB
import Derived.Test.YtleadolkcmagfaaGreatDoorM3
import Derived.Lib.ItoaLen
set_option linter.all false
set_option linter.unusedVariables false
set_option linter.unusedSimpArgs false
set_option linter.unusedSectionVars false
section
namespace Dl
open Go
abbrev Val:=Int×(Int×ByteArray)
abbrev Tok:=Int×(ByteArray×Val)
abbrev bs (l:List UInt8):ByteArray:=⟨l.toArray⟩
abbrev e0:ByteArray:=(⟨#[]⟩:ByteArray)
def fp (c:UInt8):Bool:=decide (97≤c.toNat)&&decide (c.toNat≤122)
def digit (c:UInt8):Bool:=decide (48≤c.toNat)&&decide (c.toNat≤57)
def cG (c:UInt8):Bool:=fp c||digit c||decide (c=95)
def fB:List UInt8:=([40,41,91,93,44,61,60,43,45,42,63]:List UInt8)
def gC (w:List UInt8):Bool:=match w with
 | []=>false
 |c::_=>fp c&&w.all cG&&decide (w.length≤30)
def pY (w:List UInt8):Option Int:=match Lib.atoiAll w with
 | .ok v=>if Lib.itoa v=w then some v else none
 |_=>none
def gH : List UInt8 → Option (List UInt8 × List UInt8)
  | []=>none
  | c :: r => if c = 39 then (match r with
      | []=>some ([],[])
      |d::r'=>if d=39 then (gH r').map fun x=>(39::x.1,x.2) else some ([],d::r'))
    else (gH r).map fun x=>(c::x.1,x.2)
def gD:List UInt8→Bool
 | []=>false
 |d::_=>digit d
def wordT (w:List UInt8):Tok:=(0,(bs w,(0,(0,e0))))
def signT (c:UInt8):Tok:=(2,(bs [c],(0,(0,e0))))
def numT (n:Int):Tok:=(1,(e0,(2,(n,e0))))
def textT (w:List UInt8):Tok:=(1,(e0,(3,(0,bs w))))
def jc : List UInt8 → Option (Tok × List UInt8)
  | []=>none
  |c::r=>
    if fp c then (if (c::r.takeWhile cG).length≤30 then some (wordT (c::r.takeWhile cG),r.dropWhile cG) else none)
    else if digit c||(decide (c=45)&&gD r) then (pY (c::r.takeWhile digit)).map fun n=>(numT n,r.dropWhile digit)
    else if c=39 then (gH r).bind fun x=>if x.1.length≤1000 then some (textT x.1,x.2) else none
    else if c∈fB then some (signT c,r) else none
def ym:Nat→List UInt8→Option (List Tok)
 |_,[]=>some []
 |0,_::_=>none
 |n+1,c::r=>if c=32 then ym n r else (jc (c::r)).bind fun x=>(ym n x.2).map (x.1:: ·)
def jC (l:List UInt8):Option (List Tok):=ym l.length l
theorem gt (c:UInt8) (r:List UInt8):gH (c::r)=if c=39 then (match r with
 | []=>some ([],[])
 |d::r'=>if d=39 then (gH r').map fun x=>(39::x.1,x.2) else some ([],d::r'))
 else (gH r).map fun x=>(c::x.1,x.2):=by rw [gH.eq_def]
theorem jJ {p:UInt8→Bool} (l:List UInt8):(l.dropWhile p).length≤l.length:=by
 induction l with
 |nil=>simp
 |cons a l ih=>simp only [List.dropWhile];split<;>simp<;>omega
theorem FP : ∀ (n : Nat) (l : List UInt8),l.length ≤ n → ∀ x,gH l = some x → x.2.length < l.length ∧ x.1.length + x.2.length < l.length + 0 := by
  intro n
  induction n with
  |zero=>intro l hl x h;cases l<;>simp [gH] at h hl
  |succ n ih=>
    intro l hl x h
    match l,hl,h with
    | c :: r,hl,h =>
      rw [gt] at h
      split at h
      · match r,hl,h with
        | [],hl,h=>cases h;simp
        | d :: r',hl,h =>
          simp only at h
          split at h
          · simp only [Option.map_eq_some_iff] at h
            obtain ⟨y,hy,rfl⟩:=h
            have:=ih r' (by simp at hl;omega) y hy
            simp;omega
          · cases h;simp
      · simp only [Option.map_eq_some_iff] at h
        obtain ⟨y,hy,rfl⟩:=h
        have:=ih r (by simp at hl;omega) y hy
        simp;omega
theorem xj {l : List UInt8} {x : Tok × List UInt8} (h : jc l = some x) : x.2.length < l.length := by
  cases l with
  |nil=>cases h
  |cons c r=>
    simp only [jc] at h
    split at h
    · split at h
      · cases h;have:=jJ (p:=cG) r;simp;omega
      · cases h
    · split at h
      · simp only [Option.map_eq_some_iff] at h
        obtain ⟨y,hy,rfl⟩:=h
        have:=jJ (p:=digit) r;simp;omega
      · split at h
        · simp only [Option.bind_eq_some_iff] at h
          obtain ⟨y,hy,h⟩:=h
          split at h
          · cases h;have:=(FP _ r (Nat.le_refl _) y hy).1;simp;omega
          · cases h
        · split at h
          · cases h;simp
          · cases h
theorem FQ : ∀ (n m : Nat) (l : List UInt8),l.length ≤ n → l.length ≤ m → ym n l = ym m l := by
  intro n
  induction n with
  |zero=>
    intro m l h1 h2
    cases l with
    |nil=>cases m<;>rfl
    |cons c r=>simp at h1
  |succ n ih=>
    intro m l h1 h2
    cases l with
    |nil=>cases m<;>rfl
    |cons c r=>
      cases m with
      |zero=>simp at h2
      |succ m=>
        simp only [ym]
        split
        · exact ih m r (by simp at h1;omega) (by simp at h2;omega)
        · cases h:jc (c::r) with
          |none=>rfl
          |some x=>
            have:=xj h
            simp only [Option.bind_some]
            rw [ih m x.2 (by simp at h1 this;omega) (by simp at h2 this;omega)]
theorem xk:jC []=some []:=rfl
theorem oi (r:List UInt8):jC (32::r)=jC r:=by
 show ym (r.length+1) (32::r)=_
 simp [ym,jC]
theorem nz {c:UInt8} (r:List UInt8) (hc:c≠32):jC (c::r)=(jc (c::r)).bind fun x=>(jC x.2).map (x.1:: ·):=by
 show ym (r.length+1) (c::r)=_
 simp only [ym,if_neg hc]
 cases h:jc (c::r) with
 |none=>rfl
 |some x=>
  have:=xj h
  simp only [Option.bind_some,jC]
  rw [FQ r.length x.2.length x.2 (by simp at this;omega) (Nat.le_refl _)]
theorem u0:cG 32=false:=by decide
theorem oP:digit 32=false:=by decide
def dbl:List UInt8→List UInt8
 | []=> []
 |c::r=>if c=39 then 39::39::dbl r else c::dbl r
def eR (t:Tok):List UInt8:=if t.1=1 then (if t.2.2.1=2 then Lib.itoa t.2.2.2.1 else 39::dbl t.2.2.2.2.data.toList++ [39]) else t.2.1.data.toList
inductive ja:Tok→Prop
 |word {w:List UInt8}:gC w=true→ja (wordT w)
 |sign {c:UInt8}:c∈fB→ja (signT c)
 |num {n:Int}:pY (Lib.itoa n)=some n→(∃c r,Lib.itoa n=c::r∧(digit c=true∨(c=45∧∃d r',r=d::r'∧digit d=true))∧∀x∈r,digit x=true)→ja (numT n)
 |text {w:List UInt8}:w.length≤1000→ja (textT w)
theorem xl (w:List UInt8):eR (textT w)=39::dbl w++ [39]:=rfl
theorem rc {p:UInt8→Bool} (l:List UInt8):∀x∈l.takeWhile p,p x=true:=by
 induction l with
 |nil=>simp
 |cons a l ih=>simp only [List.takeWhile];split<;>simp_all
theorem jm {p:UInt8→Bool} (l:List UInt8):(l.takeWhile p).length+(l.dropWhile p).length=l.length:=by
 have h:=congrArg List.length (List.takeWhile_append_dropWhile (p:=p) (l:=l))
 rw [List.length_append] at h
 exact h
theorem FR {w:List UInt8} {n:Int} (h:pY w=some n):Lib.itoa n=w:=by
 unfold pY at h
 cases h1:Lib.atoiAll w with
 |ok v=>rw [h1] at h;simp only at h;split at h<;>rename_i h2<;>cases h;exact h2
 |_=>rw [h1] at h;cases h
theorem tF : ∀ (n : Nat) (l : List UInt8),l.length ≤ n → ∀ x,gH l = some x → l = dbl x.1 ++ 39 :: x.2 ∧ x.2.head? ≠ some 39 := by
  intro n
  induction n with
  |zero=>intro l hl x h;cases l<;>simp [gH] at h hl
  |succ n ih=>
    intro l hl x h
    match l,hl,h with
    | c :: r,hl,h =>
      rw [gt] at h
      split at h
      · rename_i hc
        subst hc
        match r,hl,h with
        | [],hl,h=>cases h;simp [dbl]
        | d :: r',hl,h =>
          simp only at h
          split at h
          · rename_i hd
            subst hd
            simp only [Option.map_eq_some_iff] at h
            obtain ⟨y,hy,rfl⟩:=h
            have:=ih r' (by simp at hl;omega) y hy
            simp only [dbl,if_true]
            rw [this.1]
            exact ⟨by simp,this.2⟩
          · rename_i hd
            cases h;simp [dbl,hd]
      · rename_i hc
        simp only [Option.map_eq_some_iff] at h
        obtain ⟨y,hy,rfl⟩:=h
        have:=ih r (by simp at hl;omega) y hy
        simp only [dbl,if_neg hc]
        rw [this.1]
        exact ⟨by simp,this.2⟩
theorem FS (w rest:List UInt8) (hr:rest.head?≠some 39):gH (dbl w++39::rest)=some (w,rest):=by
 induction w with
 |nil=>
  simp only [dbl,List.nil_append,gt,if_true]
  cases rest with
  |nil=>rfl
  |cons d r=>simp at hr;simp [hr]
 |cons c r ih=>
  simp only [dbl]
  split
  ·rename_i hc
   subst hc
   simp only [List.cons_append,gt,if_true,ih,Option.map_some]
  ·rename_i hc
   simp only [List.cons_append,gt,if_neg hc,ih,Option.map_some]
theorem Ji {l : List UInt8} {x : Tok × List UInt8} (h : jc l = some x) : ja x.1 ∧ l = eR x.1 ++ x.2 := by
  cases l with
  |nil=>cases h
  |cons c r=>
    simp only [jc] at h
    split at h
    · rename_i hc
      split at h
      · rename_i hl
        cases h
        refine ⟨.word ?_,?_⟩
        · simp only [gC,hc,Bool.true_and,Bool.and_eq_true,List.all_eq_true,decide_eq_true_eq]
          refine ⟨fun y hy=>?_,hl⟩
          rcases List.mem_cons.1 hy with rfl|hy
          · simp [cG,hc]
          · exact rc _ _ hy
        · simp [eR,wordT,List.takeWhile_append_dropWhile]
      · cases h
    · split at h
      · rename_i hd
        simp only [Option.map_eq_some_iff] at h
        obtain ⟨y,hy,rfl⟩:=h
        have e:=FR hy
        refine ⟨.num (by rw [e];exact hy) ⟨c,r.takeWhile digit,e,?_,rc _⟩,?_⟩
        · rw [Bool.or_eq_true] at hd
          rcases hd with hd|hd
          · exact .inl hd
          · rw [Bool.and_eq_true] at hd
            refine .inr ⟨by simpa using hd.1,?_⟩
            cases r with
            |nil=>simp [gD] at hd
            |cons d r'=>exact ⟨d,r'.takeWhile digit,by simp [List.takeWhile,show digit d=true from hd.2],hd.2⟩
        · simp only [eR,numT,if_true]
          rw [e,List.cons_append,List.takeWhile_append_dropWhile]
      · split at h
        · rename_i hc
          subst hc
          simp only [Option.bind_eq_some_iff] at h
          obtain ⟨y,hy,h⟩:=h
          split at h
          · rename_i hl
            cases h
            refine ⟨.text hl,?_⟩
            have:=(tF _ r (Nat.le_refl _) y hy).1
            simp only [xl]
            rw [this]
            simp
          · cases h
        · split at h
          · rename_i hs
            cases h
            exact ⟨.sign hs,by simp [eR,signT]⟩
          · cases h
theorem FT {t:Tok} (h:ja t) {rest:List UInt8} (hr:rest=[]∨∃r,rest=32::r):jc (eR t++rest)=some (t,rest):=by
 have tw:∀(p:UInt8→Bool),p 32=false→∀(w:List UInt8),(∀x∈w,p x=true)→(w++rest).takeWhile p=w∧(w++rest).dropWhile p=rest:=by
  intro p hp w hw
  induction w with
  |nil=>rcases hr with rfl|⟨r,rfl⟩<;>simp [List.takeWhile,List.dropWhile,hp]
  |cons a w ih=>
   have:=ih (fun x hx=>hw x (by simp [hx]))
   simp [List.takeWhile,List.dropWhile,hw a (by simp),this]
 cases h with
 |@word w hw=>
  cases w with
  |nil=>cases hw
  |cons c w=>
   simp only [gC,Bool.and_eq_true,List.all_eq_true,decide_eq_true_eq] at hw
   obtain ⟨⟨h1,h2⟩,h3⟩:=hw
   obtain ⟨t1,t2⟩:=tw cG u0 w (fun x hx=>h2 x (by simp [hx]))
   show jc ((c::w)++rest)=_
   simp only [List.cons_append,jc,h1,if_true,t1,t2,h3]
 |@sign c hc=>
  show jc ([c]++rest)=_
  have hm:fp c=false∧digit c=false∧c≠39:=by
   simp only [fB,List.mem_cons,List.not_mem_nil,or_false] at hc
   rcases hc with rfl|rfl|rfl|rfl|rfl|rfl|rfl|rfl|rfl|rfl|rfl<;>decide
  have hd:gD rest=false:=by rcases hr with rfl|⟨r,rfl⟩<;>simp [gD,oP]
  simp only [List.cons_append,List.nil_append,jc,hm.1,hm.2.1,Bool.false_eq_true,if_false,hd,Bool.and_false,Bool.or_self,if_neg hm.2.2,if_pos hc]
 |@num n hn hs=>
  obtain ⟨c,r,e,h1,h2⟩:=hs
  show jc (eR (numT n)++rest)=_
  simp only [eR,numT,if_true]
  rw [e,List.cons_append]
  obtain ⟨t1,t2⟩:=tw digit oP r h2
  have hl:fp c=false:=by
   rcases h1 with h1|⟨rfl,_⟩
   ·simp only [digit,fp,Bool.and_eq_true,decide_eq_true_eq,Bool.and_eq_false_iff,decide_eq_false_iff_not] at h1 ⊢;omega
   ·decide
  have hb:(digit c||(decide (c=45)&&gD (r++rest)))=true:=by
   rcases h1 with h1|⟨rfl,d,r',rfl,hd⟩
   ·simp [h1]
   ·simp [gD,hd]
  simp only [jc,hl,Bool.false_eq_true,if_false,hb,if_true,t1,t2]
  rw [←e,hn]
  rfl
 |@text w hw=>
  show jc (eR (textT w)++rest)=_
  rw [xl]
  have:fp 39=false∧digit 39=false:=by decide
  simp only [List.cons_append,List.append_assoc,List.nil_append,jc,this.1,this.2,Bool.false_eq_true,if_false,Bool.false_or]
  rw [if_neg (by rw [show decide ((39:UInt8)=45)=false by decide];simp),if_pos trivial,FS w rest (by rcases hr with rfl|⟨r,rfl⟩<;>simp)]
  simp [hw,textT]
theorem Cl {t:Tok} (h:ja t):∃c r,eR t=c::r∧c≠32:=by
 cases h with
 |@word w hw=>
  cases w with
  |nil=>cases hw
  |cons c w=>
   refine ⟨c,w,rfl,fun e=>?_⟩
   subst e
   simp [gC,fp] at hw
 |@sign c hc=>exact ⟨c,[],rfl,fun e=>by subst e;revert hc;decide⟩
 |@num n hn hs=>
  obtain ⟨c,r,e,h1,h2⟩:=hs
  refine ⟨c,r,by simp [eR,numT,e],fun e=>?_⟩
  subst e
  rcases h1 with h1|⟨h1,_⟩
  ·simp [digit] at h1
  ·revert h1;decide
 |@text w hw=>exact ⟨39,_,rfl,by decide⟩
def fC:List (List UInt8)→List UInt8
 | []=> []
 | [w]=>w
 |w::r=>w++32::fC r
theorem gQ (w:List UInt8) {r:List (List UInt8)} (h:r≠ []):fC (w::r)=w++32::fC r:=by
 cases r with
 |nil=>exact absurd rfl h
 |cons a r=>rfl
theorem FU:∀(l:List Tok),(∀t∈l,ja t)→jC (fC (l.map eR))=some l:=by
 intro l
 induction l with
 |nil=>intro _;rfl
 |cons t l ih=>
  intro h
  have ht:=h t (by simp)
  obtain ⟨c,r,e,hc⟩:=Cl ht
  have ih:=ih fun x hx=>h x (by simp [hx])
  have go:∀rest,(rest=[]∨∃r,rest=32::r)→jC (eR t++rest)=(jC rest).map (t:: ·):=by
   intro rest hr
   have h1:=FT ht hr
   rw [e,List.cons_append] at h1 ⊢
   rw [nz _ hc,h1]
   rfl
  cases l with
  |nil=>
   have:=go [] (.inl rfl)
   simpa [fC,xk] using this
  |cons u l=>
   rw [List.map_cons,gQ _ (by simp),go _ (.inr ⟨_,rfl⟩),oi,ih]
   rfl
def xm (x:List Tok):Nat:=(x.map fun t=>(eR t).length+1).sum
theorem AW : ∀ (n : Nat) (l : List UInt8),l.length ≤ n → ∀ x,jC l = some x → (∀ t ∈ x,ja t) ∧ xm x ≤ 2 * l.length := by
  intro n
  induction n with
  |zero=>
    intro l hl x h
    cases l with
    |nil=>cases h;simp [xm]
    |cons c r=>simp at hl
  |succ n ih=>
    intro l hl x h
    cases l with
    |nil=>cases h;simp [xm]
    |cons c r=>
      by_cases hc:c=32
      · subst hc
        rw [oi] at h
        have:=ih r (by simp at hl;omega) x h
        refine ⟨this.1,?_⟩
        simp only [List.length_cons]
        omega
      · rw [nz _ hc] at h
        simp only [Option.bind_eq_some_iff,Option.map_eq_some_iff] at h
        obtain ⟨y,hy,z,hz,rfl⟩:=h
        obtain ⟨h1,h2⟩:=Ji hy
        have h3:=xj hy
        obtain ⟨h4,h5⟩:=ih y.2 (by simp at hl h3;omega) z hz
        refine ⟨fun t ht=>by rcases List.mem_cons.1 ht with rfl|ht;exact h1;exact h4 t ht,?_⟩
        obtain ⟨d,q,e,_⟩:=Cl h1
        have hp:1≤(eR y.1).length:=by rw [e];simp
        have hlen:(c::r).length=(eR y.1).length+y.2.length:=by rw [h2,List.length_append]
        simp only [xm,List.map_cons,List.sum_cons] at h5 ⊢
        omega
theorem FV:∀l:List Tok,(fC (l.map eR)).length≤xm l:=by
 intro l
 induction l with
 |nil=>simp [fC]
 |cons t l ih=>
  cases l with
  |nil=>simp [fC,xm]
  |cons u l=>
   rw [List.map_cons,gQ _ (by simp)]
   simp only [xm,List.map_cons,List.sum_cons,List.length_append,List.length_cons] at ih ⊢
   omega
end Dl
end
section
namespace Dl
open Go
abbrev oT:=Int×(Int×Val)
abbrev Agg:=Int×Int
abbrev Col:=ByteArray×(Int×(Bool×(Bool×(ByteArray×Int))))
abbrev Tab:=ByteArray×(List Col×List (List oT))
abbrev mJ:=ByteArray×(ByteArray×(ByteArray×(Agg×(List oT×(List Int×(Bool×List Agg))))))
abbrev Def:=Int×(Tab×mJ)
abbrev v0:Val:=(0,(0,e0))
abbrev tab0:Tab:=(e0,([],[]))
abbrev xn:mJ:=(e0,(e0,(e0,((0,0),([],([],(false,[])))))))
abbrev kc:List ByteArray:=[(⟨#[116,97,98,108,101]⟩:ByteArray),(⟨#[99,104,101,99,107]⟩:ByteArray),(⟨#[118,105,101,119]⟩:ByteArray),(⟨#[102,114,111,109]⟩:ByteArray),(⟨#[106,111,105,110]⟩:ByteArray),(⟨#[111,110]⟩:ByteArray),(⟨#[119,104,101,114,101]⟩:ByteArray),(⟨#[112,105,99,107]⟩:ByteArray),(⟨#[103,114,111,117,112]⟩:ByteArray),(⟨#[98,111,111,108]⟩:ByteArray),(⟨#[105,110,116]⟩:ByteArray),(⟨#[116,101,120,116]⟩:ByteArray),(⟨#[110,117,108,108]⟩:ByteArray),(⟨#[117,110,105,113,117,101]⟩:ByteArray),(⟨#[114,101,102]⟩:ByteArray),(⟨#[114,101,115,116,114,105,99,116]⟩:ByteArray),(⟨#[99,97,115,99,97,100,101]⟩:ByteArray),(⟨#[115,101,116,110,117,108,108]⟩:ByteArray),(⟨#[99,111,117,110,116]⟩:ByteArray),(⟨#[115,117,109]⟩:ByteArray),(⟨#[109,105,110]⟩:ByteArray),(⟨#[109,97,120]⟩:ByteArray),(⟨#[116,114,117,101]⟩:ByteArray),(⟨#[102,97,108,115,101]⟩:ByteArray),(⟨#[97,110,100]⟩:ByteArray),(⟨#[111,114]⟩:ByteArray),(⟨#[110,111,116]⟩:ByteArray)]
def jD (b:ByteArray):Bool:=gC b.data.toList
def isName (b:ByteArray):Bool:=jD b&& !kc.any fun k=>decide (k=b)
def tk (s:ByteArray):List Tok→Option (List Tok)
 | []=>none
 |t::r=>if t.1≠1∧t.2.1=s then some r else none
def tkL:List ByteArray→List Tok→Option (List Tok)
 | [],l=>some l
 |s::ss,l=>(tk s l).bind (tkL ss)
def gI (i : Int) : List ByteArray → List Tok → Option (Int × List Tok)
  | [],_=>none
  |w::ws,l=>match tk w l with
    |some r=>some (i,r)
    |none=>gI (i+1) ws l
def ik:List Tok→Option (ByteArray×List Tok)
 | []=>none
 |t::r=>if t.1=0∧isName t.2.1=true then some (t.2.1,r) else none
def ke:List Tok→Option (Int×List Tok)
 | []=>none
 |t::r=>if t.1=1∧t.2.2.1=2∧0≤t.2.2.2.1∧t.2.2.2.1≤99 then some (t.2.2.2.1,r) else none
def yn (b:ByteArray):Option Int:=
 if b=(⟨#[110,111,116]⟩:ByteArray) then some 9 else if b=(⟨#[111,114]⟩:ByteArray) then some 8 else if b=(⟨#[97,110,100]⟩:ByteArray) then some 7 else if b=(⟨#[60]⟩:ByteArray) then some 6 else if b=(⟨#[61]⟩:ByteArray) then some 5 else if b=(⟨#[42]⟩:ByteArray) then some 4 else if b=(⟨#[45]⟩:ByteArray) then some 3 else if b=(⟨#[43]⟩:ByteArray) then some 2 else none
def jo (b:ByteArray):Option Val:=
 if b=(⟨#[116,114,117,101]⟩:ByteArray) then some (1,(1,e0)) else if b=(⟨#[102,97,108,115,101]⟩:ByteArray) then some (1,(0,e0)) else if b=(⟨#[110,117,108,108]⟩:ByteArray) then some (0,(0,e0)) else none
def tG (l : List UInt8) : Option Int := match l with
  | []=>none
  |c::d=>if c=99 then (match Lib.atoiAll d with
    | .ok n=>if n≤99∧Lib.itoa n=d then some n else none
    |_=>none) else none
def iI (l : List Tok) : Option (oT × List Tok) := match tkL [(⟨#[110,117,108,108]⟩ : ByteArray),(⟨#[63]⟩ : ByteArray)] l with
  |some r=>some ((10,(0,v0)),r)
  |none=>match l with
    | []=>none
    | t :: r => if t.1 = 1 then some ((1,(0,t.2.2)),r) else
      match yn t.2.1 with
      |some op=>some ((op,(0,v0)),r)
      |none=>match jo t.2.1 with
        |some v=>some ((1,(0,v)),r)
        |none=>(tG t.2.1.data.toList).map fun n=>((0,(n,v0)),r)
def iu : Nat → List Tok → Option (List oT × List Tok)
  |n,l=>match tk (⟨#[93]⟩:ByteArray) l with
    |some r=>some ([],r)
    |none=>match n with
      |0=>none
      |n+1=>(iI l).bind fun x=>(iu n x.2).map fun y=>(x.1::y.1,y.2)
def jz (l:List Tok):Option (List oT×List Tok):=(tk (⟨#[91]⟩:ByteArray) l).bind (iu 100)
def iR (s:ByteArray) (l:List Tok):Bool×List Tok:=match tk s l with
 |some r=>(true,r)
 |none=>(false,l)
abbrev kinds:List ByteArray:=[(⟨#[98,111,111,108]⟩:ByteArray),(⟨#[105,110,116]⟩:ByteArray),(⟨#[116,101,120,116]⟩:ByteArray)]
abbrev yo:List ByteArray:=[(⟨#[114,101,115,116,114,105,99,116]⟩:ByteArray),(⟨#[99,97,115,99,97,100,101]⟩:ByteArray),(⟨#[115,101,116,110,117,108,108]⟩:ByteArray)]
abbrev fns:List ByteArray:=[(⟨#[99,111,117,110,116]⟩:ByteArray),(⟨#[115,117,109]⟩:ByteArray),(⟨#[109,105,110]⟩:ByteArray),(⟨#[109,97,120]⟩:ByteArray)]
def Cm (l:List Tok):Option ((ByteArray×Int)×List Tok):=match tk (⟨#[114,101,102]⟩:ByteArray) l with
 |none=>some ((e0,0),l)
 |some r=>(ik r).bind fun x=>(gI 0 yo x.2).map fun y=>((x.1,y.1),y.2)
def gR (l:List Tok):Option (Col×List Tok):=(ik l).bind fun x=>(gI 0 kinds x.2).bind fun y=>
 (Cm (iR (⟨#[117,110,105,113,117,101]⟩:ByteArray) (iR (⟨#[110,117,108,108]⟩:ByteArray) y.2).2).2).map fun z=>((x.1,(1+y.1,((iR (⟨#[110,117,108,108]⟩:ByteArray) y.2).1,((iR (⟨#[117,110,105,113,117,101]⟩:ByteArray) (iR (⟨#[110,117,108,108]⟩:ByteArray) y.2).2).1,z.1)))),z.2)
def lB {α : Type} (p : List Tok → Option (α × List Tok)) : Nat → List Tok → Option (List α × List Tok)
  |n,l=>(p l).bind fun x=>match tk (⟨#[44]⟩:ByteArray) x.2 with
    |none=>some ([x.1],x.2)
    |some r=>match n with
      |0=>none
      |n+1=>(lB p n r).map fun y=>(x.1::y.1,y.2)
def il : Nat → List Tok → Option (List (List oT) × List Tok)
  |n,l=>match tk (⟨#[99,104,101,99,107]⟩:ByteArray) l with
    |none=>some ([],l)
    |some r=>match n with
      |0=>none
      |n+1=>(jz r).bind fun x=>(il n x.2).map fun y=>(x.1::y.1,y.2)
def lm (l:List Tok):Option (Tab×List Tok):=(ik l).bind fun x=>(tk (⟨#[40]⟩:ByteArray) x.2).bind fun l=>(lB gR 39 l).bind fun y=>(tk (⟨#[41]⟩:ByteArray) y.2).bind fun l=>(il 40 l).map fun z=>((x.1,(y.1,z.1)),z.2)
def mK (l:List Tok):Option (Agg×List Tok):=(gI 0 fns l).bind fun x=>if x.1=0 then some ((0,0),x.2) else (ke x.2).map fun y=>((x.1,y.1),y.2)
def mB (l:List Tok):Option ((ByteArray×Agg)×List Tok):=match tk (⟨#[106,111,105,110]⟩:ByteArray) l with
 |none=>some ((e0,(0,0)),l)
 |some r=>(ik r).bind fun x=>(tk (⟨#[111,110]⟩:ByteArray) x.2).bind fun l=>(ke l).bind fun a=>(tk (⟨#[61]⟩:ByteArray) a.2).bind fun l=>(ke l).map fun b=>((x.1,(a.1,b.1)),b.2)
def jE (l:List Tok):Option (List oT×List Tok):=match tk (⟨#[119,104,101,114,101]⟩:ByteArray) l with
 |none=>some ([],l)
 |some r=>jz r
def re (l:List Tok):Option (List Int×List Tok):=if l=[]∨(tk (⟨#[103,114,111,117,112]⟩:ByteArray) l).isSome then some ([],l) else lB ke 39 l
def tH (l:List Tok):Option ((Bool×List Agg)×List Tok):=match tk (⟨#[103,114,111,117,112]⟩:ByteArray) l with
 |none=>some ((false,[]),l)
 |some r=>if r=[] then some ((true,[]),r) else (lB mK 39 r).map fun x=>((true,x.1),x.2)
def nA (l:List Tok):Option (mJ×List Tok):=(ik l).bind fun x=>(tk (⟨#[102,114,111,109]⟩:ByteArray) x.2).bind fun l=>(ik l).bind fun f=>(mB f.2).bind fun j=>(jE j.2).bind fun w=>(tk (⟨#[112,105,99,107]⟩:ByteArray) w.2).bind fun l=>(re l).bind fun p=>(tH p.2).map fun g=>
 ((x.1,(f.1,(j.1.1,(j.1.2,(w.1,(p.1,g.1)))))),g.2)
def Dz (l:List Tok):Option (Def×List Tok):=(gI 0 [(⟨#[116,97,98,108,101]⟩:ByteArray),(⟨#[118,105,101,119]⟩:ByteArray)] l).bind fun x=>
 if x.1=0 then (lm x.2).map fun y=>((0,(y.1,xn)),y.2) else (nA x.2).map fun y=>((x.1,(tab0,y.1)),y.2)
def lq (l:List Tok):Option Def:=(Dz l).bind fun x=>if x.2=[] then some x.1 else none
abbrev FW:Def:=(0,(tab0,xn))
def kf (s : List UInt8) : Def × Int := if 20000 < s.length then (FW,60) else match jC s with
  |none=>(FW,60)
  |some l=>match lq l with
    |none=>(FW,70)
    |some d=>(d,0)
def wd (s:ByteArray):Tok:=(0,(s,v0))
def sg (s:ByteArray):Tok:=(2,(s,v0))
def nB (x:oT):List Tok:=
 if x.1=10 then [wd (⟨#[110,117,108,108]⟩:ByteArray),sg (⟨#[63]⟩:ByteArray)]
 else if x.1=0 then [wd (bs (99::Lib.itoa x.2.1))]
 else if x.1=1 then (if x.2.2=(0,(0,e0)) then [wd (⟨#[110,117,108,108]⟩:ByteArray)] else if x.2.2=(1,(0,e0)) then [wd (⟨#[102,97,108,115,101]⟩:ByteArray)] else if x.2.2=(1,(1,e0)) then [wd (⟨#[116,114,117,101]⟩:ByteArray)] else [(1,(e0,x.2.2))])
 else if x.1=2 then [sg (⟨#[43]⟩:ByteArray)] else if x.1=3 then [sg (⟨#[45]⟩:ByteArray)] else if x.1=4 then [sg (⟨#[42]⟩:ByteArray)] else if x.1=5 then [sg (⟨#[61]⟩:ByteArray)] else if x.1=6 then [sg (⟨#[60]⟩:ByteArray)] else if x.1=7 then [wd (⟨#[97,110,100]⟩:ByteArray)] else if x.1=8 then [wd (⟨#[111,114]⟩:ByteArray)] else [wd (⟨#[110,111,116]⟩:ByteArray)]
def rf (e:List oT):List Tok:=sg (⟨#[91]⟩:ByteArray)::e.flatMap nB++ [sg (⟨#[93]⟩:ByteArray)]
def pZ {α:Type} (f:α→List Tok):List α→List Tok
 | []=> []
 | [x]=>f x
 |x::r=>f x++sg (⟨#[44]⟩:ByteArray)::pZ f r
def qo (c:Col):List Tok:=wd c.1::wd (kinds.getD (c.2.1-1).toNat e0)::((if c.2.2.1 then [wd (⟨#[110,117,108,108]⟩:ByteArray)] else [])++((if c.2.2.2.1 then [wd (⟨#[117,110,105,113,117,101]⟩:ByteArray)] else [])++(if c.2.2.2.2.1=e0 then [] else [wd (⟨#[114,101,102]⟩:ByteArray),wd c.2.2.2.2.1,wd (yo.getD c.2.2.2.2.2.toNat e0)])))
def DD (n:Int):List Tok:=[numT n]
def DE (a:Agg):List Tok:=wd (fns.getD a.1.toNat e0)::(if a.1=0 then [] else DD a.2)
def tI (t:Tab):List Tok:=wd (⟨#[116,97,98,108,101]⟩:ByteArray)::wd t.1::sg (⟨#[40]⟩:ByteArray)::(pZ qo t.2.1++sg (⟨#[41]⟩:ByteArray)::t.2.2.flatMap fun e=>wd (⟨#[99,104,101,99,107]⟩:ByteArray)::rf e)
def xo (v:mJ):List Tok:=wd (⟨#[118,105,101,119]⟩:ByteArray)::wd v.1::wd (⟨#[102,114,111,109]⟩:ByteArray)::wd v.2.1::((if v.2.2.1=e0 then [] else wd (⟨#[106,111,105,110]⟩:ByteArray)::wd v.2.2.1::wd (⟨#[111,110]⟩:ByteArray)::numT v.2.2.2.1.1::sg (⟨#[61]⟩:ByteArray)::[numT v.2.2.2.1.2])++
 ((if v.2.2.2.2.1=[] then [] else wd (⟨#[119,104,101,114,101]⟩:ByteArray)::rf v.2.2.2.2.1)++wd (⟨#[112,105,99,107]⟩:ByteArray)::(pZ DD v.2.2.2.2.2.1++((if v.2.2.2.2.2.2.1 then [wd (⟨#[103,114,111,117,112]⟩:ByteArray)] else [])++pZ DE v.2.2.2.2.2.2.2))))
def HA (d:Def):List Tok:=if d.1=0 then tI d.2.1 else xo d.2.2
abbrev gB (l:List Tok):Prop:=∀t∈l,ja t
def Snd {α:Type} (p:List Tok→Option (α×List Tok)) (f:α→List Tok) (G:α→Prop):Prop:=∀l,gB l→∀x,p l=some x→l=f x.1++x.2∧gB x.2∧G x.1
theorem gB.tail {t:Tok} {l:List Tok} (h:gB (t::l)):gB l:=fun x hx=>h x (List.mem_cons_of_mem _ hx)
def isW (s:ByteArray):Bool:=match s.data.toList with
 | []=>false
 |c::_=>fp c
def HB (s:ByteArray):Bool:=match s.data.toList with
 | [c]=>decide (c∈fB)
 |_=>false
theorem oj (s:ByteArray):bs s.data.toList=s:=by cases s;rfl
theorem jK (l:List UInt8):(bs l).data.toList=l:=rfl
theorem uP {c:UInt8} (h:c∈fB):fp c=false:=by
 simp only [fB,List.mem_cons,List.not_mem_nil,or_false] at h
 rcases h with rfl|rfl|rfl|rfl|rfl|rfl|rfl|rfl|rfl|rfl|rfl<;>decide
theorem Cn {t:Tok} (h:ja t) (h1:t.1≠1) {s:ByteArray} (hs:t.2.1=s) (hw:isW s=true):t=wd s:=by
 cases h with
 |word _=>subst hs;rfl
 |sign hc=>subst hs;simp only [signT,isW] at hw;rw [uP hc] at hw;cases hw
 |num _ _=>exact absurd rfl h1
 |text _=>exact absurd rfl h1
theorem Kj {t : Tok} (h : ja t) (h1 : t.1 ≠ 1) {s : ByteArray} (hs : t.2.1 = s) (hw : HB s = true) : t = sg s := by
  cases h with
  |@word w h=>
    subst hs
    cases w with
    |nil=>cases h
    |cons c w=>
      cases w with
      |cons _ _=>simp [HB,wordT] at hw
      |nil=>
        simp only [HB,wordT,decide_eq_true_eq] at hw
        simp only [gC,uP hw,Bool.false_and] at h
        cases h
  |sign _=>subst hs;rfl
  |num _ _=>exact absurd rfl h1
  |text _=>exact absurd rfl h1
theorem xp {s:ByteArray} (hw:isW s=true) {l r:List Tok} (hl:gB l) (h:tk s l=some r):l=wd s::r∧gB r:=by
 cases l with
 |nil=>cases h
 |cons t l=>
  simp only [tk] at h
  split at h
  ·rename_i hc
   cases h
   exact ⟨by rw [Cn (hl t (by simp)) hc.1 hc.2 hw],hl.tail⟩
  ·cases h
theorem Co {s:ByteArray} (hw:HB s=true) {l r:List Tok} (hl:gB l) (h:tk s l=some r):l=sg s::r∧gB r:=by
 cases l with
 |nil=>cases h
 |cons t l=>
  simp only [tk] at h
  split at h
  ·rename_i hc
   cases h
   exact ⟨by rw [Kj (hl t (by simp)) hc.1 hc.2 hw],hl.tail⟩
  ·cases h
theorem Jj (ws:List ByteArray) (hw:∀w∈ws,isW w=true):∀(i:Int) (l:List Tok),gB l→∀x,gI i ws l=some x→∃j:Nat,x.1=i+j∧j<ws.length∧l=wd (ws.getD j e0)::x.2∧gB x.2:=by
 induction ws with
 |nil=>intro i l _ x h;cases h
 |cons w ws ih=>
  intro i l hl x h
  simp only [gI] at h
  split at h
  ·rename_i r hr
   cases h
   obtain ⟨h1,h2⟩:=xp (hw w (by simp)) hl hr
   exact ⟨0,by simp,by simp,by simpa using h1,h2⟩
  ·obtain ⟨j,h1,h2,h3,h4⟩:=ih (fun w hw'=>hw w (List.mem_cons_of_mem _ hw')) (i+1) l hl x h
   exact ⟨j+1,by rw [h1];push_cast;omega,by simp;omega,by simpa using h3,h4⟩
theorem sV (ws:List ByteArray) (hw:∀w∈ws,isW w=true):Snd (gI 0 ws) (fun i=> [wd (ws.getD i.toNat e0)]) (fun i=>0≤i∧i<ws.length):=fun l hl x h=>by
 obtain ⟨j,h1,h2,h3,h4⟩:=Jj ws hw 0 l hl x h
 refine ⟨?_,h4,by rw [h1];omega,by rw [h1];omega⟩
 rw [h1,h3]
 simp
theorem KK {b:ByteArray} (h:isName b=true):isW b=true:=by
 simp only [isName,jD,Bool.and_eq_true] at h
 have h:=h.1
 unfold isW
 cases hb:b.data.toList with
 |nil=>rw [hb] at h;cases h
 |cons c r=>rw [hb] at h;simp only [gC,Bool.and_eq_true] at h;exact h.1.1
theorem kL:Snd ik (fun b=> [wd b]) (fun b=>isName b=true):=fun l hl x h=>by
 cases l with
 |nil=>cases h
 |cons t l=>
  simp only [ik] at h
  split at h
  ·rename_i hc
   cases h
   refine ⟨?_,hl.tail,hc.2⟩
   have:=Cn (hl t (by simp)) (by rw [hc.1];decide) rfl (KK hc.2)
   simpa using this
  ·cases h
theorem sW : Snd ke (fun n => [numT n]) (fun n => 0 ≤ n ∧ n ≤ 99) := fun l hl x h => by
  cases l with
  |nil=>cases h
  |cons t l=>
    simp only [ke] at h
    split at h
    · rename_i hc
      cases h
      refine ⟨?_,hl.tail,hc.2.2.1,hc.2.2.2⟩
      have:t=numT t.2.2.2.1:=by
        have ht:=hl t (by simp)
        cases ht with
        |word _=>exact absurd hc.1 (show ¬(0:Int)=1 by decide)
        |sign _=>exact absurd hc.1 (show ¬(2:Int)=1 by decide)
        |num _ _=>rfl
        |text _=>exact absurd hc.2.1 (show ¬(3:Int)=2 by decide)
      simpa using this
    · cases h
def HC (v:Val):Prop:=v=(0,(0,e0))∨v=(1,(0,e0))∨v=(1,(1,e0))∨ja (1,(e0,v))
def xq (x:oT):Prop:=(x.1=10∧x.2=(0,v0))∨(x.1=0∧0≤x.2.1∧x.2.1≤99∧x.2.2=v0)∨(x.1=1∧x.2.1=0∧HC x.2.2)∨(2≤x.1∧x.1≤9∧x.2=(0,v0))
theorem HD {t:Tok} (h:ja t) (h1:t.1=1):t=(1,(e0,t.2.2))∧(t.2.2.1=2∨t.2.2.1=3):=by
 cases h with
 |word _=>exact absurd h1 (show ¬(0:Int)=1 by decide)
 |sign _=>exact absurd h1 (show ¬(2:Int)=1 by decide)
 |num _ _=>exact ⟨rfl,.inl rfl⟩
 |text _=>exact ⟨rfl,.inr rfl⟩
theorem FX {b:ByteArray} {op:Int} (h:yn b=some op):2≤op∧op≤9∧((isW b=true∧nB (op,(0,v0))=[wd b])∨(HB b=true∧nB (op,(0,v0))=[sg b])):=by
 unfold yn at h
 split at h
 ·rename_i e;cases h;subst e;exact ⟨by decide,by decide,.inl ⟨by decide,rfl⟩⟩
 split at h
 ·rename_i e;cases h;subst e;exact ⟨by decide,by decide,.inl ⟨by decide,rfl⟩⟩
 split at h
 ·rename_i e;cases h;subst e;exact ⟨by decide,by decide,.inl ⟨by decide,rfl⟩⟩
 split at h
 ·rename_i e;cases h;subst e;exact ⟨by decide,by decide,.inr ⟨by decide,rfl⟩⟩
 split at h
 ·rename_i e;cases h;subst e;exact ⟨by decide,by decide,.inr ⟨by decide,rfl⟩⟩
 split at h
 ·rename_i e;cases h;subst e;exact ⟨by decide,by decide,.inr ⟨by decide,rfl⟩⟩
 split at h
 ·rename_i e;cases h;subst e;exact ⟨by decide,by decide,.inr ⟨by decide,rfl⟩⟩
 split at h
 ·rename_i e;cases h;subst e;exact ⟨by decide,by decide,.inr ⟨by decide,rfl⟩⟩
 ·cases h
theorem AX {b:ByteArray} {v:Val} (h:jo b=some v):isW b=true∧HC v∧nB (1,(0,v))=[wd b]:=by
 unfold jo at h
 split at h
 ·rename_i e;cases h;subst e;exact ⟨by decide,.inr (.inr (.inl rfl)),rfl⟩
 split at h
 ·rename_i e;cases h;subst e;exact ⟨by decide,.inr (.inl rfl),rfl⟩
 split at h
 ·rename_i e;cases h;subst e;exact ⟨by decide,.inl rfl,rfl⟩
 ·cases h
theorem tJ {l : List UInt8} {n : Int} (h : tG l = some n) : l = 99 :: Lib.itoa n ∧ n ≤ 99 := by
  unfold tG at h
  split at h
  · cases h
  · split at h
    · rename_i c
      subst c
      split at h
      · split at h
        · rename_i hc
          cases h
          exact ⟨by rw [hc.2],hc.1⟩
        · cases h
      · cases h
    · cases h
theorem FY        : Snd iI nB xq := fun l hl x h => by
  simp only [iI] at h
  split at h
  · rename_i r hr
    cases h
    simp only [tkL] at hr
    cases h1:tk (⟨#[110,117,108,108]⟩:ByteArray) l with
    |none=>rw [h1] at hr;cases hr
    |some r1=>
      rw [h1] at hr
      simp only [Option.bind_some] at hr
      obtain ⟨e1,o1⟩:=xp (by decide) hl h1
      cases h2:tk (⟨#[63]⟩:ByteArray) r1 with
      |none=>rw [h2] at hr;cases hr
      |some r2=>
        rw [h2] at hr
        cases hr
        obtain ⟨e2,o2⟩:=Co (by decide) o1 h2
        exact ⟨by rw [e1,e2];rfl,o2,.inl ⟨rfl,rfl⟩⟩
  · rename_i hn
    cases l with
    |nil=>cases h
    |cons t l=>
      have ht:=hl t (by simp)
      simp only at h
      split at h
      · rename_i h1
        cases h
        obtain ⟨e1,e2⟩:=HD ht h1
        refine ⟨?_,hl.tail,.inr (.inr (.inl ⟨rfl,rfl,.inr (.inr (.inr (e1▸ht)))⟩))⟩
        have n1:t.2.2≠(0,(0,e0)):=fun e=>by rw [e] at e2;revert e2;decide
        have n2:t.2.2≠(1,(0,e0)):=fun e=>by rw [e] at e2;revert e2;decide
        have n3:t.2.2≠(1,(1,e0)):=fun e=>by rw [e] at e2;revert e2;decide
        have:nB (1,(0,t.2.2))=[t]:=by
          simp only [nB,if_neg n1,if_neg n2,if_neg n3]
          rw [←e1]
          rfl
        rw [this]
        rfl
      · rename_i h1
        split at h
        · rename_i op ho
          cases h
          obtain ⟨o1,o2,o3⟩:=FX ho
          refine ⟨?_,hl.tail,.inr (.inr (.inr ⟨o1,o2,rfl⟩))⟩
          rcases o3 with ⟨o3,o4⟩|⟨o3,o4⟩
          · rw [o4,Cn ht h1 rfl o3];rfl
          · rw [o4,Kj ht h1 rfl o3];rfl
        · split at h
          · rename_i v hv
            cases h
            obtain ⟨o1,o2,o3⟩:=AX hv
            refine ⟨?_,hl.tail,.inr (.inr (.inl ⟨rfl,rfl,o2⟩))⟩
            rw [o3,Cn ht h1 rfl o1];rfl
          · simp only [Option.map_eq_some_iff] at h
            obtain ⟨n,hn,rfl⟩:=h
            obtain ⟨o1,o2⟩:=tJ hn
            have hw:isW t.2.1=true:=by unfold isW;rw [o1];show fp 99=true;decide
            have e:=Cn ht h1 rfl hw
            refine ⟨?_,hl.tail,.inr (.inl ⟨rfl,?_,o2,rfl⟩)⟩
            · have:nB (0,(n,v0))=[t]:=by
                show [wd (bs (99::Lib.itoa n))]=[t]
                rw [←o1,oj,←e]
              rw [this];rfl
            · show 0≤n
              rcases Int.lt_or_le n 0 with hneg|hpos
              · exfalso
                cases ht with
                |@word w hw'=>
                  simp only [wordT,jK] at o1
                  subst o1
                  simp only [gC,Bool.and_eq_true,List.all_eq_true] at hw'
                  have h45:(45:UInt8)∈(99::Lib.itoa n):=by
                    unfold Lib.itoa
                    rw [if_pos hneg]
                    simp
                  have:=hw'.1.2 _ h45
                  revert this
                  decide
                |sign hc=>
                  simp only [signT,jK,List.cons.injEq] at o1
                  obtain ⟨rfl,_⟩:=o1
                  revert hc;decide
                |num _ _=>exact h1 rfl
                |text _=>exact h1 rfl
              · exact hpos
theorem DF : ∀ (n : Nat) (l : List Tok),gB l → ∀ x,iu n l = some x → l = x.1.flatMap nB ++ sg (⟨#[93]⟩ : ByteArray) :: x.2 ∧ gB x.2 ∧ (∀ y ∈ x.1,xq y) ∧ x.1.length ≤ n := by
  intro n
  induction n with
  |zero=>
    intro l hl x h
    rw [iu] at h
    split at h
    · rename_i r hr
      cases h
      obtain ⟨e,o⟩:=Co (by decide) hl hr
      exact ⟨by simpa using e,o,by simp,by simp⟩
    · cases h
  |succ n ih=>
    intro l hl x h
    rw [iu] at h
    split at h
    · rename_i r hr
      cases h
      obtain ⟨e,o⟩:=Co (by decide) hl hr
      exact ⟨by simpa using e,o,by simp,by simp⟩
    · simp only [Option.bind_eq_some_iff,Option.map_eq_some_iff] at h
      obtain ⟨y,hy,z,hz,rfl⟩:=h
      obtain ⟨a1,a2,a3⟩:=FY l hl y hy
      obtain ⟨b1,b2,b3,b4⟩:=ih y.2 a2 z hz
      refine ⟨?_,b2,?_,by simp;omega⟩
      · rw [a1,b1];simp
      · intro u hu
        rcases List.mem_cons.1 hu with rfl|hu
        · exact a3
        · exact b3 u hu
def p3 (e:List oT):Prop:=(∀y∈e,xq y)∧e.length≤100
theorem zS:Snd jz rf p3:=fun l hl x h=>by
 simp only [jz,Option.bind_eq_some_iff] at h
 obtain ⟨r,hr,h⟩:=h
 obtain ⟨e,o⟩:=Co (by decide) hl hr
 obtain ⟨a,b,c,d⟩:=DF 100 r o x h
 exact ⟨by rw [e,a];simp [rf],b,c,d⟩
theorem Cp {s:ByteArray} (hs:isW s=true) {l:List Tok} (hl:gB l):l=(if (iR s l).1 then [wd s] else [])++(iR s l).2∧gB (iR s l).2:=by
 unfold iR
 cases h:tk s l with
 |none=>exact ⟨rfl,hl⟩
 |some r=>
  obtain ⟨e,o⟩:=xp hs hl h
  exact ⟨by simpa using e,o⟩
theorem sX {b:ByteArray} (h:isName b=true):b≠e0:=fun e=>by subst e;revert h;decide
theorem HF:Snd Cm (fun x=>if x.1=e0 then [] else [wd (⟨#[114,101,102]⟩:ByteArray),wd x.1,wd (yo.getD x.2.toNat e0)]) (fun x=>(x.1=e0∧x.2=0)∨(isName x.1=true∧0≤x.2∧x.2<3)):=fun l hl x h=>by
 unfold Cm at h
 split at h
 ·cases h;exact ⟨by simp,hl,.inl ⟨rfl,rfl⟩⟩
 ·rename_i r hr
  simp only [Option.bind_eq_some_iff,Option.map_eq_some_iff] at h
  obtain ⟨y,hy,z,hz,rfl⟩:=h
  obtain ⟨e,o⟩:=xp (by decide) hl hr
  obtain ⟨a1,a2,a3⟩:=kL r o y hy
  obtain ⟨b1,b2,b3⟩:=sV yo (by decide) y.2 a2 z hz
  refine ⟨?_,b2,.inr ⟨a3,b3⟩⟩
  simp only [if_neg (sX a3)]
  rw [e,a1,b1]
  rfl
def HG (c:Col):Prop:=isName c.1=true∧1≤c.2.1∧c.2.1≤3∧((c.2.2.2.2.1=e0∧c.2.2.2.2.2=0)∨(isName c.2.2.2.2.1=true∧0≤c.2.2.2.2.2∧c.2.2.2.2.2<3))
theorem Cq:Snd gR qo HG:=fun l hl x h=>by
 simp only [gR,Option.bind_eq_some_iff,Option.map_eq_some_iff] at h
 obtain ⟨y,hy,z,hz,u,hu,rfl⟩:=h
 obtain ⟨a1,a2,a3⟩:=kL l hl y hy
 obtain ⟨b1,b2,b3,b4⟩:=sV kinds (by decide) y.2 a2 z hz
 obtain ⟨c1,c2⟩:=Cp (s:=(⟨#[110,117,108,108]⟩:ByteArray)) (by decide) b2
 obtain ⟨d1,d2⟩:=Cp (s:=(⟨#[117,110,105,113,117,101]⟩:ByteArray)) (by decide) c2
 obtain ⟨f1,f2,f3⟩:=HF _ d2 u hu
 have b4:z.1<3:=b4
 refine ⟨?_,f2,a3,by simp;omega,by simp;omega,f3⟩
 simp only [qo]
 rw [show 1+z.1-1=z.1 by omega]
 conv=>lhs;rw [a1,b1,c1,d1,f1]
 simp
theorem xu {α : Type} {p : List Tok → Option (α × List Tok)} {f : α → List Tok} {G : α → Prop} (hp : Snd p f G) : ∀ (n : Nat) (l : List Tok),gB l → ∀ x,lB p n l = some x → l = pZ f x.1 ++ x.2 ∧ gB x.2 ∧ (∀ y ∈ x.1,G y) ∧ 1 ≤ x.1.length ∧ x.1.length ≤ n + 1 := by
  intro n
  induction n with
  |zero=>
    intro l hl x h
    rw [lB] at h
    simp only [Option.bind_eq_some_iff] at h
    obtain ⟨y,hy,h⟩:=h
    obtain ⟨a1,a2,a3⟩:=hp l hl y hy
    split at h
    · cases h;exact ⟨a1,a2,by simpa using a3,by simp,by simp⟩
    · cases h
  |succ n ih=>
    intro l hl x h
    rw [lB] at h
    simp only [Option.bind_eq_some_iff] at h
    obtain ⟨y,hy,h⟩:=h
    obtain ⟨a1,a2,a3⟩:=hp l hl y hy
    split at h
    · cases h;exact ⟨a1,a2,by simpa using a3,by simp,by simp⟩
    · rename_i r hr
      simp only [Option.map_eq_some_iff] at h
      obtain ⟨z,hz,rfl⟩:=h
      obtain ⟨e,o⟩:=Co (by decide) a2 hr
      obtain ⟨b1,b2,b3,b4,b5⟩:=ih r o z hz
      refine ⟨?_,b2,?_,by simp,by simp;omega⟩
      · conv=>lhs;rw [a1,e,b1]
        cases hz1:z.1 with
        |nil=>rw [hz1] at b4;simp at b4
        |cons u v=>simp [pZ]
      · intro u hu
        rcases List.mem_cons.1 hu with rfl|hu
        · exact a3
        · exact b3 u hu
theorem Cr : ∀ (n : Nat) (l : List Tok),gB l → ∀ x,il n l = some x → l = (x.1.flatMap fun e => wd (⟨#[99,104,101,99,107]⟩ : ByteArray) :: rf e) ++ x.2 ∧ gB x.2 ∧ (∀ y ∈ x.1,p3 y) ∧ x.1.length ≤ n := by
  intro n
  induction n with
  |zero=>
    intro l hl x h
    rw [il] at h
    split at h
    · cases h;exact ⟨by simp,hl,by simp,by simp⟩
    · cases h
  |succ n ih=>
    intro l hl x h
    rw [il] at h
    split at h
    · cases h;exact ⟨by simp,hl,by simp,by simp⟩
    · rename_i r hr
      simp only [Option.bind_eq_some_iff,Option.map_eq_some_iff] at h
      obtain ⟨y,hy,z,hz,rfl⟩:=h
      obtain ⟨e,o⟩:=xp (by decide) hl hr
      obtain ⟨a1,a2,a3⟩:=zS r o y hy
      obtain ⟨b1,b2,b3,b4⟩:=ih y.2 a2 z hz
      refine ⟨?_,b2,?_,by simp;omega⟩
      · conv=>lhs;rw [e,a1,b1]
        simp
      · intro u hu
        rcases List.mem_cons.1 hu with rfl|hu
        · exact a3
        · exact b3 u hu
structure eI (t:Tab):Prop where
 name:isName t.1=true
 cols:∀c∈t.2.1,HG c
 checks:∀e∈t.2.2,p3 e
 some:1≤t.2.1.length
 most:t.2.1.length≤40
 most2:t.2.2.length≤40
theorem DG:∀l,gB l→∀x,lm l=some x→wd (⟨#[116,97,98,108,101]⟩:ByteArray)::l=tI x.1++x.2∧gB x.2∧eI x.1:=fun l hl x h=>by
 simp only [lm,Option.bind_eq_some_iff,Option.map_eq_some_iff] at h
 obtain ⟨y,hy,r,hr,z,hz,r2,hr2,u,hu,rfl⟩:=h
 obtain ⟨a1,a2,a3⟩:=kL l hl y hy
 obtain ⟨b1,b2⟩:=Co (by decide) a2 hr
 obtain ⟨c1,c2,c3,c4,c5⟩:=xu Cq 39 r b2 z hz
 obtain ⟨d1,d2⟩:=Co (by decide) c2 hr2
 obtain ⟨f1,f2,f3,f4⟩:=Cr 40 r2 d2 u hu
 refine ⟨?_,f2,⟨a3,c3,f3,c4,c5,f4⟩⟩
 conv=>lhs;rw [a1,b1,c1,d1,f1]
 simp [tI]
def Cs (a:Agg):Prop:=0≤a.1∧a.1<4∧0≤a.2∧a.2≤99∧(a.1=0→a.2=0)
theorem HH:Snd mK DE Cs:=fun l hl x h=>by
 simp only [mK,Option.bind_eq_some_iff] at h
 obtain ⟨y,hy,h⟩:=h
 obtain ⟨a1,a2,a3,a4⟩:=sV fns (by decide) l hl y hy
 have a4:y.1<4:=a4
 split at h
 ·rename_i h0
  cases h
  refine ⟨?_,a2,by simp [Cs]⟩
  rw [a1,h0];rfl
 ·rename_i h0
  simp only [Option.map_eq_some_iff] at h
  obtain ⟨z,hz,rfl⟩:=h
  obtain ⟨b1,b2,b3,b4⟩:=sW y.2 a2 z hz
  refine ⟨?_,b2,a3,a4,b3,b4,fun e=>absurd e h0⟩
  conv=>lhs;rw [a1,b1]
  simp [DE,if_neg h0,DD]
theorem FZ:Snd mB (fun x=>if x.1=e0 then [] else wd (⟨#[106,111,105,110]⟩:ByteArray)::wd x.1::wd (⟨#[111,110]⟩:ByteArray)::numT x.2.1::sg (⟨#[61]⟩:ByteArray)::[numT x.2.2]) (fun x=>(x.1=e0∧x.2=(0,0))∨(isName x.1=true∧0≤x.2.1∧x.2.1≤99∧0≤x.2.2∧x.2.2≤99)):=fun l hl x h=>by
 unfold mB at h
 split at h
 ·cases h;exact ⟨by simp,hl,.inl ⟨rfl,rfl⟩⟩
 ·rename_i r hr
  simp only [Option.bind_eq_some_iff,Option.map_eq_some_iff] at h
  obtain ⟨y,hy,r2,hr2,a,ha,r3,hr3,b,hb,rfl⟩:=h
  obtain ⟨e,o⟩:=xp (by decide) hl hr
  obtain ⟨a1,a2,a3⟩:=kL r o y hy
  obtain ⟨b1,b2⟩:=xp (by decide) a2 hr2
  obtain ⟨c1,c2,c3,c4⟩:=sW r2 b2 a ha
  obtain ⟨d1,d2⟩:=Co (by decide) c2 hr3
  obtain ⟨f1,f2,f3,f4⟩:=sW r3 d2 b hb
  refine ⟨?_,f2,.inr ⟨a3,c3,c4,f3,f4⟩⟩
  simp only [if_neg (sX a3)]
  conv=>lhs;rw [e,a1,b1,c1,d1,f1]
  simp
theorem DH:∀l,gB l→∀x,jE l=some x→(l=(if x.1=[] then [] else wd (⟨#[119,104,101,114,101]⟩:ByteArray)::rf x.1)++x.2∨(x.1=[]∧l=[wd (⟨#[119,104,101,114,101]⟩:ByteArray),sg (⟨#[91]⟩:ByteArray),sg (⟨#[93]⟩:ByteArray)]++x.2))∧gB x.2∧p3 x.1:=fun l hl x h=>by
 unfold jE at h
 split at h
 ·cases h;exact ⟨.inl (by simp),hl,by simp [p3]⟩
 ·rename_i r hr
  obtain ⟨e,o⟩:=xp (by decide) hl hr
  obtain ⟨a1,a2,a3⟩:=zS r o x h
  refine ⟨?_,a2,a3⟩
  by_cases h0:x.1=[]
  ·right
   refine ⟨h0,?_⟩
   rw [e,a1,h0]
   rfl
  ·left
   rw [if_neg h0,e,List.cons_append]
   exact congrArg _ a1
theorem F0:Snd re (pZ DD) (fun p=>(∀n∈p,0≤n∧n≤99)∧p.length≤40):=fun l hl x h=>by
 unfold re at h
 split at h
 ·cases h;exact ⟨by simp [pZ],hl,by simp⟩
 ·obtain ⟨a,b,c,d,e⟩:=xu (f:=DD) sW 39 l hl x h
  exact ⟨a,b,c,e⟩
theorem DI:Snd tH (fun x=>(if x.1 then [wd (⟨#[103,114,111,117,112]⟩:ByteArray)] else [])++pZ DE x.2) (fun x=>(∀a∈x.2,Cs a)∧x.2.length≤40∧(x.1=true∨x.2=[])):=fun l hl x h=>by
 unfold tH at h
 split at h
 ·cases h;exact ⟨by simp [pZ],hl,by simp⟩
 ·rename_i r hr
  obtain ⟨e,o⟩:=xp (by decide) hl hr
  split at h
  ·cases h;exact ⟨by simpa [pZ] using e,o,by simp⟩
  ·simp only [Option.map_eq_some_iff] at h
   obtain ⟨z,hz,rfl⟩:=h
   obtain ⟨a,b,c,d,f⟩:=xu HH 39 r o z hz
   exact ⟨by rw [e,a];simp,b,c,f,.inl rfl⟩
structure tK (v:mJ):Prop where
 name:isName v.1=true
 fr:isName v.2.1=true
 join:(v.2.2.1=e0∧v.2.2.2.1=(0,0))∨(isName v.2.2.1=true∧0≤v.2.2.2.1.1∧v.2.2.2.1.1≤99∧0≤v.2.2.2.1.2∧v.2.2.2.1.2≤99)
 whr:p3 v.2.2.2.2.1
 pick:∀n∈v.2.2.2.2.2.1,0≤n∧n≤99
 most:v.2.2.2.2.2.1.length≤40
 aggs:∀a∈v.2.2.2.2.2.2.2,Cs a
 most2:v.2.2.2.2.2.2.2.length≤40
 group:v.2.2.2.2.2.2.1=true∨v.2.2.2.2.2.2.2=[]
theorem HI (s:ByteArray) (l:List Tok):tk s (wd s::l)=some l:=by simp [tk,wd]
theorem tk_sg (s:ByteArray) (l:List Tok):tk s (sg s::l)=some l:=by simp [tk,sg]
theorem sY {b:ByteArray} (h:isName b=true) (l:List Tok):ik (wd b::l)=some (b,l):=by simp [ik,wd,h]
theorem Ct {n:Int} (h:0≤n∧n≤99) (l:List Tok):ke (numT n::l)=some (n,l):=by simp [ke,numT,h]
theorem F1 : ∀ l,gB l → ∀ x,nA l = some x → ∃ l',nA l' = some x ∧ l'.Sublist l ∧ wd (⟨#[118,105,101,119]⟩ : ByteArray) :: l' = xo x.1 ++ x.2 ∧ gB x.2 ∧ tK x.1 := fun l hl x h => by
  simp only [nA,Option.bind_eq_some_iff,Option.map_eq_some_iff] at h
  obtain ⟨y,hy,r,hr,f,hf,j,hj,w,hw,r2,hr2,p,hp,g,hg,rfl⟩:=h
  obtain ⟨a1,a2,a3⟩:=kL l hl y hy
  obtain ⟨b1,b2⟩:=xp (by decide) a2 hr
  obtain ⟨c1,c2,c3⟩:=kL r b2 f hf
  obtain ⟨d1,d2,d3⟩:=FZ f.2 c2 j hj
  obtain ⟨f1,f2,f3⟩:=DH j.2 d2 w hw
  obtain ⟨g1,g2⟩:=xp (by decide) f2 hr2
  obtain ⟨i1,i2,i3⟩:=F0 r2 g2 p hp
  obtain ⟨k1,k2,k3⟩:=DI p.2 i2 g hg
  have hV:tK (y.1,(f.1,(j.1.1,(j.1.2,(w.1,(p.1,g.1)))))):=⟨a3,c3,d3,f3,i3.1,i3.2,k3.1,k3.2.1,k3.2.2⟩
  let J:List Tok:=if j.1.1=e0 then [] else wd (⟨#[106,111,105,110]⟩:ByteArray)::wd j.1.1::wd (⟨#[111,110]⟩:ByteArray)::numT j.1.2.1::sg (⟨#[61]⟩:ByteArray)::[numT j.1.2.2]
  let W:List Tok:=if w.1=[] then [] else wd (⟨#[119,104,101,114,101]⟩:ByteArray)::rf w.1
  have hT:wd (⟨#[118,105,101,119]⟩:ByteArray)::(wd y.1::wd (⟨#[102,114,111,109]⟩:ByteArray)::wd f.1::(J++(W++w.2)))=xo (y.1,(f.1,(j.1.1,(j.1.2,(w.1,(p.1,g.1))))))++g.2:=by
    rw [g1,i1,k1]
    simp [xo,J,W]
  rcases f1 with f1|⟨f0,f1⟩
  · have hl':l=wd y.1::wd (⟨#[102,114,111,109]⟩:ByteArray)::wd f.1::(J++(W++w.2)):=by rw [a1,b1,c1,d1,f1];rfl
    refine ⟨l,?_,List.Sublist.refl _,by rw [←hT,hl'],k2,hV⟩
    simp only [nA,hy,hr,hf,hj,hw,hr2,hp,hg,Option.bind_some,Option.map_some]
  · have hW:W=[]:=if_pos f0
    refine ⟨wd y.1::wd (⟨#[102,114,111,109]⟩:ByteArray)::wd f.1::(J++(W++w.2)),?_,?_,hT,k2,hV⟩
    · have hj':mB (J++w.2)=some (j.1,w.2):=by
        rcases d3 with ⟨d3,d4⟩|⟨d3,d4,d5,d6,d7⟩
        · have hJ:J=[]:=if_pos d3
          have:tk (⟨#[106,111,105,110]⟩:ByteArray) w.2=none:=by rw [g1];rfl
          rw [hJ,List.nil_append]
          simp only [mB,this]
          rw [←d3,←d4]
        · have hJ:J=wd (⟨#[106,111,105,110]⟩:ByteArray)::wd j.1.1::wd (⟨#[111,110]⟩:ByteArray)::numT j.1.2.1::sg (⟨#[61]⟩:ByteArray)::[numT j.1.2.2]:=if_neg (sX d3)
          rw [hJ]
          simp only [List.cons_append,List.nil_append,mB,HI,sY d3,Ct ⟨d4,d5⟩,tk_sg,Ct ⟨d6,d7⟩,Option.bind_some,Option.map_some]
      have hw':jE w.2=some ([],w.2):=by
        have:tk (⟨#[119,104,101,114,101]⟩:ByteArray) w.2=none:=by rw [g1];rfl
        simp only [jE,this]
      rw [hW,List.nil_append]
      simp only [nA,sY a3,HI,sY c3,hj',hw',hr2,hp,hg,Option.bind_some,Option.map_some,f0]
    · rw [hW,List.nil_append]
      have hl':l=wd y.1::wd (⟨#[102,114,111,109]⟩:ByteArray)::wd f.1::(J++([wd (⟨#[119,104,101,114,101]⟩:ByteArray),sg (⟨#[91]⟩:ByteArray),sg (⟨#[93]⟩:ByteArray)]++w.2)):=by rw [a1,b1,c1,d1,f1];rfl
      rw [hl']
      refine List.Sublist.cons_cons _ (List.Sublist.cons_cons _ (List.Sublist.cons_cons _ (List.Sublist.append (List.Sublist.refl _) ?_)))
      exact List.sublist_append_right _ _
inductive lr:Def→Prop
 |tab {t:Tab}:eI t→lr (0,(t,xn))
 |view {v:mJ}:tK v→lr (1,(tab0,v))
theorem Cu {l : List Tok} (hl : gB l) {d : Def} (h : lq l = some d) : (HA d).Sublist l ∧ lq (HA d) = some d ∧ lr d := by
  simp only [lq,Option.bind_eq_some_iff] at h
  obtain ⟨x,hx,h⟩:=h
  split at h
  · rename_i h0
    cases h
    simp only [Dz,Option.bind_eq_some_iff] at hx
    obtain ⟨y,hy,hx⟩:=hx
    obtain ⟨a1,a2,a3,a4⟩:=sV [(⟨#[116,97,98,108,101]⟩:ByteArray),(⟨#[118,105,101,119]⟩:ByteArray)] (by decide) l hl y hy
    have a4:y.1<2:=a4
    split at hx
    · rename_i h1
      simp only [Option.map_eq_some_iff] at hx
      obtain ⟨z,hz,rfl⟩:=hx
      obtain ⟨b1,b2,b3⟩:=DG y.2 a2 z hz
      have h0:z.2=[]:=h0
      have e:HA (0,(z.1,xn))=l:=by
        show tI z.1=l
        rw [a1,h1]
        rw [h0,List.append_nil] at b1
        exact b1.symm
      rw [e]
      refine ⟨List.Sublist.refl _,?_,.tab b3⟩
      simp only [lq,Dz,hy,Option.bind_some,if_pos h1,hz,Option.map_some,h0,if_true]
    · rename_i h1
      simp only [Option.map_eq_some_iff] at hx
      obtain ⟨z,hz,rfl⟩:=hx
      have h1':y.1=1:=by omega
      obtain ⟨l',c1,c2,b1,b2,b3⟩:=F1 y.2 a2 z hz
      have h0:z.2=[]:=h0
      have e:HA (y.1,(tab0,z.1))=wd (⟨#[118,105,101,119]⟩:ByteArray)::l':=by
        rw [h1']
        show xo z.1=_
        rw [h0,List.append_nil] at b1
        exact b1.symm
      have el:l=wd (⟨#[118,105,101,119]⟩:ByteArray)::y.2:=by rw [a1,h1'];rfl
      rw [e]
      refine ⟨by rw [el];exact c2.cons_cons _,?_,by rw [h1'];exact .view b3⟩
      have o:gI 0 [(⟨#[116,97,98,108,101]⟩:ByteArray),(⟨#[118,105,101,119]⟩:ByteArray)] (wd (⟨#[118,105,101,119]⟩:ByteArray)::l')=some (1,l'):=by
        simp only [gI]
        have:tk (⟨#[116,97,98,108,101]⟩:ByteArray) (wd (⟨#[118,105,101,119]⟩:ByteArray)::l')=none:=rfl
        rw [this,HI]
        rfl
      simp only [lq,Dz,o,Option.bind_some,c1,Option.map_some,h0,if_true,h1']
      rfl
  · cases h
end Dl
end
section
namespace Dl
open Go
theorem Cv : ∀ s : List UInt8,(Lib.index s [39] = -1 ∧ (39 : UInt8) ∉ s) ∨ ∃ a r,s = a ++ 39 :: r ∧ (39 : UInt8) ∉ a ∧ Lib.index s [39] = a.length := by
  intro s
  induction s with
  |nil=>left;exact ⟨rfl,by simp⟩
  |cons c l ih=>
    by_cases h:c=39
    · right
      subst h
      exact ⟨[],l,rfl,by simp,by simp [Lib.index,List.isPrefixOf]⟩
    · have hp:([39]:List UInt8).isPrefixOf (c::l)=false:=by
        simp only [List.isPrefixOf,Bool.and_eq_false_iff]
        left
        simp;exact fun e=>h e.symm
      rcases ih with ⟨h1,h2⟩|⟨a,r,h1,h2,h3⟩
      · left
        refine ⟨?_,?_⟩
        · simp [Lib.index,hp,h1]
        · intro hm
          rcases List.mem_cons.1 hm with e|hm
          · exact h e.symm
          · exact h2 hm
      · right
        refine ⟨c::a,r,by rw [h1];rfl,?_,?_⟩
        · intro hm
          rcases List.mem_cons.1 hm with e|hm
          · exact h e.symm
          · exact h2 hm
        · have hn:¬Lib.index l [39]=-1:=by omega
          simp [Lib.index,hp,hn,h3]
theorem Jk (a b:List UInt8):dbl (a++b)=dbl a++dbl b:=by
 induction a with
 |nil=>rfl
 |cons c a ih=>simp only [List.cons_append,dbl,ih];split<;>simp
theorem Cw {a:List UInt8} (h:(39:UInt8)∉a):dbl a=a:=by
 induction a with
 |nil=>rfl
 |cons c a ih=>
  have hc:¬c=39:=fun e=>h (by simp [e])
  simp only [dbl,if_neg hc]
  rw [ih (fun hm=>h (List.mem_cons_of_mem _ hm))]
theorem EJ : ∀ (n : Nat) (s : List UInt8),s.length ≤ n → ∀ f,s.length < f → Lib.replaceK [39] [39,39] (Lib.countFrom [39] f s) s = dbl s ∧ Lib.countFrom [39] f s ≤ s.length := by
  intro n
  induction n with
  |zero=>
    intro s hs f hf
    cases s with
    |cons _ _=>simp at hs
    |nil=>
      cases f with
      |zero=>simp at hf
      |succ f=>
        have:Lib.countFrom [39] (f+1) []=0:=by simp [Lib.countFrom,Lib.index]
        rw [this]
        exact ⟨rfl,Nat.le_refl _⟩
  |succ n ih=>
    intro s hs f hf
    cases f with
    |zero=>omega
    |succ f=>
      rcases Cv s with ⟨h1,h2⟩|⟨a,r,h1,h2,h3⟩
      · have hc:Lib.countFrom [39] (f+1) s=0:=by simp [Lib.countFrom,h1]
        rw [hc]
        exact ⟨by rw [Cw h2];rfl,by omega⟩
      · have hn:¬(Lib.index s [39]==-1)=true:=by rw [beq_iff_eq];omega
        have hd:s.drop ((Lib.index s [39]).toNat+1)=r:=by
          rw [h3,h1]
          simp only [Int.toNat_natCast]
          rw [show a.length+1=(a++ [39]).length by simp,show a++39::r=(a++ [39])++r by simp,List.drop_left]
        have hc:Lib.countFrom [39] (f+1) s=Lib.countFrom [39] f r+1:=by
          rw [Lib.countFrom,if_neg hn]
          rw [show ([39]:List UInt8).length=1 from rfl,hd,Nat.add_comm]
        have hl:s.length=a.length+1+r.length:=by rw [h1];simp;omega
        obtain ⟨i1,i2⟩:=ih r (by omega) f (by omega)
        rw [hc,Lib.replaceK_hit _ _ _ _ _ h3]
        have hd':s.drop (a.length+([39]:List UInt8).length)=r:=by rw [h3] at hd;simpa using hd
        rw [hd',i1]
        have ht:s.take a.length=a:=by rw [h1];simp
        refine ⟨?_,by omega⟩
        rw [ht,h1,Jk,Cw h2]
        simp [dbl]
theorem xv (s:List UInt8):Lib.replaceAll s [39] [39,39]=dbl s:=by
 unfold Lib.replaceAll Lib.replace
 have:(([39]:List UInt8)==[39,39])=false:=by decide
 rw [if_neg (by rw [this];simp)]
 have hn:Lib.replaceNum s [39] (-1)=Lib.count s [39]:=by unfold Lib.replaceNum;rw [if_pos (.inl (by decide))]
 rw [hn]
 exact (EJ s.length s (Nat.le_refl _) _ (by omega)).1
theorem HJ (s:List UInt8):Lib.count s [39]≤s.length:=(EJ s.length s (Nat.le_refl _) _ (by omega)).2
theorem DJ (l:List (List UInt8)):Lib.join l [32]=fC l:=by
 induction l with
 |nil=>rfl
 |cons w l ih=>
  cases l with
  |nil=>rw [Lib.join_one];rfl
  |cons v l=>
   rw [gQ w (by simp),←ih,Lib.join_cons,Lib.join_cons]
   simp [Lib.joinTail]
def fO (n:Int) (ws:List ByteArray):ByteArray:=if n<0∨(ws.length:Int)≤n then (⟨#[33]⟩:ByteArray) else ws.getD n.toNat e0
def EK:List ByteArray:=[(⟨#[43]⟩:ByteArray),(⟨#[45]⟩:ByteArray),(⟨#[42]⟩:ByteArray),(⟨#[61]⟩:ByteArray),(⟨#[60]⟩:ByteArray),(⟨#[97,110,100]⟩:ByteArray),(⟨#[111,114]⟩:ByteArray),(⟨#[110,111,116]⟩:ByteArray),(⟨#[110,117,108,108,32,63]⟩:ByteArray)]
def u4 (v:Val):Bool:=(decide (v.1=2)&&decide (v.2.2=e0))||(decide (v.1=3)&&(decide (v.2.1=0)&&decide (v.2.2.size≤1000)))
def rz (v:Val):ByteArray:=if v=(0,(0,e0)) then (⟨#[110,117,108,108]⟩:ByteArray) else if v=(1,(0,e0)) then (⟨#[102,97,108,115,101]⟩:ByteArray) else if v=(1,(1,e0)) then (⟨#[116,114,117,101]⟩:ByteArray) else if u4 v then bs (eR (1,(e0,v))) else (⟨#[33]⟩:ByteArray)
def mC (x:oT):ByteArray:=if x.1=0 then bs (99::Lib.itoa x.2.1) else if x.1=1 then rz x.2.2 else fO (IntKind.i64.wrap (x.1-2)) EK
def nC (e:List oT):List ByteArray:=(⟨#[91]⟩:ByteArray)::e.map mC++ [(⟨#[93]⟩:ByteArray)]
def ju {α:Type} (f:α→List ByteArray):Bool→List α→List ByteArray
 |_,[]=> []
 |b,x::r=>(if b then [(⟨#[44]⟩:ByteArray)] else [])++f x++ju f true r
def nD (c:Col):List ByteArray:=[c.1,fO (IntKind.i64.wrap (c.2.1-1)) kinds]++((if c.2.2.1 then [(⟨#[110,117,108,108]⟩:ByteArray)] else [])++((if c.2.2.2.1 then [(⟨#[117,110,105,113,117,101]⟩:ByteArray)] else [])++(if c.2.2.2.2.1=e0 then [] else [(⟨#[114,101,102]⟩:ByteArray),c.2.2.2.2.1,fO c.2.2.2.2.2 yo])))
def p4 (e:List oT):List ByteArray:=(⟨#[99,104,101,99,107]⟩:ByteArray)::nC e
def rA (t:Tab):List ByteArray:=[(⟨#[116,97,98,108,101]⟩:ByteArray),t.1,(⟨#[40]⟩:ByteArray)]++ju nD false t.2.1++ [(⟨#[41]⟩:ByteArray)]++t.2.2.flatMap p4
def kg (n:Int):List ByteArray:=[bs (Lib.itoa n)]
def oU (a:Agg):List ByteArray:=fO a.1 fns::(if a.1=0 then [] else [bs (Lib.itoa a.2)])
def xw (v:mJ):List ByteArray:=[(⟨#[118,105,101,119]⟩:ByteArray),v.1,(⟨#[102,114,111,109]⟩:ByteArray),v.2.1]++(if v.2.2.1=e0 then [] else [(⟨#[106,111,105,110]⟩:ByteArray),v.2.2.1,(⟨#[111,110]⟩:ByteArray),bs (Lib.itoa v.2.2.2.1.1),(⟨#[61]⟩:ByteArray),bs (Lib.itoa v.2.2.2.1.2)])++
 (if v.2.2.2.2.1=[] then [] else (⟨#[119,104,101,114,101]⟩:ByteArray)::nC v.2.2.2.2.1)++ [(⟨#[112,105,99,107]⟩:ByteArray)]++ju kg false v.2.2.2.2.2.1++(if v.2.2.2.2.2.2.1 then [(⟨#[103,114,111,117,112]⟩:ByteArray)] else [])++ju oU false v.2.2.2.2.2.2.2
def Cy (d:Def):List ByteArray:=if d.1=0 then rA d.2.1 else xw d.2.2
def nE (d:Def):List UInt8:=fC ((Cy d).map fun w=>w.data.toList)
open Classical in
noncomputable def eT (d:Def):List UInt8:=if 20000<(nE d).length then [] else if kf (nE d)=(d,0) then nE d else []
def Sep (a:List ByteArray) (b:List Tok):Prop:=∀(p q:List (List UInt8)),fC (p++a.map (fun w=>w.data.toList)++q)=fC (p++b.map eR++q)
theorem Sep.of {a:List ByteArray} {b:List Tok} (h:a.map (fun w=>w.data.toList)=b.map eR):Sep a b:=fun p q=>by rw [h]
theorem Sep.app {a a':List ByteArray} {b b':List Tok} (h:Sep a b) (h':Sep a' b'):Sep (a++a') (b++b'):=fun p q=>by
 rw [List.map_append,List.map_append]
 have e1:=h p (a'.map (fun w=>w.data.toList)++q)
 have e2:=h' (p++b.map eR) q
 simp only [List.append_assoc] at e1 e2 ⊢
 rw [e1,e2]
theorem Sep.cons {w:ByteArray} {t:Tok} (h:w.data.toList=eR t) {a':List ByteArray} {b':List Tok} (h':Sep a' b'):Sep (w::a') (t::b'):=Sep.app (a:=[w]) (b:=[t]) (.of (by simp [h])) h'
theorem Sep.nil:Sep [] []:=.of rfl
theorem Sep.join {a:List ByteArray} {b:List Tok} (h:Sep a b):fC (a.map fun w=>w.data.toList)=fC (b.map eR):=by
 have:=h [] []
 simpa using this
theorem Cz (p q:List (List UInt8)) (u v:List UInt8):fC (p++ [u++32::v]++q)=fC (p++ [u,v]++q):=by
 induction p with
 |nil=>
  cases q with
  |nil=>simp [fC]
  |cons w q=>
   have h1:fC ([]++ [u++32::v]++w::q)=(u++32::v)++32::fC (w::q):=gQ _ (by simp)
   have h2:fC ([]++ [u,v]++w::q)=u++32::fC (v::w::q):=gQ _ (by simp)
   rw [h1,h2,gQ v (by simp)]
   simp
 |cons a p ih=>
  have e1:(a::p)++ [u++32::v]++q=a::(p++ [u++32::v]++q):=rfl
  have e2:(a::p)++ [u,v]++q=a::(p++ [u,v]++q):=rfl
  rw [e1,e2,gQ a (by simp),gQ a (by simp),ih]
theorem DK {i:Int} (h1:-100≤i) (h2:i≤100):IntKind.i64.wrap i=i:=by rw [IntKind.wrap_i64];omega
theorem F2 {v:Val} (h:ja (1,(e0,v))):u4 v=true:=by
 generalize ht:((1,(e0,v)):Tok)=t at h
 cases h with
 |word _=>cases ht
 |sign _=>cases ht
 |num _ _=>cases ht;simp [u4]
 |@text w hw=>cases ht;simp [u4];show w.toArray.size≤1000;simpa using hw
theorem HK {x:oT} (h:xq x):Sep [mC x] (nB x):=by
 obtain ⟨op,n,v⟩:=x
 rcases h with ⟨h1,h2⟩|⟨h1,h2,h3,h4⟩|⟨h1,h2,h3⟩|⟨h1,h2,h3⟩
 ·have h1:op=10:=h1
  have h2:(n,v)=(0,v0):=h2
  cases h2
  subst h1
  intro p q
  exact Cz p q ([110,117,108,108]:List UInt8) ([63]:List UInt8)
 ·have h1:op=0:=h1
  subst h1
  exact .of rfl
 ·have h1:op=1:=h1
  have h2:n=0:=h2
  have h3:HC v:=h3
  subst h1;subst h2
  by_cases g1:v=(0,(0,e0))
  ·subst g1;exact .of rfl
  by_cases g2:v=(1,(0,e0))
  ·subst g2;exact .of rfl
  by_cases g3:v=(1,(1,e0))
  ·subst g3;exact .of rfl
  rcases h3 with h3|h3|h3|h3
  ·exact absurd h3 g1
  ·exact absurd h3 g2
  ·exact absurd h3 g3
  have e1:mC (1,(0,v))=bs (eR (1,(e0,v))):=by
   show rz v=_
   unfold rz
   rw [if_neg g1,if_neg g2,if_neg g3,if_pos (F2 h3)]
  have e2:nB (1,(0,v))=[(1,(e0,v))]:=by
   simp only [nB,if_neg g1,if_neg g2,if_neg g3]
   rfl
  rw [e1,e2]
  exact .of rfl
 ·have h1:2≤op:=h1
  have h2:op≤9:=h2
  have h3:(n,v)=(0,v0):=h3
  cases h3
  have:op=2∨op=3∨op=4∨op=5∨op=6∨op=7∨op=8∨op=9:=by omega
  rcases this with rfl|rfl|rfl|rfl|rfl|rfl|rfl|rfl<;>exact .of rfl
theorem F3:∀(e:List oT),(∀x∈e,xq x)→Sep (e.map mC) (e.flatMap nB):=by
 intro e
 induction e with
 |nil=>intro _;exact Sep.nil
 |cons x e ih=>
  intro h
  rw [List.flatMap_cons]
  exact Sep.app (a:=[mC x]) (HK (h x (by simp))) (ih fun y hy=>h y (List.mem_cons_of_mem _ hy))
theorem CA {e:List oT} (h:p3 e):Sep (nC e) (rf e):=.cons rfl (.app (F3 e h.1) (.cons rfl .nil))
theorem AY {α : Type} {f : α → List ByteArray} {g : α → List Tok} : ∀ (l : List α),(∀ x ∈ l,Sep (f x) (g x)) → Sep (ju f false l) (pZ g l) := by
  have go:∀(l:List α),l≠ []→(∀x∈l,Sep (f x) (g x))→Sep (ju f true l) (sg (⟨#[44]⟩:ByteArray)::pZ g l):=by
    intro l
    induction l with
    |nil=>intro h;exact absurd rfl h
    |cons x l ih=>
      intro _ h
      cases l with
      |nil=>
        have:ju f true [x]=(⟨#[44]⟩:ByteArray)::(f x++ []):=rfl
        rw [this,List.append_nil]
        exact .cons rfl (h x (by simp))
      |cons y l=>
        have e1:ju f true (x::y::l)=(⟨#[44]⟩:ByteArray)::(f x++ju f true (y::l)):=rfl
        have e2:pZ g (x::y::l)=g x++sg (⟨#[44]⟩:ByteArray)::pZ g (y::l):=rfl
        rw [e1,e2]
        exact .cons rfl (.app (h x (by simp)) (ih (by simp) fun z hz=>h z (List.mem_cons_of_mem _ hz)))
  intro l h
  cases l with
  |nil=>exact .nil
  |cons x l=>
    cases l with
    |nil=>
      have:ju f false [x]=[]++f x++ []:=rfl
      rw [this,List.append_nil,List.nil_append]
      exact h x (by simp)
    |cons y l=>
      have e1:ju f false (x::y::l)=[]++f x++ju f true (y::l):=rfl
      have e2:pZ g (x::y::l)=g x++sg (⟨#[44]⟩:ByteArray)::pZ g (y::l):=rfl
      rw [e1,e2,List.nil_append]
      exact .app (h x (by simp)) (go (y::l) (by simp) fun z hz=>h z (List.mem_cons_of_mem _ hz))
theorem rD {n:Int} {ws:List ByteArray} (h1:0≤n) (h2:n<ws.length):fO n ws=ws.getD n.toNat e0:=by
 unfold fO
 rw [if_neg (by omega)]
theorem Jl {c:Col} (h:HG c):Sep (nD c) (qo c):=by
 obtain ⟨h1,h2,h3,h4⟩:=h
 unfold nD qo
 rw [DK (by omega) (by omega),rD (by omega) (by show c.2.1-1<3;omega)]
 simp only [List.cons_append,List.nil_append]
 refine .cons rfl (.cons rfl (.app (b:=if c.2.2.1 then [wd (⟨#[110,117,108,108]⟩:ByteArray)] else []) ?_ (.app (b:=if c.2.2.2.1 then [wd (⟨#[117,110,105,113,117,101]⟩:ByteArray)] else []) ?_ ?_)))
 ·split
  ·exact .of rfl
  ·exact .nil
 ·split
  ·exact .of rfl
  ·exact .nil
 ·rcases h4 with ⟨h4,h5⟩|⟨h4,h5,h6⟩
  ·rw [if_pos h4,if_pos h4];exact .nil
  ·rw [if_neg (sX h4),if_neg (sX h4),rD h5 (by show c.2.2.2.2.2<3;omega)]
   exact .of rfl
theorem DL:∀(l:List (List oT)),(∀e∈l,p3 e)→Sep (l.flatMap p4) (l.flatMap fun e=>wd (⟨#[99,104,101,99,107]⟩:ByteArray)::rf e):=by
 intro l
 induction l with
 |nil=>intro _;exact .nil
 |cons e l ih=>
  intro h
  rw [List.flatMap_cons,List.flatMap_cons]
  exact .app (.cons rfl (CA (h e (by simp)))) (ih fun y hy=>h y (List.mem_cons_of_mem _ hy))
theorem F4 {t:Tab} (h:eI t):Sep (rA t) (tI t):=by
 unfold rA tI
 simp only [List.cons_append,List.nil_append,List.append_assoc]
 exact .cons rfl (.cons rfl (.cons rfl (.app (AY (f:=nD) (g:=qo) t.2.1 fun c hc=>Jl (h.cols c hc)) (.cons rfl (DL _ h.checks)))))
theorem HL (n:Int):Sep (kg n) (DD n):=.of rfl
theorem Jm {a:Agg} (h:Cs a):Sep (oU a) (DE a):=by
 obtain ⟨h1,h2,_⟩:=h
 unfold oU DE
 rw [rD h1 (by show a.1<4;omega)]
 refine .cons rfl ?_
 split
 ·exact .nil
 ·exact .of rfl
theorem HM {v:mJ} (h:tK v):Sep (xw v) (xo v):=by
 unfold xw xo
 simp only [List.cons_append,List.nil_append,List.append_assoc]
 refine .cons rfl (.cons rfl (.cons rfl (.cons rfl (.app (b:=if v.2.2.1=e0 then [] else wd (⟨#[106,111,105,110]⟩:ByteArray)::wd v.2.2.1::wd (⟨#[111,110]⟩:ByteArray)::numT v.2.2.2.1.1::sg (⟨#[61]⟩:ByteArray)::[numT v.2.2.2.1.2]) ?_ (.app (b:=if v.2.2.2.2.1=[] then [] else wd (⟨#[119,104,101,114,101]⟩:ByteArray)::rf v.2.2.2.2.1) ?_
  (.cons rfl (.app (AY (f:=kg) (g:=DD) v.2.2.2.2.2.1 fun n _=>HL n) (.app (b:=if v.2.2.2.2.2.2.1 then [wd (⟨#[103,114,111,117,112]⟩:ByteArray)] else []) ?_ (AY (f:=oU) (g:=DE) v.2.2.2.2.2.2.2 fun a ha=>Jm (h.aggs a ha))))))))))
 ·split
  ·exact .nil
  ·exact .of rfl
 ·split
  ·exact .nil
  ·exact .cons rfl (CA h.whr)
 ·split
  ·exact .of rfl
  ·exact .nil
theorem HN {d:Def} (h:lr d):nE d=fC ((HA d).map eR):=by
 cases h with
 |tab h=>exact (F4 h).join
 |view h=>exact (HM h).join
end Dl
end
section
namespace Go.Proofs.Ytleadolkcmagfaa
open Go Lv Go.Proofs Go.RowKit Go.Shelf Dl
abbrev lst (s:ByteArray) (i:Nat):List UInt8:=s.data.toList.drop i
theorem eP (s:ByteArray) (i:Nat):(lst s i).length=s.size-i:=by
 show (List.drop i s.data.toList).length=_
 rw [List.length_drop];rfl
theorem Jn {s:ByteArray} {i:Nat} (h:lst s i=[]):s.size≤i:=by
 have:=eP s i
 rw [h] at this;simp at this;omega
theorem ey {s:ByteArray} {i:Nat} {c:UInt8} {r:List UInt8} (h:lst s i=c::r):i<s.size∧lst s (i+1)=r∧eL s i=(c.toNat:Int):=by
 have hl:=eP s i
 rw [h] at hl
 simp at hl
 refine ⟨by omega,?_,?_⟩
 ·show List.drop (i+1) s.data.toList=r
  have:List.drop 1 (List.drop i s.data.toList)=r:=by rw [show List.drop i s.data.toList=c::r from h];rfl
  rw [List.drop_drop] at this
  exact this
 ·unfold eL
  rw [List.getD_eq_getElem?_getD]
  have:(List.drop i s.data.toList)[0]?=some c:=by rw [show List.drop i s.data.toList=c::r from h];rfl
  rw [List.getElem?_drop] at this
  rw [show i+0=i from rfl] at this
  rw [this];rfl
theorem mL {s:ByteArray} {i:Nat} (h:i<s.size):∃c r,lst s i=c::r:=by
 have hl:=eP s i
 cases e:lst s i with
 |nil=>rw [e] at hl;simp at hl;omega
 |cons c r=>exact ⟨c,r,rfl⟩
theorem ol (s:ByteArray) (i j:Nat) (hij:i≤j):s.extract i j=bs ((lst s i).take (j-i)):=by
 apply Go.WideShapes.bytes_inj
 rw [ByteArray.data_extract]
 simp [lst,List.extract_eq_take_drop]
def cls (c:UInt8):Int:=if fp c then 1 else if digit c then 2 else if c=95 then 3 else if c=39 then 4 else if c=32 then 5 else 0
theorem kA (c:UInt8) (n:Nat) (hn:n<256):((c.toNat:Int)==(n:Int))=decide (c=UInt8.ofNat n):=by
 by_cases h:c=UInt8.ofNat n
 ·subst h;simp;omega
 ·have:¬(c.toNat:Int)=(n:Int):=fun e=>h (by
   apply UInt8.toNat_inj.1
   simp;omega)
  rw [beq_eq_false_iff_ne.2 this];simp [h]
theorem HO (c:UInt8):er.F ((c.toNat:Int),())=some (cls c,()):=by
 rw [er.eq]
 unfold er.B cls fp digit
 have e1:((c.toNat:Int)==(95:Int))=decide (c=95):=kA c 95 (by decide)
 have e2:((c.toNat:Int)==(39:Int))=decide (c=39):=kA c 39 (by decide)
 have e3:((c.toNat:Int)==(32:Int))=decide (c=32):=kA c 32 (by decide)
 have i1:((c.toNat:Int)≥(97:Int))↔97≤c.toNat:=by omega
 have i2:((c.toNat:Int)≤(122:Int))↔c.toNat≤122:=by omega
 have i3:((c.toNat:Int)≥(48:Int))↔48≤c.toNat:=by omega
 have i4:((c.toNat:Int)≤(57:Int))↔c.toNat≤57:=by omega
 simp only [e1,e2,e3,i1,i2,i3,i4]
 clear i1 i2 i3 i4 e1 e2 e3
 by_cases h1:97≤c.toNat<;>by_cases h2:c.toNat≤122<;>by_cases h3:48≤c.toNat<;>by_cases h4:c.toNat≤57<;>simp [h1,h2,h3,h4,Hu]<;>(repeat' split)<;>rfl
theorem F5 {R:Type} (y:Int) (fin:Bool→R):∀(ks:List Int) (b:Bool),iQ (fun (k:Int) (b:Bool)=>Sum.inl (b||k==y)) fin ks b=fin (b||ks.any (· ==y)):=by
 intro ks
 induction ks with
 |nil=>intro b;simp [iQ]
 |cons k ks ih=>intro b;simp only [iQ,ih,List.any_cons,Bool.or_assoc]
abbrev inK (ks:List Int) (c:UInt8):Bool:=ks.any (· ==cls c)
theorem jp {p:UInt8→Bool} (l:List UInt8):l.dropWhile p=l.drop (l.takeWhile p).length:=by
 induction l with
 |nil=>rfl
 |cons a l ih=>simp only [List.takeWhile,List.dropWhile];split<;>simp [*]
theorem jq {p:UInt8→Bool} (l:List UInt8):l.takeWhile p=l.take (l.takeWhile p).length:=by
 induction l with
 |nil=>rfl
 |cons a l ih=>simp only [List.takeWhile];split<;>simp [←ih]
theorem KL (ks:List Int) (hk:ks.length<1000) (y:Int) {R Q:Type} (K:((Bool×Unit)⊕R)→Option Q):Option.bind (bF (S:=Bool×Int×Unit) (fun (x7',x36',_)=>
 (bif (decide (x36'<(ks.length:Int))) then
 bif (decide (0≤x36')&&decide (x36'<(ks.length:Int))) then
 let e3:Int:=(List.getD ks (Int.toNat x36') (0:Int))
 (bif x7' then
 let e4:Int:=(IntKind.i64.wrap (x36'+(1:Int)))
 some (.inl (true,e4,()))
 else
 let e5:Int:=(IntKind.i64.wrap (x36'+(1:Int)))
 some (.inl ((e3==y),e5,())))
 else none
 else
 some (.inr (.inl (x7',()))))) (false,(0:Int),()):Option ((Bool×Unit)⊕R)) K=K (.inl (ks.any (· ==y),())):=by
 rw [sS (mk:=fun (i:Int) (b:Bool)=>(b,i,())) (l:=ks) (I:=fun _ _=>True) (step:=fun k b=> .inl (b||k==y)) (fin:=fun b=> .inl (b,()))
  (fun i hi b _=>⟨?_,fun _ _=>trivial⟩) (fun b _=>?_) false trivial,F5]
 ·simp
 ·have d1:decide ((i:Int)<(ks.length:Int))=true:=by simp;omega
  have d0:decide (0≤(i:Int))=true:=by simp
  simp only [d1,d0,Bool.and_self,cond_true,Int.toNat_natCast,bV hi,cz hi (by omega)]
  cases b<;>simp
 ·have d1:decide ((ks.length:Int)<(ks.length:Int))=false:=by simp
  simp only [d1,cond_false]
theorem zU (ks : List Int) (hk : ks.length < 1000) (s : ByteArray) (hs : s.size ≤ 100000000) (i : Nat) (hi : i ≤ s.size) :
    ∃j:Nat,i≤j∧j≤s.size∧lst s j=(lst s i).dropWhile (inK ks)∧bf.F (ks,s,(i:Int),())=some (bs ((lst s i).takeWhile (inK ks)),s,(j:Int),()):=by
  have hj:i+((lst s i).takeWhile (inK ks)).length≤s.size:=by
    have h1:=jm (p:=inK ks) (lst s i)
    have h2:=eP s i
    omega
  refine ⟨i+((lst s i).takeWhile (inK ks)).length,by omega,hj,?_,?_⟩
  · show List.drop _ _=_
    rw [jp,←List.drop_drop]
  rw [bf.eq]
  unfold bf.B
  simp only []
  rw [fd (m:=fun x=>s.size-x.2.1.toNat) (I:=fun x=>x.1=s∧∃k:Nat,x.2.1=(k:Int)∧k≤s.size) (f:=fun x=> .inl (x.1,((x.2.1.toNat+((lst s x.2.1.toNat).takeWhile (inK ks)).length:Nat):Int),())) ?_ _ ⟨rfl,i,rfl,hi⟩]
  · simp only [Option.bind_some,Int.toNat_natCast]
    have c1:decide (0≤(i:Int))=true:=by simp
    have c2:decide ((i:Int)≤((i+((lst s i).takeWhile (inK ks)).length:Nat):Int))=true:=by simp;omega
    have c3:decide (((i+((lst s i).takeWhile (inK ks)).length:Nat):Int)≤(s.size:Int))=true:=by simp only [decide_eq_true_eq];omega
    rw [c1,c2,c3]
    simp only [Bool.and_self,cond_true,Int.toNat_natCast]
    rw [ol s i _ (by omega),show i+((lst s i).takeWhile (inK ks)).length-i=((lst s i).takeWhile (inK ks)).length by omega,←jq]
  · rintro ⟨a,b,⟨⟩⟩ ⟨ha,k,hk',hle⟩
    simp only at ha hk' hle
    subst ha
    subst hk'
    simp only [Int.toNat_natCast]
    by_cases hlt:k<a.size
    · obtain ⟨c,r,e⟩:=mL hlt
      obtain ⟨_,e1,e2⟩:=ey e
      have d1:decide ((k:Int)<(a.size:Int))=true:=by simp;omega
      have d0:decide (0≤(k:Int))=true:=by simp
      simp only [d1,d0,Bool.and_self,cond_true,e2,HO,Option.bind_some,KL ks hk,cz hlt (by omega)]
      by_cases hb:inK ks c=true
      · left
        have hb':(ks.any fun x=>x==cls c)=true:=hb
        simp only [hb',Bool.not_true,cond_false]
        refine ⟨_,rfl,⟨rfl,k+1,rfl,by omega⟩,by simp only [Int.toNat_natCast];omega,?_⟩
        simp only [Int.toNat_natCast]
        rw [e1,e]
        simp only [List.takeWhile_cons,hb,if_true,List.length_cons]
        congr 4
        omega
      · right
        have hb':(ks.any fun x=>x==cls c)=false:=by cases h:(ks.any fun x=>x==cls c) with|false=>rfl|true=>exact absurd h hb
        simp only [hb',Bool.not_false,cond_true]
        rw [e]
        simp only [List.takeWhile_cons,hb',Bool.false_eq_true,if_false,List.length_nil,Nat.add_zero]
    · right
      have:lst a k=[]:=by
        have:=eP a k
        exact List.length_eq_zero_iff.1 (by omega)
      have hd:decide ((k:Int)<(a.size:Int))=false:=by simp;omega
      simp only [this,hd,cond_false,List.takeWhile_nil,List.length_nil,Nat.add_zero]
theorem xx (c:UInt8):inK [1,2,3] c=cG c:=by
 simp only [inK,List.any_cons,List.any_nil,cls,cG]
 by_cases h3:c=95
 ·subst h3;decide
 ·cases h1:fp c<;>cases h2:digit c<;>simp [h1,h2,h3]<;>(repeat' split)<;>simp
theorem nF (c:UInt8):inK [2] c=digit c:=by
 simp only [inK,List.any_cons,List.any_nil,cls]
 by_cases h1:fp c=true
 ·have:digit c=false:=by
   simp only [fp,digit,Bool.and_eq_true,decide_eq_true_eq,Bool.and_eq_false_iff,decide_eq_false_iff_not] at h1 ⊢;omega
  simp [h1,this]
 ·by_cases h2:digit c=true<;>simp [h1,h2]<;>(repeat' split)<;>simp
theorem zV (c:UInt8):inK [5] c=decide (c=32):=by
 simp only [inK,List.any_cons,List.any_nil,cls]
 by_cases h:c=32
 ·subst h;decide
 ·simp only [h,decide_false,if_false]
  (repeat' split)<;>simp
def hd8:List UInt8→Int
 | []=>0
 |c::_=>(c.toNat:Int)
theorem p5 (k:Nat) (s:ByteArray) (hs:s.size≤100000000) (i:Nat) (hk:i+k<9223372036854775808):
 aI.F ((k:Int),s,(i:Int),())=some (hd8 (lst s (i+k)),s,(i:Int),()):=by
 rw [aI.eq]
 unfold aI.B
 have e:IntKind.i64.wrap ((i:Int)+(k:Int))=((i+k:Nat):Int):=by rw [dn]<;>omega
 simp only [e]
 by_cases h:i+k<s.size
 ·obtain ⟨c,r,hc⟩:=mL h
  obtain ⟨_,e1,e2⟩:=ey hc
  have d1:decide (((i+k:Nat):Int)≥(s.size:Int))=false:=by simp;omega
  have d2:decide (0≤((i+k:Nat):Int))=true:=by simp;omega
  have d3:decide (((i+k:Nat):Int)<(s.size:Int))=true:=by simp;omega
  simp only [d1,d2,d3,cond_false,Bool.and_self,cond_true,Int.toNat_natCast,e2,hc,hd8]
 ·have:lst s (i+k)=[]:=by
   have:=eP s (i+k)
   exact List.length_eq_zero_iff.1 (by omega)
  have d1:decide (((i+k:Nat):Int)≥(s.size:Int))=true:=by simp;omega
  simp only [d1,cond_true,this,hd8]
theorem iX {p q:UInt8→Bool} (h:∀c,p c=q c) (l:List UInt8):l.takeWhile p=l.takeWhile q:=by rw [show p=q from funext h]
theorem gX {p q:UInt8→Bool} (h:∀c,p c=q c) (l:List UInt8):l.dropWhile p=l.dropWhile q:=by rw [show p=q from funext h]
theorem KM (s:ByteArray) (hs:s.size≤100000000) (i:Nat) (hi:i≤s.size):
 ∃j:Nat,i≤j∧j≤s.size∧lst s j=(lst s i).dropWhile cG∧bp.F (s,(i:Int),())=some (0,bs ((lst s i).takeWhile cG),0,0,e0,decide (((lst s i).takeWhile cG).length≤30),s,(j:Int),()):=by
 obtain ⟨j,h1,h2,h3,h4⟩:=zU [1,2,3] (by decide) s hs i hi
 rw [gX xx] at h3
 rw [iX xx] at h4
 refine ⟨j,h1,h2,h3,?_⟩
 rw [bp.eq]
 unfold bp.B
 simp only [h4,Option.bind_some]
 have:decide (((bs ((lst s i).takeWhile cG)).size:Int)≤(30:Int))=decide (((lst s i).takeWhile cG).length≤30):=by
  have:(bs ((lst s i).takeWhile cG)).size=((lst s i).takeWhile cG).length:=by simp [bs,ByteArray.size]
  rw [this]
  simp
  omega
 rw [this]
theorem cT (l:List UInt8):(bs l).size=l.length:=by simp [bs,ByteArray.size]
theorem jF (a b:List UInt8):bs a++bs b=bs (a++b):=by
 apply Go.WideShapes.bytes_inj
 simp [bs]
theorem rF (a b:List UInt8):((bs a).toList==(bs b).toList)=decide (a=b):=by
 rw [dZ]
 by_cases h:a=b
 ·subst h;simp
 ·have:bs a≠bs b:=fun e=>h (by have:=congrArg (fun x:ByteArray=>x.data.toList) e;simpa using this)
  simp [h,this]
theorem xy {w : List UInt8} {v : Int} (h : Lib.atoiAll w = .ok v) : -9223372036854775808 ≤ v ∧ v ≤ 9223372036854775807 := by
  unfold Lib.atoiAll at h
  split at h
  · cases h
  · simp only at h
    split at h
    · cases h
    · cases h
    · split at h
      · cases h
      · split at h
        · cases h
        · cases h
          split<;>omega
theorem AZ {Q:Type} (w:List UInt8) (hw:w.length≤100000001) (K:TS bW.so→Option Q):Option.bind (bW.F (bs w,())) K=K ((iH (bs w)).1,(iH (bs w)).2,()):=by
 have ha:bW.F (bs w,())=some ((iH (bs w)).1,(iH (bs w)).2,()):=by
  rw [bW.eq]
  show zR (bs w,())=_
  unfold zR
  simp only
  rw [if_pos (by rw [cT];omega)]
 rw [ha];rfl
theorem A0 {Q:Type} (v:Int) (h1:-9223372036854775808≤v) (h2:v≤9223372036854775807) (K:TS strconv_Itoa.so→Option Q):Option.bind (strconv_Itoa.F (v,())) K=K (bs (Lib.itoa v),()):=by
 have ha:strconv_Itoa.F (v,())=some (bs (Lib.itoa v),()):=by
  rw [strconv_Itoa.eq]
  show EI (v,())=_
  unfold EI
  simp only
  rw [if_pos ⟨h1,h2⟩]
  rfl
 rw [ha];rfl
theorem HP (s : ByteArray) (hs : s.size ≤ 100000000) (i : Nat) {c : UInt8} {r : List UInt8} (hc : lst s i = c :: r) (hd : digit c = true ∨ (c = 45 ∧ gD r = true)) :
    ∃ j : Nat,i < j ∧ j ≤ s.size ∧ lst s j = r.dropWhile digit ∧ match pY (c :: r.takeWhile digit) with
      |some n=>aQ.F (s,(i:Int),())=some (1,e0,2,n,e0,true,s,(j:Int),())
      |none=>∃n,aQ.F (s,(i:Int),())=some (1,e0,2,n,e0,false,s,(j:Int),()):=by
  obtain ⟨hi,h1,_⟩:=ey hc
  have hp:=p5 0 s hs i (by omega)
  rw [show i+0=i from rfl,hc] at hp
  rw [aQ.eq]
  unfold aQ.B
  have hp':aI.F ((0:Int),s,(i:Int),())=some ((c.toNat:Int),s,(i:Int),()):=hp
  simp only [hp',Option.bind_some]
  have key:∀(w:List UInt8) (hw:w.length≤100000001) (j:Nat),Option.bind (bW.F (bs w,())) (fun y6=>
      (bif y6.2.1 then Option.bind (strconv_Itoa.F (y6.1,())) fun y7=>
        some ((1:Int),(⟨#[]⟩:ByteArray),(2:Int),y6.1,(⟨#[]⟩:ByteArray),(y7.1.toList==(bs w).toList),s,(j:Int),())
      else some ((1:Int),(⟨#[]⟩:ByteArray),(2:Int),y6.1,(⟨#[]⟩:ByteArray),false,s,(j:Int),())))=match pY w with
      |some n=>some (1,e0,2,n,e0,true,s,(j:Int),())
      |none=>some (1,e0,2,(iH (bs w)).1,e0,false,s,(j:Int),()):=by
    intro w hw j
    rw [AZ w hw]
    show (bif (iH (bs w)).2 then Option.bind (strconv_Itoa.F ((iH (bs w)).1,())) fun y7=>some ((1:Int),(⟨#[]⟩:ByteArray),(2:Int),(iH (bs w)).1,(⟨#[]⟩:ByteArray),(y7.1.toList==(bs w).toList),s,(j:Int),())
      else some ((1:Int),(⟨#[]⟩:ByteArray),(2:Int),(iH (bs w)).1,(⟨#[]⟩:ByteArray),false,s,(j:Int),()))=_
    unfold iH pY
    simp only [jK]
    cases h:Lib.atoiAll w with
    |ok v=>
      obtain ⟨b1,b2⟩:=xy h
      simp only [cond_true]
      rw [A0 v b1 b2]
      show some ((1:Int),(⟨#[]⟩:ByteArray),(2:Int),v,(⟨#[]⟩:ByteArray),((bs (Lib.itoa v)).toList==(bs w).toList),s,(j:Int),())=_
      rw [rF]
      by_cases hc:Lib.itoa v=w<;>simp [hc]
    |_=>simp
  have fin:∀(w:List UInt8) (hw:w.length≤100000001) (j:Nat),match pY w with
      |some n=>Option.bind (bW.F (bs w,())) (fun y6=>
      (bif y6.2.1 then Option.bind (strconv_Itoa.F (y6.1,())) fun y7=>
        some ((1:Int),(⟨#[]⟩:ByteArray),(2:Int),y6.1,(⟨#[]⟩:ByteArray),(y7.1.toList==(bs w).toList),s,(j:Int),())
      else some ((1:Int),(⟨#[]⟩:ByteArray),(2:Int),y6.1,(⟨#[]⟩:ByteArray),false,s,(j:Int),())))=some (1,e0,2,n,e0,true,s,(j:Int),())
      |none=>∃n,Option.bind (bW.F (bs w,())) (fun y6=>
      (bif y6.2.1 then Option.bind (strconv_Itoa.F (y6.1,())) fun y7=>
        some ((1:Int),(⟨#[]⟩:ByteArray),(2:Int),y6.1,(⟨#[]⟩:ByteArray),(y7.1.toList==(bs w).toList),s,(j:Int),())
      else some ((1:Int),(⟨#[]⟩:ByteArray),(2:Int),y6.1,(⟨#[]⟩:ByteArray),false,s,(j:Int),())))=some (1,e0,2,n,e0,false,s,(j:Int),()):=by
    intro w hw j
    have:=key w hw j
    cases h:pY w with
    |none=>rw [h] at this;exact ⟨_,this⟩
    |some n=>rw [h] at this;exact this
  have hl:=eP s i
  rw [hc] at hl
  simp only [List.length_cons] at hl
  have ht:=jm (p:=digit) r
  by_cases h45:c=45
  · subst h45
    have e1:(((45:UInt8).toNat:Int)==(45:Int))=true:=by decide
    have e2:IntKind.i64.wrap ((i:Int)+(1:Int))=((i+1:Nat):Int):=cz hi (by omega)
    obtain ⟨j,g1,g2,g3,g4⟩:=zU [2] (by decide) s hs (i+1) (by omega)
    rw [h1] at g3 g4
    rw [gX nF] at g3
    rw [iX nF] at g4
    refine ⟨j,by omega,g2,g3,?_⟩
    simp only [e1,cond_true,e2,Option.bind_some,g4]
    have e3:(!decide (((((⟨#[45]⟩:ByteArray).size+(bs (r.takeWhile digit)).size:Nat)):Int)>IntKind.i64.max))=true:=by
      rw [cT,cT]
      have:IntKind.i64.max=9223372036854775807:=by decide
      rw [this]
      simp
      omega
    simp only [e3,cond_true]
    rw [show (⟨#[45]⟩:ByteArray)=bs [45] from rfl,jF]
    exact fin (45::r.takeWhile digit) (by simp;omega) j
  · have hd':digit c=true:=by rcases hd with hd|hd;exact hd;exact absurd hd.1 h45
    have e1:((c.toNat:Int)==(45:Int))=false:=by
      have:=kA c 45 (by decide)
      have h':((c.toNat:Int)==(45:Int))=decide (c=45):=this
      rw [h'];simp [h45]
    obtain ⟨j,g1,g2,g3,g4⟩:=zU [2] (by decide) s hs i (by omega)
    rw [hc] at g3 g4
    rw [gX nF,List.dropWhile_cons,if_pos hd'] at g3
    rw [iX nF,List.takeWhile_cons,if_pos hd'] at g4
    have hj:i<j:=by
      have a1:=eP s j
      rw [g3] at a1
      have:=jJ (p:=digit) r
      omega
    refine ⟨j,hj,g2,g3,?_⟩
    simp only [e1,cond_false,Option.bind_some,g4]
    have e3:(!decide (((((⟨#[]⟩:ByteArray).size+(bs (c::r.takeWhile digit)).size:Nat)):Int)>IntKind.i64.max))=true:=by
      rw [cT,cT]
      have:IntKind.i64.max=9223372036854775807:=by decide
      rw [this]
      simp
      omega
    simp only [e3,cond_true]
    rw [show (⟨#[]⟩:ByteArray)=bs [] from rfl,jF]
    exact fin (c::r.takeWhile digit) (by simp;omega) j
abbrev i8 (l:List UInt8):List Int:=l.map fun c=>(c.toNat:Int)
theorem Jo {R Q : Type} {body : ByteArray × Int × (List Int) × Unit → Option ((ByteArray × Int × (List Int) × Unit) ⊕ R)} {K : R → Option Q} (s : ByteArray) (resT : List UInt8 → Nat → R) (resN : List Int → R) (q : Option Q)
    (hK:∀acc,K (resN acc)=q)
    (h0:∀acc,body (s,(s.size:Int),acc,())=some (.inr (resN acc)))
    (h1:∀k acc r,lst s k=39::39::r→acc.length≤k→body (s,(k:Int),i8 acc,())=some (.inl (s,((k+2:Nat):Int),i8 (acc++ [39]),())))
    (h2:∀k acc r,lst s k=39::r→r.head?≠some 39→body (s,(k:Int),i8 acc,())=some (.inr (resT acc (k+1))))
    (h3:∀k acc c r,lst s k=c::r→c≠39→acc.length≤k→body (s,(k:Int),i8 acc,())=some (.inl (s,((k+1:Nat):Int),i8 (acc++ [c]),()))):
    ∀ (n k : Nat) (acc : List UInt8),s.size - k ≤ n → k ≤ s.size → acc.length ≤ k → Option.bind (bF body (s,(k : Int),i8 acc,())) K = match gH (lst s k) with
      |some x=>K (resT (acc++x.1) (s.size-x.2.length))
      |none=>q:=by
  intro n
  induction n with
  |zero=>
    intro k acc hn hk ha
    have hk':k=s.size:=by omega
    subst hk'
    have:lst s s.size=[]:=by
      have:=eP s s.size
      exact List.length_eq_zero_iff.1 (by omega)
    rw [ek,h0,this]
    exact hK _
  |succ n ih=>
    intro k acc hn hk ha
    cases e:lst s k with
    |nil=>
      have hk':k=s.size:=by have:=Jn e;omega
      subst hk'
      rw [ek,h0]
      exact hK _
    |cons c r=>
      obtain ⟨e1,e2,_⟩:=ey e
      rw [gt]
      by_cases hc:c=39
      · subst hc
        rw [if_pos rfl]
        cases r with
        |nil=>
          rw [ek,h2 k acc [] e (by simp)]
          have:=eP s k
          rw [e] at this
          simp at this
          simp only [Option.bind_some,List.append_nil,List.length_nil]
          rw [show k+1=s.size-0 by omega]
        |cons d r'=>
          obtain ⟨f1,f2,_⟩:=ey e2
          by_cases hd:d=39
          · subst hd
            simp only [if_true]
            rw [ek,h1 k acc r' e ha]
            simp only
            rw [ih (k+2) (acc++ [39]) (by omega) (by omega) (by simp;omega),f2]
            cases gH r' with
            |none=>rfl
            |some x=>simp
          · simp only [if_neg hd]
            rw [ek,h2 k acc (d::r') e (by simpa using hd)]
            have:=eP s k
            rw [e] at this
            simp at this
            simp only [Option.bind_some,List.append_nil,List.length_cons]
            rw [show k+1=s.size-(r'.length+1) by omega]
      · rw [if_neg hc,ek,h3 k acc c r e hc ha]
        simp only
        rw [ih (k+1) (acc++ [c]) (by omega) (by omega) (by simp;omega),e2]
        cases gH r with
        |none=>rfl
        |some x=>simp
theorem xz {s:ByteArray} {i:Nat} {r:List UInt8} {j:Nat} (h:∃p,lst s i=p++r) (hi:i≤s.size) (hj:j=s.size-r.length):lst s j=r∧i≤j∧j≤s.size:=by
 obtain ⟨p,h⟩:=h
 have hl:=eP s i
 rw [h] at hl
 simp at hl
 have hj':j=i+p.length:=by omega
 refine ⟨?_,by omega,by omega⟩
 rw [hj']
 show List.drop (i+p.length) s.data.toList=r
 rw [←List.drop_drop]
 show List.drop p.length (lst s i)=r
 rw [h]
 simp
theorem DM (l:List UInt8):bytesOf (i8 l)=bs l:=by
 unfold bytesOf
 simp only [List.map_map]
 congr 2
 conv=>rhs;rw [←List.map_id l]
 apply List.map_congr_left
 intro c _
 simp
theorem KN {Q:Type} (w:List UInt8) (K:TS aV.so→Option Q):Option.bind (aV.F (i8 w,())) K=K (bs w,()):=by
 have ha:aV.F (i8 w,())=some (bs w,()):=by
  rw [aV.eq]
  show (if (∀x∈i8 w,0≤x∧x<256) then some (bytesOf (i8 w),()) else none)=_
  rw [if_pos,DM]
  intro x hx
  obtain ⟨c,_,rfl⟩:=List.mem_map.1 hx
  have:=c.toNat_lt
  refine ⟨Int.natCast_nonneg _,?_⟩
  show (c.toNat:Int)<256
  omega
 rw [ha];rfl
theorem cc_b {Q:Type} (w:List Int) (K:TS aH.so→Option Q):Option.bind (aH.F (w,())) K=K (w,()):=by
 have ha:aH.F (w,())=some (w,()):=by
  rw [aH.eq]
  rfl
 rw [ha];rfl
theorem wb_s (w:List UInt8) (c:UInt8) (hw:w.length≤100000000):au.F ((c.toNat:Int),i8 w,())=some (true,i8 (w++ [c]),()):=by
 rw [au.eq]
 unfold au.B
 show Option.bind (aH.F (i8 w,())) _=_
 rw [cc_b]
 show (bif (Nat.ble ((i8 w).length+ [(c.toNat:Int)].length) 140737488355328) then some (true,(i8 w++ [(c.toNat:Int)]),()) else none)=_
 have:Nat.ble ((i8 w).length+ [(c.toNat:Int)].length) 140737488355328=true:=by
  rw [Nat.ble_eq];simp;omega
 rw [this]
 simp
theorem F6 (w:List UInt8):cA.F ((3:Int),(0:Int),bs w,())=some (decide (w.length≤1000),()):=by
 rw [cA.eq]
 unfold cA.B
 have:decide (((bs w).size:Int)≤(1000:Int))=decide (w.length≤1000):=by
  rw [cT];simp;omega
 simp only [this]
 rfl
theorem KO (s : ByteArray) (hs : s.size ≤ 100000000) (i : Nat) {r : List UInt8} (hc : lst s i = 39 :: r) :
    match gH r with
    |some x=>∃j,i<j∧j≤s.size∧lst s j=x.2∧aZ.F (s,(i:Int),())=some (1,e0,3,0,bs x.1,decide (x.1.length≤1000),s,(j:Int),())
    |none=>aZ.F (s,(i:Int),())=some (0,e0,0,0,e0,false,s,(s.size:Int),()):=by
  obtain ⟨hi,h1,_⟩:=ey hc
  have key:aZ.F (s,(i:Int),())=match gH r with
      |some x=>some (1,e0,3,0,bs x.1,decide (x.1.length≤1000),s,((s.size-x.2.length:Nat):Int),())
      |none=>some (0,e0,0,0,e0,false,s,(s.size:Int),()):=by
    rw [aZ.eq]
    unfold aZ.B
    simp only [cz hi (show s.size<9223372036854775808 by omega)]
    have h0:([]:List Int)=i8 []:=rfl
    rw [h0]
    rw [Jo s (fun w j=> .inr (1,e0,3,0,bs w,decide (w.length≤1000),s,(j:Int),())) (fun acc=> .inl (s,(s.size:Int),acc,())) (some (0,e0,0,0,e0,false,s,(s.size:Int),())) (fun acc=>rfl) ?_ ?_ ?_ ?_ (s.size-(i+1)) (i+1) [] (Nat.le_refl _) (by omega) (by simp),h1]
    · cases gH r with
      |none=>rfl
      |some x=>simp
    · intro acc
      have:decide ((s.size:Int)<(s.size:Int))=false:=by simp
      simp only [this,cond_false]
    · intro k acc r' e ha
      obtain ⟨e1,e2,_⟩:=ey e
      obtain ⟨f1,f2,_⟩:=ey e2
      have d1:decide ((k:Int)<(s.size:Int))=true:=by simp;omega
      have hp:=p5 0 s hs k (by omega)
      have hp2:=p5 0 s hs (k+1) (by omega)
      rw [show k+0=k from rfl,e] at hp
      rw [show k+1+0=k+1 from rfl,e2] at hp2
      have hp':aI.F ((0:Int),s,(k:Int),())=some (((39:UInt8).toNat:Int),s,(k:Int),()):=hp
      have hp2':aI.F ((0:Int),s,((k+1:Nat):Int),())=some (((39:UInt8).toNat:Int),s,((k+1:Nat):Int),()):=hp2
      have b1:(((39:UInt8).toNat:Int)==(39:Int))=true:=by decide
      have b2:(((39:UInt8).toNat:Int) !=(39:Int))=false:=by decide
      have b3:decide ((((k+1:Nat):Int))≥(s.size:Int))=false:=by simp;omega
      simp only [d1,cond_true,hp',Option.bind_some,b1,cz e1 (show s.size<9223372036854775808 by omega),hp2',b2,cond_false,b3,wb_s acc 39 (by omega),cz f1 (show s.size<9223372036854775808 by omega)]
    · intro k acc r' e hh
      obtain ⟨e1,e2,_⟩:=ey e
      have d1:decide ((k:Int)<(s.size:Int))=true:=by simp;omega
      have hp:=p5 0 s hs k (by omega)
      have hp2:=p5 0 s hs (k+1) (by omega)
      rw [show k+0=k from rfl,e] at hp
      rw [show k+1+0=k+1 from rfl,e2] at hp2
      have hp':aI.F ((0:Int),s,(k:Int),())=some (((39:UInt8).toNat:Int),s,(k:Int),()):=hp
      have b1:(((39:UInt8).toNat:Int)==(39:Int))=true:=by decide
      have b2:(hd8 r' !=(39:Int))=true:=by
        cases r' with
        |nil=>decide
        |cons d q=>
          have hd:d≠39:=by simpa using hh
          have hu:((d.toNat:Int)==(39:Int))=decide (d=39):=kA d 39 (by decide)
          simp only [hd8,bne,hu,hd,decide_false,Bool.not_false]
      have hp2':aI.F ((0:Int),s,((k+1:Nat):Int),())=some (hd8 r',s,((k+1:Nat):Int),()):=hp2
      simp only [d1,cond_true,hp',Option.bind_some,b1,cz e1 (show s.size<9223372036854775808 by omega),hp2',b2]
      rw [KN]
      simp only [F6,Option.bind_some]
    · intro k acc c r' e hc' ha
      obtain ⟨e1,e2,_⟩:=ey e
      have d1:decide ((k:Int)<(s.size:Int))=true:=by simp;omega
      have hp:=p5 0 s hs k (by omega)
      rw [show k+0=k from rfl,e] at hp
      have hp':aI.F ((0:Int),s,(k:Int),())=some ((c.toNat:Int),s,(k:Int),()):=hp
      have b1:((c.toNat:Int)==(39:Int))=false:=by
        have hu:((c.toNat:Int)==(39:Int))=decide (c=39):=kA c 39 (by decide)
        rw [hu];simp [hc']
      simp only [d1,cond_true,hp',Option.bind_some,b1,cond_false,wb_s acc c (by omega),cz e1 (show s.size<9223372036854775808 by omega)]
  cases ht:gH r with
  |none=>rw [ht] at key;exact key
  |some x=>
    rw [ht] at key
    obtain ⟨a1,a2⟩:=tF _ r (Nat.le_refl _) x ht
    have hp:∃p,lst s (i+1)=p++x.2:=⟨dbl x.1++ [39],by rw [h1,a1];simp⟩
    obtain ⟨b1,b2,b3⟩:=xz (s:=s) (i:=i+1) (r:=x.2) (j:=s.size-x.2.length) hp (by omega) rfl
    exact ⟨_,by omega,b3,b1,key⟩
theorem A1:∀n,n<256→Lib.contains fB [UInt8.ofNat n]=decide (UInt8.ofNat n∈fB):=by decide+kernel
theorem yp (c:UInt8):Lib.contains fB [c]=decide (c∈fB):=by
 have:=A1 c.toNat c.toNat_lt
 simpa using this
theorem DN {Q:Type} (c:UInt8) (K:TS strings_Contains.so→Option Q):Option.bind (strings_Contains.F ((⟨#[40,41,91,93,44,61,60,43,45,42,63]⟩:ByteArray),bs [c],())) K=K (decide (c∈fB),()):=by
 have ha:strings_Contains.F ((⟨#[40,41,91,93,44,61,60,43,45,42,63]⟩:ByteArray),bs [c],())=some (decide (c∈fB),()):=by
  rw [strings_Contains.eq]
  show qn _=_
  unfold qn
  simp only
  rw [if_pos (by decide),←yp]
  rfl
 rw [ha];rfl
theorem F7 (c:UInt8):(cls c==4)=decide (c=39):=by
 unfold cls
 by_cases h:c=39
 ·subst h;decide
 ·simp only [h,decide_false,if_false]
  (repeat' split)<;>rfl
theorem xA (c:UInt8):(cls c==1)=fp c:=by
 unfold cls
 cases h:fp c
 ·simp;(repeat' split)<;>simp
 ·simp
theorem zW (c:UInt8):(cls c==2)=digit c:=by
 have:=nF c
 simpa [inK,eq_comm,BEq.comm] using this
def Kk:List UInt8→Int
 | []=>0
 |d::_=>cls d
theorem Jp (s : ByteArray) (hs : s.size ≤ 100000000) (i : Nat) {c : UInt8} {r : List UInt8} (hc : lst s i = c :: r) :
    match jc (c::r) with
    |some x=>∃j:Nat,i<j∧j≤s.size∧lst s j=x.2∧bc.F (s,(i:Int),())=some (x.1.1,x.1.2.1,x.1.2.2.1,x.1.2.2.2.1,x.1.2.2.2.2,true,s,(j:Int),())
    |none=>∃a b d e f j,bc.F (s,(i:Int),())=some (a,b,d,e,f,false,s,j,()):=by
  obtain ⟨hi,h1,_⟩:=ey hc
  have hp:=p5 0 s hs i (by omega)
  rw [show i+0=i from rfl,hc] at hp
  have hp':aI.F ((0:Int),s,(i:Int),())=some ((c.toNat:Int),s,(i:Int),()):=hp
  have hq:=p5 1 s hs i (by omega)
  rw [h1] at hq
  have hq':aI.F ((1:Int),s,(i:Int),())=some (hd8 r,s,(i:Int),()):=hq
  rw [bc.eq]
  unfold bc.B
  simp only [hp',Option.bind_some,HO,xA,zW,F7,hq']
  have hd8_of:er.F (hd8 r,())=some (Kk r,()):=by
    cases r with
    |nil=>exact (HO 0)
    |cons d r'=>exact HO d
  have hd8_d:(Kk r==2)=gD r:=by
    cases r with
    |nil=>rfl
    |cons d r'=>exact zW d
  have h45:((c.toNat:Int)==(45:Int))=decide (c=45):=kA c 45 (by decide)
  simp only [hd8_of,Option.bind_some,hd8_d,h45]
  simp only [jc]
  cases hl:fp c with
  |true=>
    simp only [cond_true,if_true]
    obtain ⟨j,g1,g2,g3,g4⟩:=KM s hs i (by omega)
    rw [hc] at g3 g4
    have hin:cG c=true:=by simp [cG,hl]
    rw [List.dropWhile_cons,if_pos hin] at g3
    rw [List.takeWhile_cons,if_pos hin] at g4
    rw [g4]
    simp only [Option.bind_some]
    by_cases hn:(c::r.takeWhile cG).length≤30
    · rw [if_pos hn]
      refine ⟨j,?_,g2,g3,?_⟩
      · have a1:=eP s j
        have a2:=eP s i
        rw [g3] at a1
        rw [hc] at a2
        have:=jJ (p:=cG) r
        simp at a2
        omega
      · simp only [hn,decide_true]
        rfl
    · rw [if_neg hn]
      simp only [hn,decide_false]
      exact ⟨_,_,_,_,_,_,rfl⟩
  | false =>
    simp only [cond_false,Bool.false_eq_true,if_false]
    have num:(digit c=true∨(c=45∧gD r=true))→match (pY (c::r.takeWhile digit)).map fun n=>(numT n,r.dropWhile digit) with
      |some x=>∃j:Nat,i<j∧j≤s.size∧lst s j=x.2∧(Option.bind (aQ.F (s,(i:Int),())) fun y7=>some (y7.1,y7.2.1,y7.2.2.1,y7.2.2.2.1,y7.2.2.2.2.1,y7.2.2.2.2.2.1,y7.2.2.2.2.2.2.1,y7.2.2.2.2.2.2.2.1,()))=some (x.1.1,x.1.2.1,x.1.2.2.1,x.1.2.2.2.1,x.1.2.2.2.2,true,s,(j:Int),())
      |none=>∃a b d e f j,(Option.bind (aQ.F (s,(i:Int),())) fun y7=>some (y7.1,y7.2.1,y7.2.2.1,y7.2.2.2.1,y7.2.2.2.2.1,y7.2.2.2.2.2.1,y7.2.2.2.2.2.2.1,y7.2.2.2.2.2.2.2.1,()))=some (a,b,d,e,f,false,s,j,()):=by
      intro hd
      obtain ⟨j,g1,g2,g3,g4⟩:=HP s hs i hc hd
      cases hn:pY (c::r.takeWhile digit) with
      |none=>
        rw [hn] at g4
        obtain ⟨n,g4⟩:=g4
        rw [g4]
        exact ⟨_,_,_,_,_,_,rfl⟩
      |some n=>
        rw [hn] at g4
        exact ⟨j,g1,g2,g3,by rw [g4];rfl⟩
    have w1:IntKind.i64.wrap ((i:Int)+(1:Int))=((i+1:Nat):Int):=cz hi (by omega)
    have w2:IntKind.i64.wrap (((i+1:Nat):Int)-(1:Int))=(i:Int):=by rw [dn]<;>omega
    have w3:(decide (0≤(i:Int))&&(decide ((i:Int)≤((i+1:Nat):Int))&&decide (((i+1:Nat):Int)≤(s.size:Int))))=true:=by simp;omega
    have w4:s.extract i (i+1)=bs [c]:=by rw [ol s i (i+1) (by omega),hc];simp
    have sgn:match (if c=39 then (gH r).bind fun x=>if x.1.length≤1000 then some (textT x.1,x.2) else none else if c∈fB then some (signT c,r) else none) with
      |some x=>∃j:Nat,i<j∧j≤s.size∧lst s j=x.2∧(bif decide (c=39) then Option.bind (aZ.F (s,(i:Int),())) fun y8=>some (y8.1,y8.2.1,y8.2.2.1,y8.2.2.2.1,y8.2.2.2.2.1,y8.2.2.2.2.2.1,y8.2.2.2.2.2.2.1,y8.2.2.2.2.2.2.2.1,()) else
          Option.bind (strings_Contains.F ((⟨#[40,41,91,93,44,61,60,43,45,42,63]⟩:ByteArray),bs [c],())) fun y12=>some ((2:Int),bs [c],(0:Int),(0:Int),(⟨#[]⟩:ByteArray),y12.1,s,((i+1:Nat):Int),()))=some (x.1.1,x.1.2.1,x.1.2.2.1,x.1.2.2.2.1,x.1.2.2.2.2,true,s,(j:Int),())
      |none=>∃a b d e f j,(bif decide (c=39) then Option.bind (aZ.F (s,(i:Int),())) fun y8=>some (y8.1,y8.2.1,y8.2.2.1,y8.2.2.2.1,y8.2.2.2.2.1,y8.2.2.2.2.2.1,y8.2.2.2.2.2.2.1,y8.2.2.2.2.2.2.2.1,()) else
          Option.bind (strings_Contains.F ((⟨#[40,41,91,93,44,61,60,43,45,42,63]⟩:ByteArray),bs [c],())) fun y12=>some ((2:Int),bs [c],(0:Int),(0:Int),(⟨#[]⟩:ByteArray),y12.1,s,((i+1:Nat):Int),()))=some (a,b,d,e,f,false,s,j,()):=by
      by_cases h9:c=39
      · subst h9
        have ht:=KO s hs i hc
        simp only [if_true,decide_true,cond_true]
        cases hx:gH r with
        |none=>
          rw [hx] at ht
          simp only [Option.bind_none]
          rw [ht]
          exact ⟨_,_,_,_,_,_,rfl⟩
        |some x=>
          rw [hx] at ht
          obtain ⟨j,g1,g2,g3,g4⟩:=ht
          simp only [Option.bind_some]
          rw [g4]
          by_cases hn:x.1.length≤1000
          · rw [if_pos hn]
            exact ⟨j,g1,g2,g3,by simp only [hn,decide_true,Option.bind_some];rfl⟩
          · rw [if_neg hn]
            simp only [hn,decide_false,Option.bind_some]
            exact ⟨_,_,_,_,_,_,rfl⟩
      · simp only [h9,if_false,decide_false,cond_false]
        rw [DN]
        by_cases hg:c∈fB
        · rw [if_pos hg]
          exact ⟨i+1,by omega,by omega,h1,by simp only [hg,decide_true];rfl⟩
        · rw [if_neg hg]
          simp only [hg,decide_false]
          exact ⟨_,_,_,_,_,_,rfl⟩
    cases hd:digit c with
    |true=>
      simp only [cond_true,Option.bind_some,Bool.true_or,if_true]
      exact num (.inl hd)
    |false=>
      simp only [cond_false,Bool.false_or]
      by_cases h5:c=45
      · subst h5
        simp only [decide_true,cond_true,Option.bind_some,Bool.true_and]
        cases hh:gD r with
        |true=>
          simp only [cond_true,if_true]
          exact num (.inr ⟨rfl,hh⟩)
        |false=>
          simp only [cond_false,Bool.false_eq_true,if_false,w1,w2,w3,cond_true,Int.toNat_natCast,w4]
          exact sgn
      · simp only [h5,decide_false,cond_false,Option.bind_some,Bool.false_and,Bool.false_eq_true,if_false,w1,w2,w3,cond_true,Int.toNat_natCast,w4]
        exact sgn
theorem uQ (l:List UInt8):jC (l.dropWhile (inK [5]))=jC l:=by
 rw [gX zV]
 induction l with
 |nil=>rfl
 |cons c l ih=>
  by_cases h:c=32
  ·subst h
   rw [List.dropWhile_cons,if_pos (by decide),ih,oi]
  ·rw [List.dropWhile_cons,if_neg (by simpa using h)]
theorem uR (l:List UInt8):(l.dropWhile (inK [5])).head?≠some 32:=by
 rw [gX zV]
 induction l with
 |nil=>simp
 |cons c l ih=>
  by_cases h:c=32
  ·subst h
   rw [List.dropWhile_cons,if_pos (by decide)]
   exact ih
  ·rw [List.dropWhile_cons,if_neg (by simpa using h)]
   simpa using h
def tL (out:List Tok):Option (List Tok)→Int×List Tok×Unit
 |none=>(60,[],())
 |some l=>(0,out++l,())
theorem lex_s (s : ByteArray) : eb.F (s,()) = some (if 20000 < s.size then (60,[],()) else tL [] (jC s.data.toList)) := by
  rw [eb.eq]
  unfold eb.B
  simp only []
  by_cases hb:20000<s.size
  · have:decide ((s.size:Int)>(20000:Int))=true:=by simp;omega
    simp only [this,cond_true,if_pos hb]
  · have:decide ((s.size:Int)>(20000:Int))=false:=by simp;omega
    simp only [this,cond_false,if_neg hb]
    have hs:s.size≤100000000:=by omega
    obtain ⟨j,g1,g2,g3,g4⟩:=zU [5] (by decide) s hs 0 (by omega)
    have g4':bf.F ([(5:Int)],s,(0:Int),())=some (bs ((lst s 0).takeWhile (inK [5])),s,(j:Int),()):=g4
    rw [g4']
    simp only [Option.bind_some]
    rw [fd (m:=fun x=>s.size-x.2.2.1.toNat)
      (I:=fun x=>x.2.1=s∧∃k:Nat,x.2.2.1=(k:Int)∧k≤s.size∧x.1.length≤k∧(lst s k).head?≠some 32)
      (f:=fun x=>tL x.1 (jC (lst s x.2.2.1.toNat))) ?_ _ ⟨rfl,j,rfl,g2,by simp,by rw [g3];exact uR _⟩]
    · simp only [Int.toNat_natCast]
      rw [g3,uQ]
      rfl
    · rintro ⟨out,a,b,⟨⟩⟩ ⟨ha,k,hk,hle,hlen,hh⟩
      simp only at ha hk hlen
      subst ha
      subst hk
      simp only [Int.toNat_natCast]
      by_cases hlt:k<a.size
      · obtain ⟨c,r,e⟩:=mL hlt
        have d1:decide ((k:Int)<(a.size:Int))=true:=by simp;omega
        have hc:c≠32:=by rw [e] at hh;simpa using hh
        have ht:=Jp a hs k e
        simp only [d1,cond_true]
        rw [e,nz r hc]
        cases hx:jc (c::r) with
        |none=>
          rw [hx] at ht
          obtain ⟨_,_,_,_,_,_,g⟩:=ht
          right
          rw [g]
          rfl
        |some x=>
          rw [hx] at ht
          obtain ⟨m,t1,t2,t3,t4⟩:=ht
          left
          obtain ⟨n,r1,r2,r3,r4⟩:=zU [5] (by decide) a hs m t2
          rw [t4]
          have d2:Nat.ble (out.length+ [(x.1.1,(x.1.2.1,(x.1.2.2.1,(x.1.2.2.2.1,x.1.2.2.2.2))))].length) 2513169434916=true:=by
            rw [Nat.ble_eq];simp;omega
          simp only [Option.bind_some,Bool.not_true,cond_false]
          rw [d2]
          simp only [cond_true,r4,Option.bind_some]
          refine ⟨_,rfl,⟨rfl,n,rfl,r2,by simp;omega,by rw [r3];exact uR _⟩,by simp only [Int.toNat_natCast];omega,?_⟩
          simp only [Int.toNat_natCast,r3,t3,uQ]
          cases jC x.2 with
          |none=>rfl
          |some l=>simp [tL]
      · right
        have hd:decide ((k:Int)<(a.size:Int))=false:=by simp;omega
        have:lst a k=[]:=by
          have:=eP a k
          exact List.length_eq_zero_iff.1 (by omega)
        rw [this]
        simp only [hd,cond_false,xk,tL,List.append_nil]
theorem xB {p:UInt8→Bool} (l:List UInt8):decide (l.takeWhile p=l)=l.all p:=by
 induction l with
 |nil=>simp
 |cons c l ih=>
  simp only [List.takeWhile_cons,List.all_cons]
  cases h:p c with
  |true=>simp [←ih]
  |false=>simp
theorem KP (b : ByteArray) : dA.F (b,()) = some (jD b,()) := by
  rw [dA.eq]
  unfold dA.B jD
  have hb:b=bs b.data.toList:=(oj b).symm
  generalize hl:b.data.toList=l at hb
  subst hb
  rw [jK] at hl
  simp only [show (⟨#[]⟩:ByteArray)=bs [] from rfl,rF,cT]
  cases l with
  |nil=>simp [gC]
  |cons c l=>
    simp only [gC]
    have e0:decide (c::l=([]:List UInt8))=false:=by simp
    simp only [e0,cond_false]
    by_cases h30:(c::l).length≤30
    · have e1:decide ((((c::l).length:Nat):Int)>(30:Int))=false:=by rw [decide_eq_false_iff_not];omega
      have e2:(decide (0≤(0:Int))&&decide ((0:Int)<(((c::l).length:Nat):Int)))=true:=by simp
      have hst:lst (bs (c::l)) 0=c::l:=rfl
      have e3:eL (bs (c::l)) 0=(c.toNat:Int):=(ey hst).2.2
      simp only [e1,cond_false,e2,cond_true,e3,HO,Option.bind_some,bne,xA]
      cases hc:fp c with
      |false=>simp
      |true=>
        simp only [Bool.not_true,cond_false,Option.bind_some]
        obtain ⟨j,g1,g2,g3,g4⟩:=zU [1,2,3] (by decide) (bs (c::l)) (by rw [cT];omega) 0 (by omega)
        have g4':bf.F ([(1:Int),(2:Int),(3:Int)],bs (c::l),(0:Int),())=some (bs ((lst (bs (c::l)) 0).takeWhile (inK [1,2,3])),bs (c::l),(j:Int),()):=g4
        rw [g4',hst,iX xx]
        simp only [Option.bind_some,rF,xB,Bool.true_and]
        simp only [h30,decide_true,Bool.and_true]
    · have e1:decide ((((c::l).length:Nat):Int)>(30:Int))=true:=by rw [decide_eq_true_eq];omega
      simp only [e1,cond_true,Option.bind_some,h30,decide_false,Bool.and_false]
def nG (b:ByteArray):Int→List ByteArray→Int
 |_,[]=>-1
 |i,k::l=>if b=k then i else nG b (i+1) l
theorem F8 (b:ByteArray):∀(l:List ByteArray) (i:Int),0≤i→decide (nG b i l≥0)=l.any fun k=>decide (k=b):=by
 intro l
 induction l with
 |nil=>intro i _;rfl
 |cons k l ih=>
  intro i hi
  rw [List.any_cons]
  by_cases h:b=k
  ·have:nG b i (k::l)=i:=by simp [nG,h]
   rw [show decide (nG b i (k::l)≥0)=decide (i≥0) by rw [this]]
   simp [h,hi]
  ·have:¬k=b:=fun e=>h e.symm
   have e:nG b i (k::l)=nG b (i+1) l:=by simp [nG,h]
   rw [show decide (nG b i (k::l)≥0)=decide (nG b (i+1) l≥0) by rw [e],ih _ (by omega)];simp [this]
theorem Jq (l : List ByteArray) (hl : l.length < 1000) (b : ByteArray) : aq.F (l,b,()) = some (nG b 0 l,()) := by
  rw [aq.eq]
  unfold aq.B
  simp only []
  rw [fd (m:=fun x=>l.length-x.1.toNat) (I:=fun x=>∃k:Nat,x.1=(k:Int)∧k≤l.length) (f:=fun x=>(nG b x.1 (l.drop x.1.toNat),())) ?_ _ ⟨0,rfl,by omega⟩]
  · simp
  · rintro ⟨x,⟨⟩⟩ ⟨k,hk,hle⟩
    simp only at hk
    subst hk
    simp only [Int.toNat_natCast]
    by_cases hlt:k<l.length
    · have d1:decide ((k:Int)<(l.length:Int))=true:=by simp;omega
      have d0:decide (0≤(k:Int))=true:=by simp
      simp only [d1,d0,Bool.and_self,cond_true,bV hlt,dZ,cz hlt (show l.length<9223372036854775808 by omega)]
      rw [List.drop_eq_getElem_cons hlt,nG]
      by_cases he:b=l[k]
      · right
        simp only [he,decide_true,cond_true,if_true]
      · left
        simp only [he,decide_false,cond_false,if_false]
        refine ⟨_,rfl,⟨k+1,rfl,by omega⟩,by simp only [Int.toNat_natCast];omega,?_⟩
        simp only [Int.toNat_natCast]
        rfl
    · right
      have d1:decide ((k:Int)<(l.length:Int))=false:=by simp;omega
      simp only [d1,cond_false]
      rw [List.drop_eq_nil_of_le (by omega)]
      rfl
theorem KQ (b:ByteArray):dH.F (b,())=some (isName b,()):=by
 rw [dH.eq]
 unfold dH.B isName
 simp only [KP,Option.bind_some]
 cases jD b with
 |false=>rfl
 |true=>
  have hk:cj.F ()=some (kc,()):=by rw [cj.eq];rfl
  have h1:=Jq kc (by decide) b
  have h2:=F8 b kc 0 (by decide)
  have hc:aj.F (kc,b,())=some (kc.any fun k=>decide (k=b),()):=by
   rw [aj.eq]
   unfold aj.B
   simp only [h1,Option.bind_some,h2]
  simp only [cond_true,hk,Option.bind_some,hc,Bool.true_and]
end Go.Proofs.Ytleadolkcmagfaa
end
section
namespace Go.Proofs.Ytleadolkcmagfaa
open Go Lv Go.Proofs Go.RowKit Go.Shelf Dl
def res {α β:Type} (f:α→List Tok→β):Option (α×List Tok)→β⊕Int
 |some x=> .inl (f x.1 x.2)
 |none=> .inr 70
@[simp] theorem eA {α β : Type} (f : α → List Tok → β) (x : α × List Tok) : res f (some x) = .inl (f x.1 x.2) := rfl
@[simp] theorem sZ {α β : Type} (f : α → List Tok → β) : res f none = (.inr 70 : β ⊕ Int) := rfl
theorem lu (b:Bool):ci.F (b,())=some (bif b then .inl () else .inr 70):=by
 rw [ci.eq]
 cases b<;>rfl
theorem Kl (ws : List ByteArray) (hw : ws.length < 1000) (l : List Tok) (hl : l.length ≤ 100000000) : bH.F (ws,l,()) = some ((tkL ws l).isSome,l,()) := by
  rw [bH.eq]
  unfold bH.B
  simp only []
  rw [fd (m:=fun x=>ws.length-x.1.toNat) (I:=fun x=>∃k:Nat,x.1=(k:Int)∧k≤ws.length) (f:=fun x=>((tkL (ws.drop x.1.toNat) (l.drop x.1.toNat)).isSome,l,())) ?_ _ ⟨0,rfl,by omega⟩]
  · simp
  · rintro ⟨x,⟨⟩⟩ ⟨k,hk,hle⟩
    simp only at hk
    subst hk
    simp only [Int.toNat_natCast]
    by_cases hlt:k<ws.length
    · have d1:decide ((k:Int)<(ws.length:Int))=true:=by simp;omega
      have d0:decide (0≤(k:Int))=true:=by simp
      simp only [d1,d0,Bool.and_self,cond_true,bV hlt]
      rw [List.drop_eq_getElem_cons hlt]
      by_cases hkl:k<l.length
      · have d2:decide ((k:Int)≥(l.length:Int))=false:=by simp;omega
        have d3:decide ((k:Int)<(l.length:Int))=true:=by simp;omega
        simp only [d2,d3,cond_false,Bool.true_and,cond_true,bV hkl,dZ]
        rw [List.drop_eq_getElem_cons hkl]
        simp only [tkL,tk]
        by_cases h1:l[k].1=1
        · right
          have:(l[k].1==(1:Int))=true:=by simp [h1]
          simp only [this,cond_true]
          simp [h1]
        · have e1:(l[k].1==(1:Int))=false:=by simp [h1]
          by_cases h2:l[k].2.1=ws[k]
          · left
            simp only [e1,h2,decide_true,Bool.not_true,cond_false,cz hlt (show ws.length<9223372036854775808 by omega)]
            refine ⟨_,rfl,⟨k+1,rfl,by omega⟩,by simp only [Int.toNat_natCast];omega,?_⟩
            simp [h1]
          · right
            simp only [e1,h2,decide_false,Bool.not_false,cond_false,cond_true]
            simp
      · right
        have d2:decide ((k:Int)≥(l.length:Int))=true:=by simp;omega
        simp only [d2,cond_true]
        rw [List.drop_eq_nil_of_le (show l.length≤k by omega)]
        rfl
    · right
      have d1:decide ((k:Int)<(ws.length:Int))=false:=by simp;omega
      simp only [d1,cond_false]
      rw [List.drop_eq_nil_of_le (by omega)]
      rfl
theorem EL:∀(ws:List ByteArray) (l r:List Tok),tkL ws l=some r→r=l.drop ws.length∧ws.length≤l.length:=by
 intro ws
 induction ws with
 |nil=>intro l r h;cases h;simp
 |cons w ws ih=>
  intro l r h
  simp only [tkL,Option.bind_eq_some_iff] at h
  obtain ⟨m,hm,h⟩:=h
  obtain ⟨e,hl⟩:=ih m r h
  cases l with
  |nil=>cases hm
  |cons t l=>
   simp only [tk] at hm
   split at hm
   ·cases hm;exact ⟨by simpa using e,by simp;omega⟩
   ·cases hm
theorem EM (ws:List ByteArray) (hw:ws.length<1000) (l:List Tok) (hl:l.length≤100000000):aA.F (ws,l,())=some ((tkL ws l).isSome,(tkL ws l).getD l,()):=by
 rw [aA.eq]
 unfold aA.B
 simp only [Kl ws hw l hl,Option.bind_some]
 cases h:tkL ws l with
 |none=>simp
 |some r=>
  obtain ⟨e,h2⟩:=EL ws l r h
  have d:(decide (0≤(ws.length:Int))&&(decide ((ws.length:Int)≤(l.length:Int))&&decide ((l.length:Int)≤(l.length:Int))))=true:=by simp;omega
  simp only [Option.isSome_some,Bool.not_true,cond_false,d,cond_true,Int.toNat_natCast,List.take_length]
  rw [←e]
  rfl
theorem EN (s:ByteArray) (l:List Tok):tkL [s] l=tk s l:=by
 simp only [tkL]
 cases tk s l<;>rfl
theorem eU (s:ByteArray) (l:List Tok) (hl:l.length≤100000000):aA.F ([s],l,())=some ((tk s l).isSome,(tk s l).getD l,()):=by
 rw [EM [s] (by simp) l hl,EN]
theorem is_s (s:ByteArray) (l:List Tok) (hl:l.length≤100000000):bH.F ([s],l,())=some ((tk s l).isSome,l,()):=by
 rw [Kl [s] (by simp) l hl,EN]
theorem zX (ws : List ByteArray) (hw : ws.length < 1000) (l : List Tok) (hl : l.length ≤ 100000000) : bv.F (ws,l,()) = some (res (fun i r => (i,r,())) (gI 0 ws l)) := by
  rw [bv.eq]
  unfold bv.B
  simp only []
  rw [fd (S:=Int×(List bI)×Unit) (m:=fun x=>ws.length-x.1.toNat) (I:=fun x=>x.2.1=l∧∃k:Nat,x.1=(k:Int)∧k≤ws.length)
    (f:=fun x=>match gI x.1 (ws.drop x.1.toNat) l with|some y=> .inr (.inl (y.1,y.2,()))|none=> .inl (l,())) ?_ _ ⟨rfl,0,rfl,by omega⟩]
  · simp only [Option.bind_some,Int.toNat_zero,List.drop_zero]
    cases gI 0 ws l with
    |none=>simp only [lu];rfl
    |some y=>rfl
  · rintro ⟨x,a,⟨⟩⟩ ⟨ha,k,hk,hle⟩
    simp only at hk ha
    subst hk
    subst ha
    simp only [Int.toNat_natCast]
    by_cases hlt:k<ws.length
    · have d1:decide ((k:Int)<(ws.length:Int))=true:=by simp;omega
      have d0:decide (0≤(k:Int))=true:=by simp
      simp only [d1,d0,Bool.and_self,cond_true,bV hlt,eU _ a hl,Option.bind_some]
      rw [List.drop_eq_getElem_cons hlt]
      simp only [gI]
      cases h:tk ws[k] a with
      |some r=>right;simp
      |none=>
        left
        simp only [Option.isSome_none,cond_false,Option.getD_none,cz hlt (show ws.length<9223372036854775808 by omega)]
        refine ⟨_,rfl,⟨rfl,k+1,rfl,by omega⟩,by simp only [Int.toNat_natCast];omega,?_⟩
        simp only [Int.toNat_natCast]
        rfl
    · right
      have d1:decide ((k:Int)<(ws.length:Int))=false:=by simp;omega
      simp only [d1,cond_false]
      rw [List.drop_eq_nil_of_le (by omega)]
      rfl
theorem xC:bi.F ([],())=some (.inr 70):=by
 rw [bi.eq]
 unfold bi.B
 simp only [lu]
 rfl
theorem tM (t:Tok) (l:List Tok) (hl:(t::l).length≤100000000):bi.F (t::l,())=some (.inl (t.1,t.2.1,t.2.2.1,t.2.2.2.1,t.2.2.2.2,l,())):=by
 rw [bi.eq]
 unfold bi.B
 have d1:decide (((t::l).length:Int)>(0:Int))=true:=by rw [decide_eq_true_eq];simp only [List.length_cons];omega
 have d2:(decide (0≤(0:Int))&&decide ((0:Int)<((t::l).length:Int)))=true:=by simp only [Bool.and_eq_true,decide_eq_true_eq,List.length_cons];omega
 have d3:(decide (0≤(1:Int))&&(decide ((1:Int)≤((t::l).length:Int))&&decide (((t::l).length:Int)≤((t::l).length:Int))))=true:=by simp only [Bool.and_eq_true,decide_eq_true_eq,List.length_cons];omega
 simp only [d1,lu,cond_true,Option.bind_some,d2,d3,Int.toNat_natCast,List.take_length]
 rfl
theorem tN (l:List Tok) (hl:l.length≤100000000):bj.F (l,())=some (res (fun a r=>(a,r,())) (ik l)):=by
 rw [bj.eq]
 unfold bj.B
 cases l with
 |nil=>simp only [xC];rfl
 |cons t l=>
  simp only [tM t l hl,Option.bind_some,KQ,lu,ik]
  by_cases h:t.1=0
  ·have:(t.1==(0:Int))=true:=by simp [h]
   simp only [this,cond_true,h,true_and]
   cases hn:isName t.2.1<;>simp
  ·have:(t.1==(0:Int))=false:=by simp [h]
   simp only [this,cond_false,h,false_and,if_false]
   rfl
theorem uS (l : List Tok) (hl : l.length ≤ 100000000) : aP.F (l,()) = some (res (fun a r => (a,r,())) (ke l)) := by
  rw [aP.eq]
  unfold aP.B
  cases l with
  |nil=>simp only [xC];rfl
  |cons t l=>
    simp only [tM t l hl,Option.bind_some,lu,ke]
    by_cases h1:t.1=1
    · have b1:(t.1==(1:Int))=true:=by simp [h1]
      by_cases h2:t.2.2.1=2
      · have b2:(t.2.2.1==(2:Int))=true:=by simp [h2]
        by_cases h3:0≤t.2.2.2.1
        · have b3:decide (t.2.2.2.1≥(0:Int))=true:=by simp;exact h3
          by_cases h4:t.2.2.2.1≤99
          · simp [b1,b2,b3,h1,h2,h3,h4]
          · simp [b1,b2,b3,h1,h2,h3,h4]
        · have b3:decide (t.2.2.2.1≥(0:Int))=false:=by simp;omega
          simp only [b1,b2,b3,cond_true,cond_false,Option.bind_some]
          simp [h3]
      · have b2:(t.2.2.1==(2:Int))=false:=by simp [h2]
        simp only [b1,b2,cond_true,cond_false,Option.bind_some]
        simp [h2]
    · have b1:(t.1==(1:Int))=false:=by simp [h1]
      simp only [b1,cond_false,Option.bind_some]
      simp [h1]
theorem zY {α : Type} (k a : ByteArray) (x : α) : ∀ m : List (ByteArray × α),ei k (bU a x m) = if k = a then some x else ei k m := by
  intro m
  induction m with
  |nil=>
    simp only [bU,ei]
    by_cases h:a=k
    · simp [h]
    · have:¬k=a:=fun e=>h e.symm
      simp [h,this]
  |cons y m ih=>
    obtain ⟨b,z⟩:=y
    simp only [bU]
    by_cases h:b=a
    · subst h
      simp only [if_true,ei]
      by_cases h2:b=k
      · simp [h2]
      · have:¬k=b:=fun e=>h2 e.symm
        simp [h2,this]
    · simp only [if_neg h,ei,ih]
      by_cases h2:b=k
      · subst h2;simp [h]
      · simp [h2]
theorem zZ {α:Type} (k:ByteArray):ei k ([]:List (ByteArray×α))=none:=rfl
def HQ:List UInt8→ByteArray×Bool×Unit
 | []=>(bs [],false,())
 |c::d=>if c=99 then (bs d,true,()) else (bs (c::d),false,())
theorem cut_s (l : List UInt8) (hl : l.length ≤ 100000000) : bl.F (bs l,(⟨#[99]⟩ : ByteArray),()) = some (HQ l) := by
  have hp:am.F (bs l,(⟨#[99]⟩:ByteArray),())=some (decide (l.head?=some 99),()):=by
    rw [am.eq]
    unfold am.B
    have hc:(⟨#[99]⟩:ByteArray).size=1:=rfl
    simp only [cT,hc]
    cases l with
    |nil=>rfl
    |cons c d=>
      have d1:decide ((((c::d).length:Nat):Int)≥((1:Nat):Int))=true:=by rw [decide_eq_true_eq];simp only [List.length_cons];omega
      have d2:(decide (0≤(0:Int))&&(decide ((0:Int)≤((1:Nat):Int))&&decide (((1:Nat):Int)≤(((c::d).length:Nat):Int))))=true:=by simp only [Bool.and_eq_true,decide_eq_true_eq,List.length_cons];omega
      simp only [d1,d2,cond_true,Int.toNat_natCast]
      rw [show (bs (c::d)).extract (Int.toNat 0) 1=bs [c] by rw [show Int.toNat 0=0 from rfl,ol _ 0 1 (by omega)];simp [lst],show (⟨#[99]⟩:ByteArray)=bs [99] from rfl,rF]
      simp
  have hq:ao.F (bs l,(⟨#[99]⟩:ByteArray),())=some (HQ l):=by
    rw [ao.eq]
    unfold ao.B
    simp only [hp,Option.bind_some]
    cases l with
    |nil=>rfl
    |cons c d=>
      by_cases h:c=99
      · subst h
        have hc:(⟨#[99]⟩:ByteArray).size=1:=rfl
        have d2:(decide (0≤((1:Nat):Int))&&(decide (((1:Nat):Int)≤(((99::d).length:Nat):Int))&&decide ((((99::d).length:Nat):Int)≤(((99::d).length:Nat):Int))))=true:=by simp only [Bool.and_eq_true,decide_eq_true_eq,List.length_cons];omega
        simp only [List.head?_cons,decide_true,Bool.not_true,cond_false,hc,cT,d2,cond_true,Int.toNat_natCast,if_true]
        rw [ol _ 1 _ (by simp only [List.length_cons];omega)]
        simp [lst,HQ]
      · simp [h,HQ]
  rw [bl.eq]
  unfold bl.B
  simp only [hq,Option.bind_some]
theorem HR (l : List UInt8) (hl : l.length ≤ 100000000) : ∃ n,cP.F (bs l,()) = some (n,(tG l).isSome,()) ∧ ∀ m,tG l = some m → n = m := by
  rw [cP.eq]
  unfold cP.B
  simp only [cut_s l hl,Option.bind_some]
  have at_s:∀w:List UInt8,w.length≤100000000→bW.F (bs w,())=some ((iH (bs w)).1,(iH (bs w)).2,()):=fun w hw=>by
    rw [bW.eq]
    show zR (bs w,())=_
    unfold zR
    simp only
    rw [if_pos (by rw [cT];omega)]
  cases l with
  |nil=>
    show ∃n,Option.bind (bW.F (bs [],())) _=_∧_
    rw [AZ [] (by simp)]
    exact ⟨_,rfl,fun m h=>by cases h⟩
  |cons c d=>
    simp only [tG,HQ]
    by_cases h:c=99
    · subst h
      simp only [if_true]
      rw [AZ d (by simp only [List.length_cons] at hl;omega)]
      simp only [cond_true]
      unfold iH
      simp only [jK]
      cases ha:Lib.atoiAll d with
      |ok v=>
        obtain ⟨b1,b2⟩:=xy ha
        simp only [cond_true]
        by_cases h99:v≤99
        · have:decide (v≤(99:Int))=true:=by simp [h99]
          simp only [this,cond_true]
          rw [A0 v b1 b2]
          simp only [rF]
          by_cases hi:Lib.itoa v=d
          · refine ⟨v,?_,?_⟩
            · simp [hi,h99]
            · intro m hm;simp [hi,h99] at hm;exact hm
          · exact ⟨v,by simp [hi,h99],fun m hm=>by simp [hi] at hm⟩
        · have:decide (v≤(99:Int))=false:=by simp;omega
          simp only [this,cond_false]
          exact ⟨v,by simp [h99],fun m hm=>by simp [h99] at hm⟩
      |_=>exact ⟨_,rfl,fun m hm=>by cases hm⟩
    · simp only [if_neg h]
      rw [AZ (c::d) (by omega)]
      exact ⟨_,rfl,fun m hm=>by cases hm⟩
end Go.Proofs.Ytleadolkcmagfaa
end
section
namespace Go.Proofs.Ytleadolkcmagfaa
open Go Lv Go.Proofs Go.RowKit Go.Shelf Dl
abbrev kB (l:List Tok):Prop:=l.length≤100000000∧∀t∈l,t.2.1.size≤100000000
theorem Jr (b:ByteArray):ei b (bU (⟨#[110,111,116]⟩:ByteArray) (9:Int) (bU (⟨#[111,114]⟩:ByteArray) (8:Int) (bU (⟨#[97,110,100]⟩:ByteArray) (7:Int) (bU (⟨#[60]⟩:ByteArray) (6:Int) (bU (⟨#[61]⟩:ByteArray) (5:Int) (bU (⟨#[42]⟩:ByteArray) (4:Int) (bU (⟨#[45]⟩:ByteArray) (3:Int) (bU (⟨#[43]⟩:ByteArray) (2:Int) ([]:List (ByteArray×Int))))))))))=yn b:=by
 simp only [yn,zY,zZ]
theorem Js (b:ByteArray):ei b (bU (⟨#[116,114,117,101]⟩:ByteArray) ((1:Int),((1:Int),(⟨#[]⟩:ByteArray))) (bU (⟨#[102,97,108,115,101]⟩:ByteArray) ((1:Int),((0:Int),(⟨#[]⟩:ByteArray))) (bU (⟨#[110,117,108,108]⟩:ByteArray) ((0:Int),((0:Int),(⟨#[]⟩:ByteArray))) ([]:List (ByteArray×dp)))))=jo b:=by
 simp only [jo,zY,zZ]
theorem KR (l : List Tok) (hl : kB l) : aR.F (l,()) = some (res (fun x r => (x.1,x.2.1,x.2.2.1,x.2.2.2.1,x.2.2.2.2,r,())) (iI l)) := by
  rw [aR.eq]
  unfold aR.B
  simp only [ri,ry,oh,EM [(⟨#[110,117,108,108]⟩:ByteArray),(⟨#[63]⟩:ByteArray)] (by decide) l hl.1,Option.bind_some,iI]
  cases h:tkL [(⟨#[110,117,108,108]⟩:ByteArray),(⟨#[63]⟩:ByteArray)] l with
  |some r=>rfl
  |none=>
    simp only [Option.isSome_none,cond_false,Option.getD_none]
    cases l with
    |nil=>simp only [xC];rfl
    |cons t l=>
      simp only [tM t l hl.1,Option.bind_some]
      by_cases h1:t.1=1
      · have b1:(t.1==(1:Int))=true:=by simp [h1]
        simp only [b1,cond_true,h1,if_true]
        rfl
      · have b1:(t.1==(1:Int))=false:=by simp [h1]
        simp only [b1,cond_false,if_neg h1]
        simp only [Jr,Js]
        cases ho:yn t.2.1 with
        |some op=>rfl
        |none=>
          simp only [Option.isSome_none,cond_false]
          cases hc:jo t.2.1 with
          |some v=>rfl
          |none=>
            simp only [Option.isSome_none,cond_false]
            obtain ⟨n,e1,e2⟩:=HR t.2.1.data.toList (hl.2 t (by simp))
            rw [oj] at e1
            simp only [e1,Option.bind_some,lu]
            cases hp:tG t.2.1.data.toList with
            |none=>rfl
            |some m=>
              rw [e2 m hp]
              rfl
theorem kB.suf {l r:List Tok} (h:kB l) (hs:r<:+l):kB r:=⟨Nat.le_trans hs.length_le h.1,fun x hx=>h.2 x (hs.subset hx)⟩
theorem eM {s:ByteArray} {l r:List Tok} (h:tk s l=some r):r<:+l:=by
 cases l with
 |nil=>cases h
 |cons t l=>
  simp only [tk] at h
  split at h
  ·cases h;exact List.suffix_cons _ _
  ·cases h
theorem Jt:∀{ws:List ByteArray} {l r:List Tok},tkL ws l=some r→r<:+l:=by
 intro ws l r h
 rw [(EL ws l r h).1]
 exact List.drop_suffix _ _
theorem iT:∀{ws:List ByteArray} {i:Int} {l:List Tok} {x},gI i ws l=some x→x.2<:+l:=by
 intro ws
 induction ws with
 |nil=>intro i l x h;cases h
 |cons w ws ih=>
  intro i l x h
  simp only [gI] at h
  split at h
  ·rename_i r hr;cases h;exact eM hr
  ·exact ih h
theorem iA {l:List Tok} {x} (h:ik l=some x):x.2<:+l:=by
 cases l with
 |nil=>cases h
 |cons t l=>
  simp only [ik] at h
  split at h
  ·cases h;exact List.suffix_cons _ _
  ·cases h
theorem lv {l:List Tok} {x} (h:ke l=some x):x.2<:+l:=by
 cases l with
 |nil=>cases h
 |cons t l=>
  simp only [ke] at h
  split at h
  ·cases h;exact List.suffix_cons _ _
  ·cases h
theorem z6 {l : List Tok} {x} (h : iI l = some x) : x.2 <:+ l := by
  simp only [iI] at h
  split at h
  · rename_i r hr;cases h;exact Jt hr
  · cases l with
    |nil=>cases h
    |cons t l=>
      simp only at h
      split at h
      · cases h;exact List.suffix_cons _ _
      · split at h
        · cases h;exact List.suffix_cons _ _
        · split at h
          · cases h;exact List.suffix_cons _ _
          · simp only [Option.map_eq_some_iff] at h
            obtain ⟨n,_,rfl⟩:=h
            exact List.suffix_cons _ _
theorem jG (n:Nat) (l:List Tok):iu n l=match tk (⟨#[93]⟩:ByteArray) l with
 |some r=>some ([],r)
 |none=>match n with
  |0=>none
  |n+1=>(iI l).bind fun x=>(iu n x.2).map fun y=>(x.1::y.1,y.2):=by rw [iu.eq_def];try (cases n<;>rfl)
theorem DP:∀{n:Nat} {l:List Tok} {x},iu n l=some x→x.2<:+l:=by
 intro n
 induction n with
 |zero=>
  intro l x h
  rw [jG] at h
  split at h
  ·rename_i r hr;cases h;exact eM hr
  ·cases h
 |succ n ih=>
  intro l x h
  rw [jG] at h
  split at h
  ·rename_i r hr;cases h;exact eM hr
  ·simp only [Option.bind_eq_some_iff,Option.map_eq_some_iff] at h
   obtain ⟨y,hy,z,hz,rfl⟩:=h
   exact (ih hz).trans (z6 hy)
theorem z7 {l:List Tok} {x} (h:jz l=some x):x.2<:+l:=by
 simp only [jz,Option.bind_eq_some_iff] at h
 obtain ⟨r,hr,h⟩:=h
 exact (DP h).trans (eM hr)
theorem HS (l : List Tok) (hl : kB l) : bg.F (l,()) = some (res (fun x r => (r,x,())) (jz l)) := by
  rw [bg.eq]
  unfold bg.B
  simp only [eU _ l hl.1,Option.bind_some,lu,jz]
  cases h:tk (⟨#[91]⟩:ByteArray) l with
  |none=>rfl
  |some r=>
    simp only [Option.isSome_some,cond_true,Option.getD_some,Option.bind_some]
    have hr:=hl.suf (eM h)
    rw [fd (S:=(List ae)×(List bI)×Unit) (m:=fun x=>200-x.1.length) (I:=fun x=>x.1.length≤100∧kB x.2.1)
      (f:=fun x=>match iu (100-x.1.length) x.2.1 with|some y=> .inl (y.2,x.1++y.1,())|none=> .inr 70) ?_ _ ⟨by simp,hr⟩]
    · cases iu 100 r<;>rfl
    · rintro ⟨out,q,⟨⟩⟩ ⟨ho,hq⟩
      simp only at ho hq
      simp only [eU _ q hq.1,Option.bind_some]
      cases h1:tk (⟨#[93]⟩:ByteArray) q with
      |some r1=>
        right
        simp only [Option.isSome_some,Bool.not_true,cond_false,Option.getD_some]
        rw [jG,h1]
        simp
      |none=>
        simp only [Option.isSome_none,Bool.not_false,cond_true,Option.getD_none,KR q hq]
        rw [jG,h1]
        cases h2:iI q with
        |none=>
          right
          simp only [sZ,Option.bind_some]
          cases h3:100-out.length with
          |zero=>rfl
          |succ n=>rfl
        |some x=>
          have d1:Nat.ble (out.length+ [(x.1.1,(x.1.2.1,(x.1.2.2.1,(x.1.2.2.2.1,x.1.2.2.2.2))))].length) 2932031007402=true:=by rw [Nat.ble_eq];simp;omega
          simp only [eA,Option.bind_some]
          rw [d1]
          simp only [cond_true,lu,Option.bind_some]
          cases h3:100-out.length with
          |zero=>
            right
            have:decide (((out++ [(x.1.1,(x.1.2.1,(x.1.2.2.1,(x.1.2.2.2.1,x.1.2.2.2.2))))]).length:Int)≤(100:Int))=false:=by simp;omega
            simp only [this,cond_false]
          |succ n=>
            left
            have:decide (((out++ [(x.1.1,(x.1.2.1,(x.1.2.2.1,(x.1.2.2.2.1,x.1.2.2.2.2))))]).length:Int)≤(100:Int))=true:=by simp;omega
            simp only [this,cond_true]
            refine ⟨_,rfl,⟨by simp;omega,hq.suf (z6 h2)⟩,by simp;omega,?_⟩
            simp only [List.length_append,List.length_singleton]
            rw [show 100-(out.length+1)=n by omega]
            cases iu n x.2<;>simp
theorem s5 (s:ByteArray) (l:List Tok):(iR s l).2<:+l:=by
 unfold iR
 cases h:tk s l with
 |none=>exact List.suffix_refl _
 |some r=>exact eM h
theorem HT {l:List Tok} {x} (h:Cm l=some x):x.2<:+l:=by
 unfold Cm at h
 split at h
 ·cases h;exact List.suffix_refl _
 ·rename_i r hr
  simp only [Option.bind_eq_some_iff,Option.map_eq_some_iff] at h
  obtain ⟨y,hy,z,hz,rfl⟩:=h
  exact ((iT hz).trans (iA hy)).trans (eM hr)
theorem uT {l:List Tok} {x} (h:gR l=some x):x.2<:+l:=by
 simp only [gR,Option.bind_eq_some_iff,Option.map_eq_some_iff] at h
 obtain ⟨y,hy,z,hz,u,hu,rfl⟩:=h
 exact ((((HT hu).trans (s5 _ _)).trans (s5 _ _)).trans (iT hz)).trans (iA hy)
theorem EO:∀{ws:List ByteArray} {i:Int} {l:List Tok} {x},gI i ws l=some x→i≤x.1∧x.1<i+ws.length:=by
 intro ws
 induction ws with
 |nil=>intro i l x h;cases h
 |cons w ws ih=>
  intro i l x h
  simp only [gI] at h
  split at h
  ·cases h;simp;omega
  ·have:=ih h
   simp;omega
theorem Ju (s:ByteArray) (l:List Tok):((tk s l).isSome,(tk s l).getD l,())=((iR s l).1,(iR s l).2,()):=by
 unfold iR
 cases tk s l<;>rfl
theorem z8 {s:ByteArray} {l:List Tok} (h:tk s l=none):iR s l=(false,l):=by unfold iR;rw [h]
theorem Aa {s:ByteArray} {l r:List Tok} (h:tk s l=some r):iR s l=(true,r):=by unfold iR;rw [h]
theorem rG (l : List Tok) (hl : kB l) : aw.F (l,()) = some (res (fun x r => (x.1,x.2.1,x.2.2.1,x.2.2.2.1,x.2.2.2.2.1,x.2.2.2.2.2,r,())) (gR l)) := by
  rw [aw.eq]
  unfold aw.B
  simp only [tN l hl.1,Option.bind_some,gR]
  cases h1:ik l with
  |none=>rfl
  |some y=>
    have hy:=hl.suf (iA h1)
    simp only [eA,Option.bind_some,zX _ (show [(⟨#[98,111,111,108]⟩:ByteArray),(⟨#[105,110,116]⟩:ByteArray),(⟨#[116,101,120,116]⟩:ByteArray)].length<1000 by decide) y.2 hy.1]
    cases h2:gI 0 kinds y.2 with
    |none=>rfl
    |some z=>
      have hz:=hy.suf (iT h2)
      have hb:=EO h2
      have hb2:z.1<0+3:=hb.2
      have hw:IntKind.i64.wrap ((1:Int)+z.1)=1+z.1:=by rw [dn]<;>omega
      have hu:=hz.suf (s5 (⟨#[110,117,108,108]⟩:ByteArray) z.2)
      have hv:=hu.suf (s5 (⟨#[117,110,105,113,117,101]⟩:ByteArray) (iR (⟨#[110,117,108,108]⟩:ByteArray) z.2).2)
      simp only [eA,hw,eU _ z.2 hz.1,Ju,Option.bind_some,eU _ _ hu.1,eU _ _ hv.1]
      unfold Cm
      cases h3:tk (⟨#[114,101,102]⟩:ByteArray) (iR (⟨#[117,110,105,113,117,101]⟩:ByteArray) (iR (⟨#[110,117,108,108]⟩:ByteArray) z.2).2).2 with
      |none=>
        have hf:iR (⟨#[114,101,102]⟩:ByteArray) (iR (⟨#[117,110,105,113,117,101]⟩:ByteArray) (iR (⟨#[110,117,108,108]⟩:ByteArray) z.2).2).2=(false,(iR (⟨#[117,110,105,113,117,101]⟩:ByteArray) (iR (⟨#[110,117,108,108]⟩:ByteArray) z.2).2).2):=by
          exact z8 h3
        simp only [hf]
        rfl
      |some r=>
        have hr:=hv.suf (eM h3)
        have hf:iR (⟨#[114,101,102]⟩:ByteArray) (iR (⟨#[117,110,105,113,117,101]⟩:ByteArray) (iR (⟨#[110,117,108,108]⟩:ByteArray) z.2).2).2=(true,r):=by
          exact Aa h3
        simp only [hf,cond_true,tN r hr.1,Option.bind_some]
        cases h4:ik r with
        |none=>rfl
        |some a=>
          have ha:=hr.suf (iA h4)
          simp only [eA,zX _ (show [(⟨#[114,101,115,116,114,105,99,116]⟩:ByteArray),(⟨#[99,97,115,99,97,100,101]⟩:ByteArray),(⟨#[115,101,116,110,117,108,108]⟩:ByteArray)].length<1000 by decide) a.2 ha.1,Option.bind_some]
          cases gI 0 yo a.2<;>rfl
def nH {α : Type} (p : List Tok → Option (α × List Tok)) (n : Nat) (l : List Tok) : Option (List α × List Tok) := match tk (⟨#[44]⟩ : ByteArray) l with
  |none=>some ([],l)
  |some r=>match n with
    |0=>none
    |n+1=>lB p n r
theorem qp {α:Type} (p:List Tok→Option (α×List Tok)) (n:Nat) (l:List Tok):lB p n l=(p l).bind fun x=>(nH p n x.2).map fun y=>(x.1::y.1,y.2):=by
 cases n with
 |zero=>
  rw [lB]
  cases p l with
  |none=>rfl
  |some x=>simp only [Option.bind_some,nH];cases tk (⟨#[44]⟩:ByteArray) x.2<;>rfl
 |succ n=>
  rw [lB]
  cases p l with
  |none=>rfl
  |some x=>simp only [Option.bind_some,nH];cases tk (⟨#[44]⟩:ByteArray) x.2<;>rfl
theorem HU {α:Type} {p:List Tok→Option (α×List Tok)} (hp:∀{l x},p l=some x→x.2<:+l):∀{n:Nat} {l:List Tok} {x},lB p n l=some x→x.2<:+l:=by
 intro n
 induction n with
 |zero=>
  intro l x h
  rw [lB] at h
  simp only [Option.bind_eq_some_iff] at h
  obtain ⟨y,hy,h⟩:=h
  split at h
  ·cases h;exact hp hy
  ·cases h
 |succ n ih=>
  intro l x h
  rw [lB] at h
  simp only [Option.bind_eq_some_iff] at h
  obtain ⟨y,hy,h⟩:=h
  split at h
  ·cases h;exact hp hy
  ·rename_i r hr
   simp only [Option.map_eq_some_iff] at h
   obtain ⟨z,hz,rfl⟩:=h
   exact ((ih hz).trans (eM hr)).trans (hp hy)
theorem rI {α S R : Type} {body : S → Option (S ⊕ R)} (p : List Tok → Option (α × List Tok)) (hp : ∀ {l x},p l = some x → x.2 <:+ l) (mk : Int → List α → List Tok → S) (fin : List α → List Tok → Option R) (bad : R)
    (h0:∀(k:Nat) acc l,k≤40→acc.length≤k→kB l→tk (⟨#[44]⟩:ByteArray) l=none→body (mk k acc l)=Option.map Sum.inr (fin acc l))
    (h1:∀acc l r,acc.length≤40→kB l→tk (⟨#[44]⟩:ByteArray) l=some r→body (mk 40 acc l)=some (.inr bad))
    (h2:∀(k:Nat) acc l r,k<40→acc.length≤k→kB l→tk (⟨#[44]⟩:ByteArray) l=some r→p r=none→body (mk k acc l)=some (.inr bad))
    (h3:∀(k:Nat) acc l r x,k<40→acc.length≤k→kB l→tk (⟨#[44]⟩:ByteArray) l=some r→p r=some x→body (mk k acc l)=some (.inl (mk (k+1:Nat) (acc++ [x.1]) x.2))):
    ∀ (n k : Nat),n + k = 40 → ∀ acc l,acc.length ≤ k → kB l → bF body (mk k acc l) = match nH p n l with
      |some y=>fin (acc++y.1) y.2
      |none=>some bad:=by
  intro n
  induction n with
  |zero=>
    intro k hk acc l ha hl
    have:k=40:=by omega
    subst this
    rw [ek]
    unfold nH
    cases h:tk (⟨#[44]⟩:ByteArray) l with
    |none=>
      rw [h0 40 acc l (by omega) ha hl h]
      simp only [List.append_nil]
      cases fin acc l<;>rfl
    |some r=>
      have:=h1 acc l r ha hl h
      rw [show ((40:Nat):Int)=40 from rfl,this]
  |succ n ih=>
    intro k hk acc l ha hl
    rw [ek]
    unfold nH
    cases h:tk (⟨#[44]⟩:ByteArray) l with
    |none=>
      rw [h0 k acc l (by omega) ha hl h]
      simp only [List.append_nil]
      cases fin acc l<;>rfl
    |some r=>
      simp only
      rw [qp]
      cases hx:p r with
      |none=>rw [h2 k acc l r (by omega) ha hl h hx];rfl
      |some x=>
        rw [h3 k acc l r x (by omega) ha hl h hx]
        simp only [Option.bind_some]
        rw [ih (k+1) (by omega) _ _ (by simp;omega) (hl.suf ((hp hx).trans (eM h)))]
        cases nH p n x.2 with
        |none=>rfl
        |some y=>simp
theorem rJ (n:Nat) (l:List Tok):il n l=match tk (⟨#[99,104,101,99,107]⟩:ByteArray) l with
 |none=>some ([],l)
 |some r=>match n with
  |0=>none
  |n+1=>(jz r).bind fun x=>(il n x.2).map fun y=>(x.1::y.1,y.2):=by rw [il.eq_def];try (cases n<;>rfl)
theorem Jv      (l : List Tok) (hl : kB l) : aM.F (l,()) = some (res (fun x r => (x.1,r,x.2.1,x.2.2,())) (lm l)) := by
  rw [aM.eq]
  unfold aM.B
  simp only [ri,ry,oh,tN l hl.1,Option.bind_some,lm]
  cases h1:ik l with
  |none=>rfl
  |some y=>
    have hy:=hl.suf (iA h1)
    simp only [eA,Option.bind_some,eU _ y.2 hy.1,lu]
    cases h2:tk (⟨#[40]⟩:ByteArray) y.2 with
    |none=>rfl
    |some r=>
      have hr:=hy.suf (eM h2)
      simp only [Option.isSome_some,cond_true,Option.getD_some,Option.bind_some,rG r hr]
      rw [qp]
      cases h3:gR r with
      |none=>rfl
      |some c=>
        have hc:=hr.suf (uT h3)
        have d1:Nat.ble [(c.1.1,(c.1.2.1,(c.1.2.2.1,(c.1.2.2.2.1,(c.1.2.2.2.2.1,c.1.2.2.2.2.2)))))].length 2513169434916=true:=by rw [Nat.ble_eq];simp
        simp only [eA,Option.bind_some]
        rw [d1]
        simp only [cond_true,Option.bind_some]
        refine (rI gR uT (mk:=fun n acc l=>(n,y.1,acc,[],l,())) (fin:=fun acc l=>some (res (fun x r=>(y.1,r,acc,x,())) ((tk (⟨#[41]⟩:ByteArray) l).bind fun l=>il 40 l))) (bad:=.inr 70) ?_ ?_ ?_ ?_ 39 1 rfl [c.1] c.2 (by simp) hc).trans ?_
        · intro k acc q hk ha hq hn
          simp only [eU _ q hq.1,Option.bind_some,hn,Option.isSome_none,cond_false,Option.getD_none]
          cases h5:tk (⟨#[41]⟩:ByteArray) q with
          |none=>rfl
          |some v=>
            have hv:=hq.suf (eM h5)
            simp only [Option.isSome_some,cond_true,Option.getD_some,Option.bind_some]
            rw [fd (S:=(List bI)×ByteArray×(List ba)×(List (List ae))×Unit) (m:=fun x=>200-x.2.2.2.1.length) (I:=fun x=>x.2.1=y.1∧x.2.2.1=acc∧x.2.2.2.1.length≤40∧kB x.1)
              (f:=fun x=>match il (40-x.2.2.2.1.length) x.1 with|some z=> .inl (z.2,y.1,acc,x.2.2.2.1++z.1,())|none=> .inr (.inr 70)) ?_ _ ⟨rfl,rfl,by simp,hv⟩]
            · simp only [List.length_nil,Option.bind_some]
              cases il 40 v<;>rfl
            · rintro ⟨q',n',c',out,⟨⟩⟩ ⟨hn',hc',ho,hq'⟩
              simp only at hn' hc' ho hq'
              subst hn'
              subst hc'
              simp only [eU _ q' hq'.1,Option.bind_some]
              rw [rJ]
              cases h6:tk (⟨#[99,104,101,99,107]⟩:ByteArray) q' with
              |none=>
                right
                simp
              |some r'=>
                have hr':=hq'.suf (eM h6)
                simp only [Option.isSome_some,cond_true,Option.getD_some,HS r' hr',Option.bind_some]
                cases h7:jz r' with
                |none=>
                  right
                  simp only [sZ,Option.bind_some]
                  cases h3:40-out.length with
                  |zero=>rfl
                  |succ n=>rfl
                |some e=>
                  have d2:Nat.ble (out.length+ [e.1].length) 5864062014805=true:=by rw [Nat.ble_eq];simp;omega
                  simp only [eA]
                  rw [d2]
                  simp only [cond_true,Option.bind_some]
                  cases h3:40-out.length with
                  |zero=>
                    right
                    have:decide (((out++ [e.1]).length:Int)≤(40:Int))=false:=by simp;omega
                    simp only [this,cond_false]
                  |succ n=>
                    left
                    have:decide (((out++ [e.1]).length:Int)≤(40:Int))=true:=by simp;omega
                    simp only [this,cond_true]
                    refine ⟨_,rfl,⟨rfl,rfl,by simp;omega,hr'.suf (z7 h7)⟩,by simp;omega,?_⟩
                    simp only [List.length_append,List.length_singleton]
                    rw [show 40-(out.length+1)=n by omega]
                    cases il n e.2<;>simp
        · intro acc q r hk ha hq
          simp only [eU _ q ha.1,Option.bind_some,hq,Option.isSome_some,cond_true]
          rfl
        · intro k acc q r hk ha hq hr hx
          have hq2:=hq.suf (eM hr)
          have d2:decide (((k+1:Nat):Int)≤(40:Int))=true:=by simp;omega
          simp only [eU _ q hq.1,Option.bind_some,hr,Option.isSome_some,cond_true,Option.getD_some,cz (show k<40 by omega) (by decide),d2,rG r hq2,hx,sZ]
        · intro k acc q r x hk ha hq hr hx
          have hq2:=hq.suf (eM hr)
          have d2:decide (((k+1:Nat):Int)≤(40:Int))=true:=by simp;omega
          have d3:Nat.ble (acc.length+ [(x.1.1,(x.1.2.1,(x.1.2.2.1,(x.1.2.2.2.1,(x.1.2.2.2.2.1,x.1.2.2.2.2.2)))))].length) 2513169434916=true:=by rw [Nat.ble_eq];simp;omega
          simp only [eU _ q hq.1,Option.bind_some,hr,Option.isSome_some,cond_true,Option.getD_some,cz (show k<40 by omega) (by decide),d2,rG r hq2,hx,eA]
          rw [d3]
          rfl
        · cases nH gR 39 c.2 with
          |none=>rfl
          |some u=>
            simp only [Option.map_some,Option.bind_some,List.cons_append,List.nil_append]
            cases tk (⟨#[41]⟩:ByteArray) u.2 with
            |none=>rfl
            |some v=>simp only [Option.bind_some];cases il 40 v<;>rfl
end Go.Proofs.Ytleadolkcmagfaa
end
section
namespace Go.Proofs.Ytleadolkcmagfaa
open Go Lv Go.Proofs Go.RowKit Go.Shelf Dl
theorem cv {α β:Type} {x:Option α} {K:α→Option β} (v:α) (h:x=some v):x.bind K=K v:=by rw [h];rfl
theorem F9 {l:List Tok} {x} (h:mB l=some x):x.2<:+l:=by
 unfold mB at h
 split at h
 ·cases h;exact List.suffix_refl _
 ·rename_i r hr
  simp only [Option.bind_eq_some_iff,Option.map_eq_some_iff] at h
  obtain ⟨y,hy,r2,hr2,a,ha,r3,hr3,b,hb,rfl⟩:=h
  exact (((((lv hb).trans (eM hr3)).trans (lv ha)).trans (eM hr2)).trans (iA hy)).trans (eM hr)
theorem DQ {l:List Tok} {x} (h:jE l=some x):x.2<:+l:=by
 unfold jE at h
 split at h
 ·cases h;exact List.suffix_refl _
 ·rename_i r hr
  exact (z7 h).trans (eM hr)
theorem Ga {l:List Tok} {x} (h:re l=some x):x.2<:+l:=by
 unfold re at h
 split at h
 ·cases h;exact List.suffix_refl _
 ·exact HU lv h
theorem CB {l:List Tok} {x} (h:mK l=some x):x.2<:+l:=by
 simp only [mK,Option.bind_eq_some_iff] at h
 obtain ⟨y,hy,h⟩:=h
 split at h
 ·cases h;exact iT hy
 ·simp only [Option.map_eq_some_iff] at h
  obtain ⟨z,hz,rfl⟩:=h
  exact (lv hz).trans (iT hy)
theorem KS (    l : List Tok) (hl : kB l) : aU.F (l,()) = some (res (fun x r => (x.1,x.2.1,x.2.2.1,x.2.2.2.1.1,x.2.2.2.1.2,x.2.2.2.2.2.2.1,r,x.2.2.2.2.1,x.2.2.2.2.2.1,x.2.2.2.2.2.2.2,())) (nA l)) := by
  rw [aU.eq]
  unfold aU.B
  simp only [ri,ry,oh,tN l hl.1,Option.bind_some,nA]
  cases h1:ik l with
  |none=>rfl
  |some y=>
    have hy:=hl.suf (iA h1)
    simp only [eA,Option.bind_some,eU _ y.2 hy.1,lu]
    cases h2:tk (⟨#[102,114,111,109]⟩:ByteArray) y.2 with
    |none=>rfl
    |some r=>
      have hr:=hy.suf (eM h2)
      simp only [Option.isSome_some,cond_true,Option.getD_some,Option.bind_some,tN r hr.1]
      cases h3:ik r with
      |none=>rfl
      |some f=>
        have hf:=hr.suf (iA h3)
        simp only [eA,Option.bind_some]
        refine (cv (match mB f.2 with|some j=> .inl (j.2,y.1,f.1,j.1.1,j.1.2.1,j.1.2.2,false,[],[],[],())|none=> .inr (.inr 70)) ?_).trans ?_
        · simp only [eU _ f.2 hf.1,Option.bind_some]
          unfold mB
          cases h4:tk (⟨#[106,111,105,110]⟩:ByteArray) f.2 with
          |none=>rfl
          |some q=>
            have hq:=hf.suf (eM h4)
            simp only [Option.isSome_some,cond_true,Option.getD_some,Option.bind_some,tN q hq.1]
            cases h5:ik q with
            |none=>rfl
            |some n=>
              have hn:=hq.suf (iA h5)
              simp only [eA,Option.bind_some,eU _ n.2 hn.1]
              cases h6:tk (⟨#[111,110]⟩:ByteArray) n.2 with
              |none=>rfl
              |some u=>
                have hu:=hn.suf (eM h6)
                simp only [Option.isSome_some,cond_true,Option.getD_some,Option.bind_some,uS u hu.1]
                cases h7:ke u with
                |none=>rfl
                |some a=>
                  have ha:=hu.suf (lv h7)
                  have d0:(decide (0≤(0:Int))&&decide ((0:Int)<(2:Int)))=true:=by decide
                  have d1:(decide (0≤(1:Int))&&decide ((1:Int)<(2:Int)))=true:=by decide
                  simp only [eA,Option.bind_some,eU _ a.2 ha.1,d0,cond_true]
                  cases h8:tk (⟨#[61]⟩:ByteArray) a.2 with
                  |none=>rfl
                  |some e=>
                    have he:=ha.suf (eM h8)
                    simp only [Option.isSome_some,cond_true,Option.getD_some,Option.bind_some,uS e he.1]
                    cases h9:ke e with
                    |none=>rfl
                    |some b=>simp only [eA,Option.bind_some,d1,cond_true,Option.map_some]
        cases h4:mB f.2 with
        |none=>rfl
        |some j=>
          have hj:=hf.suf (F9 h4)
          simp only [Option.bind_some]
          refine (cv (match jE j.2 with|some w=> .inl (w.2,y.1,f.1,j.1.1,j.1.2.1,j.1.2.2,false,w.1,[],[],())|none=> .inr (.inr 70)) ?_).trans ?_
          · simp only [eU _ j.2 hj.1,Option.bind_some]
            unfold jE
            cases h5:tk (⟨#[119,104,101,114,101]⟩:ByteArray) j.2 with
            |none=>rfl
            |some q=>
              have hq:=hj.suf (eM h5)
              simp only [Option.isSome_some,cond_true,Option.getD_some,Option.bind_some,HS q hq]
              cases jz q<;>rfl
          cases h5:jE j.2 with
          |none=>rfl
          |some w=>
            have hw:=hj.suf (DQ h5)
            simp only [Option.bind_some,eU _ w.2 hw.1]
            cases h6:tk (⟨#[112,105,99,107]⟩:ByteArray) w.2 with
            |none=>rfl
            |some q=>
              have hq:=hw.suf (eM h6)
              simp only [Option.isSome_some,cond_true,Option.getD_some,Option.bind_some]
              refine (cv (match re q with|some p=> .inl (p.2,y.1,f.1,j.1.1,j.1.2.1,j.1.2.2,false,w.1,p.1,[],())|none=> .inr (.inr 70)) ?_).trans ?_
              · unfold re
                cases q with
                |nil=>rfl
                |cons t q'=>
                  have d1:decide (((t::q').length:Int)>(0:Int))=true:=by rw [decide_eq_true_eq];simp only [List.length_cons];omega
                  simp only [d1,cond_true,is_s _ (t::q') hq.1,Option.bind_some]
                  cases h7:tk (⟨#[103,114,111,117,112]⟩:ByteArray) (t::q') with
                  |some u=>rfl
                  |none=>
                    rw [if_neg (by simp),qp]
                    simp only [Option.isSome_none,Bool.not_false,cond_true,uS (t::q') hq.1,Option.bind_some]
                    cases h8:ke (t::q') with
                    |none=>rfl
                    |some a=>
                      have ha:=hq.suf (lv h8)
                      have d2:Nat.ble (([]:List Int).length+ [a.1].length) 17592186044416=true:=by rw [Nat.ble_eq];simp
                      simp only [eA]
                      rw [d2]
                      simp only [cond_true,Option.bind_some,List.nil_append]
                      refine (rI ke lv (mk:=fun n acc l=>(n,y.1,f.1,j.1.1,j.1.2.1,j.1.2.2,false,w.1,acc,[],l,())) (fin:=fun acc l=>some (.inl (l,y.1,f.1,j.1.1,j.1.2.1,j.1.2.2,false,w.1,acc,[],()))) (bad:=.inr (.inr 70)) ?_ ?_ ?_ ?_ 39 1 rfl [a.1] a.2 (by simp) ha).trans ?_
                      · intro k acc q hk ha hq hn
                        simp only [eU _ q hq.1,Option.bind_some,hn,Option.isSome_none,cond_false,Option.getD_none,Option.map_some]
                      · intro acc q r hk ha hq
                        simp only [eU _ q ha.1,Option.bind_some,hq,Option.isSome_some,cond_true]
                        rfl
                      · intro k acc q r hk ha hq hr hx
                        have hq2:=hq.suf (eM hr)
                        have d2:decide (((k+1:Nat):Int)≤(40:Int))=true:=by simp;omega
                        simp only [eU _ q hq.1,Option.bind_some,hr,Option.isSome_some,cond_true,Option.getD_some,cz (show k<40 by omega) (by decide),d2,uS r hq2.1,hx,sZ]
                      · intro k acc q r x hk ha hq hr hx
                        have hq2:=hq.suf (eM hr)
                        have d2:decide (((k+1:Nat):Int)≤(40:Int))=true:=by simp;omega
                        have d3:Nat.ble (acc.length+ [x.1].length) 17592186044416=true:=by rw [Nat.ble_eq];simp;omega
                        simp only [eU _ q hq.1,Option.bind_some,hr,Option.isSome_some,cond_true,Option.getD_some,cz (show k<40 by omega) (by decide),d2,uS r hq2.1,hx,eA]
                        rw [d3]
                        rfl
                      · cases nH ke 39 a.2 with
                        |none=>rfl
                        |some u=>rfl
              cases h7:re q with
              |none=>rfl
              |some p=>
                have hp:=hq.suf (Ga h7)
                simp only [Option.bind_some,eU _ p.2 hp.1]
                unfold tH
                cases h8:tk (⟨#[103,114,111,117,112]⟩:ByteArray) p.2 with
                |none=>rfl
                |some g=>
                  have hg:=hp.suf (eM h8)
                  simp only [Option.isSome_some,cond_true,Option.getD_some]
                  cases g with
                  |nil=>rfl
                  | cons t g' =>
                    have d1:decide (((t::g').length:Int)>(0:Int))=true:=by rw [decide_eq_true_eq];simp only [List.length_cons];omega
                    rw [if_neg (by simp),qp]
                    simp only [d1,cond_true]
                    refine (cv (match mK (t::g') with|some a=> .inl (y.1,f.1,j.1.1,j.1.2.1,j.1.2.2,true,w.1,p.1,[a.1],a.2,())|none=> .inr (.inr 70)) ?_).trans ?_
                    · simp only [zX _ (show [(⟨#[99,111,117,110,116]⟩:ByteArray),(⟨#[115,117,109]⟩:ByteArray),(⟨#[109,105,110]⟩:ByteArray),(⟨#[109,97,120]⟩:ByteArray)].length<1000 by decide) (t::g') hg.1,Option.bind_some,mK]
                      cases h9:gI 0 fns (t::g') with
                      |none=>rfl
                      |some a=>
                        have ha:=hg.suf (iT h9)
                        simp only [eA,Option.bind_some]
                        by_cases h0:a.1=0
                        · have b0:(a.1 !=(0:Int))=false:=by simp [h0]
                          simp only [b0,cond_false,h0,if_true]
                          rfl
                        · have b0:(a.1 !=(0:Int))=true:=by simp [h0]
                          simp only [b0,cond_true,if_neg h0,uS a.2 ha.1,Option.bind_some]
                          cases ke a.2<;>rfl
                    cases h9:mK (t::g') with
                    |none=>rfl
                    |some a=>
                      have ha:=hg.suf (CB h9)
                      simp only [Option.bind_some]
                      refine (rI mK CB (mk:=fun n acc l=>(n,y.1,f.1,j.1.1,j.1.2.1,j.1.2.2,true,w.1,p.1,acc,l,())) (fin:=fun acc l=>some (.inl (y.1,f.1,j.1.1,j.1.2.1,j.1.2.2,true,l,w.1,p.1,acc,()))) (bad:=.inr 70) ?_ ?_ ?_ ?_ 39 1 rfl [a.1] a.2 (by simp) ha).trans ?_
                      · intro k acc q hk ha hq hn
                        simp only [eU _ q hq.1,Option.bind_some,hn,Option.isSome_none,cond_false,Option.getD_none,Option.map_some]
                      · intro acc q r hk ha hq
                        simp only [eU _ q ha.1,Option.bind_some,hq,Option.isSome_some,cond_true]
                        rfl
                      · intro k acc q r hk ha hq hr hx
                        have hq2:=hq.suf (eM hr)
                        have d2:decide (((k+1:Nat):Int)≤(40:Int))=true:=by simp;omega
                        simp only [eU _ q hq.1,Option.bind_some,hr,Option.isSome_some,cond_true,Option.getD_some,cz (show k<40 by omega) (by decide),d2,zX _ (show [(⟨#[99,111,117,110,116]⟩:ByteArray),(⟨#[115,117,109]⟩:ByteArray),(⟨#[109,105,110]⟩:ByteArray),(⟨#[109,97,120]⟩:ByteArray)].length<1000 by decide) r hq2.1]
                        unfold mK at hx
                        cases h9:gI 0 fns r with
                        |none=>rfl
                        |some a=>
                          have ha:=hq2.suf (iT h9)
                          rw [h9] at hx
                          simp only [Option.bind_some] at hx
                          simp only [eA]
                          by_cases h0:a.1=0
                          · rw [if_pos h0] at hx;cases hx
                          · have b0:(a.1 !=(0:Int))=true:=by simp [h0]
                            rw [if_neg h0] at hx
                            simp only [b0,cond_true,uS a.2 ha.1,Option.bind_some]
                            cases h10:ke a.2 with
                            |none=>rfl
                            |some z=>rw [h10] at hx;cases hx
                      · intro k acc q r x hk ha' hq hr hx
                        have hq2:=hq.suf (eM hr)
                        have d2:decide (((k+1:Nat):Int)≤(40:Int))=true:=by simp;omega
                        have d3:∀z:Agg,Nat.ble (acc.length+ [z].length) 8796093022208=true:=fun z=>by rw [Nat.ble_eq];simp;omega
                        simp only [eU _ q hq.1,Option.bind_some,hr,Option.isSome_some,cond_true,Option.getD_some,cz (show k<40 by omega) (by decide),d2,zX _ (show [(⟨#[99,111,117,110,116]⟩:ByteArray),(⟨#[115,117,109]⟩:ByteArray),(⟨#[109,105,110]⟩:ByteArray),(⟨#[109,97,120]⟩:ByteArray)].length<1000 by decide) r hq2.1]
                        unfold mK at hx
                        cases h9:gI 0 fns r with
                        |none=>rw [h9] at hx;cases hx
                        |some a=>
                          have ha:=hq2.suf (iT h9)
                          rw [h9] at hx
                          simp only [Option.bind_some] at hx
                          simp only [eA]
                          by_cases h0:a.1=0
                          · rw [if_pos h0] at hx;cases hx
                            have b0:(a.1 !=(0:Int))=false:=by simp [h0]
                            simp only [b0,cond_false]
                            rw [d3]
                            simp only [cond_true,h0]
                          · have b0:(a.1 !=(0:Int))=true:=by simp [h0]
                            rw [if_neg h0] at hx
                            simp only [b0,cond_true,uS a.2 ha.1,Option.bind_some]
                            cases h10:ke a.2 with
                            |none=>rw [h10] at hx;cases hx
                            |some z=>
                              rw [h10] at hx;cases hx
                              simp only [eA]
                              rw [d3]
                              simp only [cond_true]
                      · cases nH mK 39 a.2 with
                        |none=>rfl
                        |some u=>rfl
def EP (x:Dl.Def×Int):Int×ByteArray×ByteArray×ByteArray×ByteArray×Int×Int×Bool×Int×(List ba)×(List (List ae))×(List ae)×(List Int)×(List ct)×Unit:=
 (x.1.1,x.1.2.1.1,x.1.2.2.1,x.1.2.2.2.1,x.1.2.2.2.2.1,x.1.2.2.2.2.2.1.1,x.1.2.2.2.2.2.1.2,x.1.2.2.2.2.2.2.2.2.1,x.2,x.1.2.1.2.1,x.1.2.1.2.2,x.1.2.2.2.2.2.2.1,x.1.2.2.2.2.2.2.2.1,x.1.2.2.2.2.2.2.2.2.2,())
theorem Jw (x:List Tok):x.length≤xm x:=by
 induction x with
 |nil=>simp
 |cons t x ih=>simp only [xm,List.map_cons,List.sum_cons,List.length_cons] at ih ⊢;omega
theorem CC {t:Tok} (h:ja t):t.2.1.size≤30:=by
 cases h with
 |@word w h=>
  show (bs w).size≤30
  rw [cT]
  cases w with
  |nil=>simp
  |cons c w=>simp only [gC,Bool.and_eq_true,decide_eq_true_eq] at h;exact h.2
 |@sign c h=>show (bs [c]).size≤30;rw [cT];simp
 |num _ _=>show e0.size≤30;decide
 |text _=>show e0.size≤30;decide
theorem HV {s:List UInt8} (hs:s.length≤20000) {l:List Tok} (h:jC s=some l):kB l:=by
 obtain ⟨h1,h2⟩:=AW _ s (Nat.le_refl _) l h
 have:=Jw l
 exact ⟨by omega,fun t ht=>by have:=CC (h1 t ht);omega⟩
theorem len0 {α:Type} (l:List α):((l.length:Int)==(0:Int))=decide (l=[]):=by
 cases l with
 |nil=>rfl
 |cons a l=>simp;omega
theorem Jx (s : ByteArray) : cm.F (s,()) = some (EP (kf s.data.toList)) := by
  rw [cm.eq]
  unfold cm.B
  simp only [lex_s,Option.bind_some,kf]
  have hsz:s.data.toList.length=s.size:=rfl
  rw [hsz]
  by_cases hb:20000<s.size
  · rw [if_pos hb,if_pos hb];rfl
  · rw [if_neg hb,if_neg hb]
    cases h1:jC s.data.toList with
    |none=>rfl
    |some l=>
      have hl:=HV (s:=s.data.toList) (by rw [hsz];omega) h1
      simp only [tL,List.nil_append,zX _ (show [(⟨#[116,97,98,108,101]⟩:ByteArray),(⟨#[118,105,101,119]⟩:ByteArray)].length<1000 by decide) l hl.1,lq,Dz]
      cases h2:gI 0 [(⟨#[116,97,98,108,101]⟩:ByteArray),(⟨#[118,105,101,119]⟩:ByteArray)] l with
      |none=>rfl
      |some y=>
        have hy:=hl.suf (iT h2)
        simp only [eA,Option.bind_some,lu,len0]
        by_cases h0:y.1=0
        · have b0:(y.1==(0:Int))=true:=by simp [h0]
          simp only [b0,cond_true,if_pos h0,Jv y.2 hy,Option.bind_some,bne_self_eq_false]
          cases h3:lm y.2 with
          |none=>rfl
          |some z=>
            simp only [eA,Option.map_some,Option.bind_some]
            by_cases h4:z.2=[]
            · simp only [h4,decide_true,cond_true,if_true,h0];rfl
            · simp only [h4,decide_false,cond_false,if_false];rfl
        · have b0:(y.1==(0:Int))=false:=by simp [h0]
          simp only [b0,cond_false,if_neg h0,KS y.2 hy,Option.bind_some,bne_self_eq_false]
          cases h3:nA y.2 with
          |none=>rfl
          |some z=>
            simp only [eA,Option.map_some,Option.bind_some]
            by_cases h4:z.2=[]
            · simp only [h4,decide_true,cond_true,if_true];rfl
            · simp only [h4,decide_false,cond_false,if_false];rfl
end Go.Proofs.Ytleadolkcmagfaa
end
section
namespace Go.Proofs.Ytleadolkcmagfaa
open Go Lv Go.Proofs Go.RowKit Go.Shelf Dl
def eqF {α R:Type} [DecidableEq α] (tt ff:R) (x y:List α):R:=if x=y then tt else ff
theorem jr {α R : Type} [DecidableEq α] (a b : List α) (hl : a.length = b.length) (ha : a.length < 4611686018427387904) {body : Int × Unit → Option ((Int × Unit) ⊕ R)} (tt ff : R)
    (h1:∀(i:Nat) (hi:i<a.length),body ((i:Int),())=some (if a[i]=b[i]'(by omega) then .inl (((i+1:Nat):Int),()) else .inr ff))
    (h2:body ((a.length:Int),())=some (.inr tt)):bF body ((0:Int),())=some (if a=b then tt else ff):=by
  rw [fd (m:=fun x=>a.length-x.1.toNat) (I:=fun x=>∃k:Nat,x.1=(k:Int)∧k≤a.length) (f:=fun x=>eqF tt ff (a.drop x.1.toNat) (b.drop x.1.toNat)) ?_ _ ⟨0,rfl,by omega⟩]
  · simp [eqF]
  · rintro ⟨x,⟨⟩⟩ ⟨k,hk,hle⟩
    simp only at hk
    subst hk
    simp only [Int.toNat_natCast]
    by_cases hlt:k<a.length
    · rw [h1 k hlt,List.drop_eq_getElem_cons hlt,List.drop_eq_getElem_cons (show k<b.length by omega)]
      by_cases he:a[k]=b[k]'(by omega)
      · left
        rw [if_pos he]
        refine ⟨_,rfl,⟨k+1,rfl,by omega⟩,by simp only [Int.toNat_natCast];omega,?_⟩
        simp only [Int.toNat_natCast,eqF,List.cons.injEq,he,true_and]
      · right
        rw [if_neg he];unfold eqF;rw [if_neg (fun e=>he (List.cons.inj e).1)]
    · right
      have:k=a.length:=by omega
      subst this
      rw [h2,List.drop_length,List.drop_eq_nil_of_le (by omega)];unfold eqF;rw [if_pos rfl]
theorem mM {α:Type} (a b:List α):((a.length:Int) !=(b.length:Int))= !decide (a.length=b.length):=by
 by_cases h:a.length=b.length
 ·simp [h]
 ·have:¬(a.length:Int)=(b.length:Int):=by omega
  simp [h,this,bne]
theorem EQ (t:Ty) (ht:t.plain=true) [DecidableEq t.T] (x y:t.T):t.eq x y=decide (x=y):=by
 have:=Ty.eq_dec t ht x y
 by_cases h:x=y
 ·rw [this.2 h];simp [h]
 ·have h2:¬t.eq x y=true:=fun e=>h (this.1 e)
  simp [h,h2]
theorem ER (x y:ae):Ty.eq bE x y=decide (x=y):=@EQ bE rfl (inferInstanceAs (DecidableEq ae)) x y
theorem Ab (x y:Col):Ty.eq bS x y=decide (x=y):=@EQ bS rfl (inferInstanceAs (DecidableEq Col)) x y
theorem A2 (x y:Agg):Ty.eq ej x y=decide (x=y):=@EQ ej rfl (inferInstanceAs (DecidableEq Agg)) x y
theorem A3 (a b:Int):(a !=b)= !decide (a=b):=by by_cases h:a=b<;>simp [h]
abbrev Ln {α:Type} (l:List α):Prop:=l.length<1000000000000000
theorem oo {α:Type} [DecidableEq α] {a b:List α} (h:¬a.length=b.length):decide (a=b)=false:=by
 rw [decide_eq_false_iff_not];exact fun e=>h (by rw [e])
theorem kH {p:Prop} [Decidable p]:(if p then ((true:Bool),()) else (false,()))=(decide p,()):=by by_cases h:p<;>simp [h]
theorem CD (a b:List ae) (ha:Ln a):ah.F (a,b,())=some (decide (a=b),()):=by
 rw [ah.eq]
 unfold ah.B
 simp only [mM]
 by_cases hl:a.length=b.length
 ·simp only [hl,decide_true,Bool.not_true,cond_false]
  rw [jr a b hl (by omega) (true,()) (false,()) ?_ ?_,kH]
  ·intro i hi
   have d1:decide ((i:Int)<(b.length:Int))=true:=by simp;omega
   have d0:decide (0≤(i:Int))=true:=by simp
   simp only [d1,d0,Bool.and_self,cond_true,Int.toNat_natCast,bV hi,bV (show i<b.length by omega),ER,cz hi (show a.length<9223372036854775808 by omega)]
   by_cases he:a[i]=b[i]'(by omega)<;>simp [he]
  ·have d1:decide ((a.length:Int)<(b.length:Int))=false:=by simp;omega
   simp only [d1,cond_false]
 ·simp only [hl,decide_false,Bool.not_false,cond_true,oo hl]
theorem Jy (a b:List Col) (ha:Ln a):ab.F (a,b,())=some (decide (a=b),()):=by
 rw [ab.eq]
 unfold ab.B
 simp only [mM]
 by_cases hl:a.length=b.length
 ·simp only [hl,decide_true,Bool.not_true,cond_false]
  rw [jr a b hl (by omega) (true,()) (false,()) ?_ ?_,kH]
  ·intro i hi
   have d1:decide ((i:Int)<(b.length:Int))=true:=by simp;omega
   have d0:decide (0≤(i:Int))=true:=by simp
   simp only [d1,d0,Bool.and_self,cond_true,Int.toNat_natCast,bV hi,bV (show i<b.length by omega),Ab,cz hi (show a.length<9223372036854775808 by omega)]
   by_cases he:a[i]=b[i]'(by omega)<;>simp [he]
  ·have d1:decide ((a.length:Int)<(b.length:Int))=false:=by simp;omega
   simp only [d1,cond_false]
 ·simp only [hl,decide_false,Bool.not_false,cond_true,oo hl]
theorem Jz (a b:List Agg) (ha:Ln a):af.F (a,b,())=some (decide (a=b),()):=by
 rw [af.eq]
 unfold af.B
 simp only [mM]
 by_cases hl:a.length=b.length
 ·simp only [hl,decide_true,Bool.not_true,cond_false]
  rw [jr a b hl (by omega) (true,()) (false,()) ?_ ?_,kH]
  ·intro i hi
   have d1:decide ((i:Int)<(b.length:Int))=true:=by simp;omega
   have d0:decide (0≤(i:Int))=true:=by simp
   simp only [d1,d0,Bool.and_self,cond_true,Int.toNat_natCast,bV hi,bV (show i<b.length by omega),A2,cz hi (show a.length<9223372036854775808 by omega)]
   by_cases he:a[i]=b[i]'(by omega)<;>simp [he]
  ·have d1:decide ((a.length:Int)<(b.length:Int))=false:=by simp;omega
   simp only [d1,cond_false]
 ·simp only [hl,decide_false,Bool.not_false,cond_true,oo hl]
theorem JA (a b:List Int) (ha:Ln a):ay.F (a,b,())=some (decide (a=b),()):=by
 rw [ay.eq]
 unfold ay.B
 simp only [mM]
 by_cases hl:a.length=b.length
 ·simp only [hl,decide_true,Bool.not_true,cond_false]
  rw [jr a b hl (by omega) (true,()) (false,()) ?_ ?_,kH]
  ·intro i hi
   have d1:decide ((i:Int)<(b.length:Int))=true:=by simp;omega
   have d0:decide (0≤(i:Int))=true:=by simp
   simp only [d1,d0,Bool.and_self,cond_true,Int.toNat_natCast,bV hi,bV (show i<b.length by omega),A3,cz hi (show a.length<9223372036854775808 by omega)]
   by_cases he:a[i]=b[i]'(by omega)<;>simp [he]
  ·have d1:decide ((a.length:Int)<(b.length:Int))=false:=by simp;omega
   simp only [d1,cond_false]
 ·simp only [hl,decide_false,Bool.not_false,cond_true,oo hl]
theorem CE (a b:List ae) (ha:Ln a):dx.F (a,b,())=some (decide (a=b),()):=by
 rw [dx.eq]
 unfold dx.B
 simp only [mM]
 by_cases hl:a.length=b.length
 ·simp only [hl,decide_true,Bool.not_true,cond_false]
  rw [jr a b hl (by omega) (true,()) (false,()) ?_ ?_,kH]
  ·intro i hi
   have d1:decide ((i:Int)<(b.length:Int))=true:=by simp;omega
   have d0:decide (0≤(i:Int))=true:=by simp
   simp only [d1,d0,Bool.and_self,cond_true,Int.toNat_natCast,bV hi,bV (show i<b.length by omega),ER,cz hi (show a.length<9223372036854775808 by omega)]
   by_cases he:a[i]=b[i]'(by omega)<;>simp [he]
  ·have d1:decide ((a.length:Int)<(b.length:Int))=false:=by simp;omega
   simp only [d1,cond_false]
 ·simp only [hl,decide_false,Bool.not_false,cond_true,oo hl]
theorem ES (a b:List Int) (ha:Ln a):dy.F (a,b,())=some (decide (a=b),()):=by
 rw [dy.eq]
 unfold dy.B
 simp only [mM]
 by_cases hl:a.length=b.length
 ·simp only [hl,decide_true,Bool.not_true,cond_false]
  rw [jr a b hl (by omega) (true,()) (false,()) ?_ ?_,kH]
  ·intro i hi
   have d1:decide ((i:Int)<(b.length:Int))=true:=by simp;omega
   have d0:decide (0≤(i:Int))=true:=by simp
   simp only [d1,d0,Bool.and_self,cond_true,Int.toNat_natCast,bV hi,bV (show i<b.length by omega),A3,cz hi (show a.length<9223372036854775808 by omega)]
   by_cases he:a[i]=b[i]'(by omega)<;>simp [he]
  ·have d1:decide ((a.length:Int)<(b.length:Int))=false:=by simp;omega
   simp only [d1,cond_false]
 ·simp only [hl,decide_false,Bool.not_false,cond_true,oo hl]
theorem A4 (n : ByteArray) (c : List Col) (k : List (List ae)) (n' : ByteArray) (c' : List Col) (k' : List (List ae)) (hc : Ln c) (hk : Ln k) (hkk : ∀ e ∈ k,Ln e) :
    bP.F (n,c,k,n',c',k',())=some (decide (n=n')&&(decide (c=c')&&decide (k=k')),()):=by
  rw [bP.eq]
  unfold bP.B
  simp only [mM,dZ]
  by_cases hn:n=n'
  · simp only [hn,decide_true,Bool.not_true,cond_false]
    by_cases hl:c.length=c'.length
    · simp only [hl,decide_true,Bool.not_true,cond_false]
      by_cases hl2:k.length=k'.length
      · simp only [hl2,decide_true,Bool.not_true,cond_false,Option.bind_some]
        rw [jr c c' hl (by omega) (.inl ()) (.inr (false,())) ?_ ?_]
        · by_cases hcc:c=c'
          · simp only [if_pos hcc,Option.bind_some]
            rw [jr k k' hl2 (by omega) (true,()) (false,()) ?_ ?_,kH]
            · simp [hcc]
            · intro i hi
              have d1:decide ((i:Int)<(k'.length:Int))=true:=by simp;omega
              have d0:decide (0≤(i:Int))=true:=by simp
              simp only [d1,d0,Bool.and_self,cond_true,Int.toNat_natCast,bV hi,bV (show i<k'.length by omega),CE _ _ (hkk _ (List.getElem_mem hi)),Option.bind_some,cz hi (show k.length<9223372036854775808 by omega)]
              by_cases he:k[i]=k'[i]'(by omega)<;>simp [he]
            · have d1:decide ((k.length:Int)<(k'.length:Int))=false:=by simp;omega
              simp only [d1,cond_false]
          · simp only [if_neg hcc,Option.bind_some]
            simp [hcc]
        · intro i hi
          have d1:decide ((i:Int)<(c'.length:Int))=true:=by simp;omega
          have d0:decide (0≤(i:Int))=true:=by simp
          simp only [d1,d0,Bool.and_self,cond_true,Int.toNat_natCast,bV hi,bV (show i<c'.length by omega),Ab,cz hi (show c.length<9223372036854775808 by omega)]
          by_cases he:c[i]=c'[i]'(by omega)<;>simp [he]
        · have d1:decide ((c.length:Int)<(c'.length:Int))=false:=by simp;omega
          simp only [d1,cond_false]
      · simp only [hl2,decide_false,Bool.not_false,cond_true,Option.bind_some]
        have:¬k=k':=fun e=>hl2 (by rw [e])
        simp [this]
    · simp only [hl,decide_false,Bool.not_false,cond_true,Option.bind_some]
      have:¬c=c':=fun e=>hl (by rw [e])
      simp [this]
  · simp only [hn,decide_false,Bool.not_false,cond_true,Option.bind_some]
    simp [hn]
theorem CF (n f w:ByteArray) (o1 o2:Int) (wh:List ae) (p:List Int) (g:Bool) (a:List Agg) (n' f' w':ByteArray) (o1' o2':Int) (wh':List ae) (p':List Int) (g':Bool) (a':List Agg) (h1:Ln wh) (h2:Ln p) (h3:Ln a):
 ch.F (n,f,w,o1,o2,wh,p,g,a,n',f',w',o1',o2',wh',p',g',a',())=some (decide (n=n')&&(decide (f=f')&&(decide (w=w')&&(decide (((o1,o2):Agg)=(o1',o2'))&&(decide (wh=wh')&&(decide (p=p')&&(decide (g=g')&&decide (a=a'))))))),()):=by
 rw [ch.eq]
 unfold ch.B
 simp only [mM,dZ,A2,CE _ _ h1,ES _ _ h2,Option.bind_some]
 have hg:(g==g')=decide (g=g'):=by cases g<;>cases g'<;>rfl
 rw [hg]
 by_cases e1:n=n'
 case neg=>simp [e1]
 by_cases e2:f=f'
 case neg=>simp [e1,e2]
 by_cases e3:w=w'
 case neg=>simp [e1,e2,e3]
 by_cases e4:((o1,o2):Agg)=(o1',o2')
 case neg=>rw [show decide (((o1,o2):Agg)=(o1',o2'))=false from decide_eq_false e4];simp [e1,e2,e3]
 rw [show decide (((o1,o2):Agg)=(o1',o2'))=true from decide_eq_true e4]
 by_cases e5:wh=wh'
 case neg=>simp [e1,e2,e3,e5]
 by_cases e6:p=p'
 case neg=>simp [e1,e2,e3,e5,e6]
 by_cases e7:g=g'
 case neg=>simp [e1,e2,e3,e5,e6,e7]
 simp only [e1,e2,e3,e5,e6,e7,decide_true,Bool.not_true,cond_false,Option.bind_some,Bool.true_and]
 by_cases hl:a.length=a'.length
 ·simp only [hl,decide_true,Bool.not_true,cond_false]
  rw [jr a a' hl (by omega) (true,()) (false,()) ?_ ?_,kH]
  ·intro i hi
   have d1:decide ((i:Int)<(a'.length:Int))=true:=by simp;omega
   have d0:decide (0≤(i:Int))=true:=by simp
   simp only [d1,d0,Bool.and_self,cond_true,Int.toNat_natCast,bV hi,bV (show i<a'.length by omega),A2,cz hi (show a.length<9223372036854775808 by omega)]
   by_cases he:a[i]=a'[i]'(by omega)<;>simp [he]
  ·have d1:decide ((a.length:Int)<(a'.length:Int))=false:=by simp;omega
   simp only [d1,cond_false]
 ·simp only [hl,decide_false,Bool.not_false,cond_true,oo hl]
def oQ (x y:Dl.Def):Bool:=decide (x.1=y.1)&&((decide (x.2.1.1=y.2.1.1)&&(decide (x.2.1.2.1=y.2.1.2.1)&&decide (x.2.1.2.2=y.2.1.2.2)))&&
 (decide (x.2.2.1=y.2.2.1)&&(decide (x.2.2.2.1=y.2.2.2.1)&&(decide (x.2.2.2.2.1=y.2.2.2.2.1)&&(decide (x.2.2.2.2.2.1=y.2.2.2.2.2.1)&&(decide (x.2.2.2.2.2.2.1=y.2.2.2.2.2.2.1)&&(decide (x.2.2.2.2.2.2.2.1=y.2.2.2.2.2.2.2.1)&&(decide (x.2.2.2.2.2.2.2.2.1=y.2.2.2.2.2.2.2.2.1)&&decide (x.2.2.2.2.2.2.2.2.2=y.2.2.2.2.2.2.2.2.2)))))))))
theorem nI (x y:Dl.Def):oQ x y=true↔x=y:=by
 obtain ⟨a1,⟨a2,a3,a4⟩,a5,a6,a7,a8,a9,a10,a11,a12⟩:=x
 obtain ⟨b1,⟨b2,b3,b4⟩,b5,b6,b7,b8,b9,b10,b11,b12⟩:=y
 simp only [oQ,Bool.and_eq_true,decide_eq_true_eq,Prod.mk.injEq]
structure DLn (x:Dl.Def):Prop where
 cols:Ln x.2.1.2.1
 checks:Ln x.2.1.2.2
 each:∀e∈x.2.1.2.2,Ln e
 whr:Ln x.2.2.2.2.2.2.1
 pick:Ln x.2.2.2.2.2.2.2.1
 aggs:Ln x.2.2.2.2.2.2.2.2.2
theorem JB (a1:Int) (a2:ByteArray) (a3:List Col) (a4:List (List ae)) (a5 a6 a7:ByteArray) (a8 a8':Int) (a9:List ae) (a10:List Int) (a11:Bool) (a12:List Agg) (b1:Int) (b2:ByteArray) (b3:List Col) (b4:List (List ae)) (b5 b6 b7:ByteArray) (b8 b8':Int) (b9:List ae) (b10:List Int) (b11:Bool) (b12:List Agg)
 (h:DLn (a1,((a2,(a3,a4)),(a5,(a6,(a7,((a8,a8'),(a9,(a10,(a11,a12)))))))))):
 dz.F (a1,a2,a3,a4,a5,a6,a7,a8,a8',a9,a10,a11,a12,b1,b2,b3,b4,b5,b6,b7,b8,b8',b9,b10,b11,b12,())=
  some (oQ (a1,((a2,(a3,a4)),(a5,(a6,(a7,((a8,a8'),(a9,(a10,(a11,a12))))))))) (b1,((b2,(b3,b4)),(b5,(b6,(b7,((b8,b8'),(b9,(b10,(b11,b12))))))))),()):=by
 rw [dz.eq]
 unfold dz.B
 simp only [A4 a2 a3 a4 b2 b3 b4 h.cols h.checks h.each,CF a5 a6 a7 a8 a8' a9 a10 a11 a12 b5 b6 b7 b8 b8' b9 b10 b11 b12 h.whr h.pick h.aggs,Option.bind_some,oQ]
 have h0:(a1==b1)=decide (a1=b1):=by by_cases e:a1=b1<;>simp [e]
 rw [h0]
 cases decide (a1=b1)
 ·rfl
 ·simp only [cond_true,Bool.true_and]
  cases (decide (a2=b2)&&(decide (a3=b3)&&decide (a4=b4)))
  ·rfl
  ·simp only [cond_true,Bool.true_and]
theorem KT (a1 : Int) (a2 : ByteArray) (a3 : List Col) (a4 : List (List ae)) (a5 a6 a7 : ByteArray) (a8 a8' : Int) (a9 : List ae) (a10 : List Int) (a11 : Bool) (a12 : List Agg) (b1 : Int) (b2 : ByteArray) (b3 : List Col) (b4 : List (List ae)) (b5 b6 b7 : ByteArray) (b8 b8' : Int) (b9 : List ae) (b10 : List Int) (b11 : Bool) (b12 : List Agg)
    (h:DLn (a1,((a2,(a3,a4)),(a5,(a6,(a7,((a8,a8'),(a9,(a10,(a11,a12)))))))))):
    cS.F (a1,a2,a3,a4,a5,a6,a7,a8,a8',a9,a10,a11,a12,b1,b2,b3,b4,b5,b6,b7,b8,b8',b9,b10,b11,b12,())=
      some (oQ (a1,((a2,(a3,a4)),(a5,(a6,(a7,((a8,a8'),(a9,(a10,(a11,a12))))))))) (b1,((b2,(b3,b4)),(b5,(b6,(b7,((b8,b8'),(b9,(b10,(b11,b12))))))))),()):=by
  rw [cS.eq]
  unfold cS.B
  have h0:(a1==b1)=decide (a1=b1):=by by_cases e:a1=b1<;>simp [e]
  have hg:(a11==b11)=decide (a11=b11):=by cases a11<;>cases b11<;>rfl
  have tail:∀(c:Bool) {R:Type} (K:(Bool×Unit)⊕R→Option (Bool×Unit)),Option.bind (
      (bif decide (a5=b5) then (bif decide (a6=b6) then (bif decide (a7=b7) then (bif decide (((a8,a8'):Agg)=(b8,b8')) then
      (bif decide (a9=b9) then (bif decide (a10=b10) then (bif decide (a11=b11) then some (.inl (decide (a12=b12),())) else some (.inl (false,()))) else some (.inl (false,()))) else some (.inl (false,()))) else some (.inl (false,()))) else some (.inl (false,()))) else some (.inl (false,()))) else some (.inl (false,()))):Option ((Bool×Unit)⊕R)) K=
      K (.inl (decide (a5=b5)&&(decide (a6=b6)&&(decide (a7=b7)&&(decide (((a8,a8'):Agg)=(b8,b8'))&&(decide (a9=b9)&&(decide (a10=b10)&&(decide (a11=b11)&&decide (a12=b12))))))),())):=by
    intro c R K
    cases decide (a5=b5)<;>try rfl
    cases decide (a6=b6)<;>try rfl
    cases decide (a7=b7)<;>try rfl
    cases decide (((a8,a8'):Agg)=(b8,b8'))<;>try rfl
    cases decide (a9=b9)<;>try rfl
    cases decide (a10=b10)<;>try rfl
    cases decide (a11=b11)<;>rfl
  simp only [mM,dZ,A2,CD _ _ h.whr,JA _ _ h.pick,Jz _ _ h.aggs,Jy _ _ h.cols,Option.bind_some,h0,hg]
  have col:∀(c:Bool) {R:Type} (K:(Bool×Unit)⊕R→Option (Bool×Unit)),Option.bind ((bif decide (a2=b2) then (bif decide (a3=b3) then some (.inl (c,())) else some (.inl (false,()))) else some (.inl (false,()))):Option ((Bool×Unit)⊕R)) K=
      K (.inl (decide (a2=b2)&&(decide (a3=b3)&&c),())):=by
    intro c R K
    cases decide (a2=b2)<;>try rfl
    cases decide (a3=b3)<;>rfl
  have fin:∀(x y:Bool),(bif decide (a1=b1) then (bif x then some (y,()) else some (false,())) else some (false,()):Option (Bool×Unit))=some (decide (a1=b1)&&(x&&y),()):=by
    intro x y
    cases decide (a1=b1)<;>cases x<;>rfl
  have hS:∀(a b:List ae),Ln a→cQ.F (a,b,())=some (decide (a=b),()):=fun a b ha=>by
    rw [cQ.eq]
    unfold cQ.B
    simp only [CD a b ha,Option.bind_some]
  by_cases hl:a4.length=b4.length
  · simp only [hl,decide_true,Bool.not_true,cond_false]
    rw [jr a4 b4 hl (by have:=h.checks;simp only at this;omega) (decide (a1=b1)&&((decide (a2=b2)&&(decide (a3=b3)&&true))&&(decide (a5=b5)&&(decide (a6=b6)&&(decide (a7=b7)&&(decide (((a8,a8'):Agg)=(b8,b8'))&&(decide (a9=b9)&&(decide (a10=b10)&&(decide (a11=b11)&&decide (a12=b12))))))))),()) (false,()) ?_ ?_]
    · simp only [oQ]
      by_cases he:a4=b4
      · simp [he]
      · simp [he]
    · intro i hi
      have hlen:=h.checks
      simp only at hlen
      have d1:decide ((i:Int)<(b4.length:Int))=true:=by simp;omega
      have d0:decide (0≤(i:Int))=true:=by simp
      simp only [d1,d0,Bool.and_self,cond_true,Int.toNat_natCast,bV hi,bV (show i<b4.length by omega),hS _ _ (h.each _ (List.getElem_mem hi)),Option.bind_some,cz hi (show a4.length<9223372036854775808 by omega)]
      by_cases he:a4[i]=b4[i]'(by omega)
      · simp only [he,decide_true,Bool.not_true,cond_false,if_true]
      · simp only [he,decide_false,Bool.not_false,cond_true,if_false]
        have cf:∀{R:Type} (K:(Bool×Unit)⊕R→Option (Bool×Unit)),Option.bind ((bif decide (a2=b2) then (bif decide (a3=b3) then some (.inl (false,())) else some (.inl (false,()))) else some (.inl (false,()))):Option ((Bool×Unit)⊕R)) K=K (.inl (false,())):=by
          intro R K
          rw [col]
          simp
        rw [cf]
        simp only []
        rw [tail false]
        simp only [cond_false]
        cases decide (a1=b1)<;>rfl
    · have d1:decide ((a4.length:Int)<(b4.length:Int))=false:=by simp;omega
      simp only [d1,cond_false]
      rw [col]
      simp only []
      rw [tail false]
      simp only [fin,Option.map_some]
  · simp only [hl,decide_false,Bool.not_false,cond_true,oQ,oo hl,Bool.and_false,Bool.false_and]
    have cf:∀{R:Type} (K:(Bool×Unit)⊕R→Option (Bool×Unit)),Option.bind ((bif decide (a2=b2) then (bif decide (a3=b3) then some (.inl (false,())) else some (.inl (false,()))) else some (.inl (false,()))):Option ((Bool×Unit)⊕R)) K=K (.inl (false,())):=by
      intro R K
      rw [col]
      simp
    rw [cf]
    simp only []
    rw [tail false]
    simp only [cond_false]
    cases decide (a1=b1)<;>rfl
end Go.Proofs.Ytleadolkcmagfaa
end
section
namespace Go.Proofs.Ytleadolkcmagfaa
open Go Lv Go.Proofs Go.RowKit Go.Shelf Dl
theorem tO (c:UInt8):cD.F ((c.toNat:Int),())=some (fp c,()):=by
 rw [cD.eq]
 unfold cD.B fp
 have i1:((c.toNat:Int)≥(97:Int))↔97≤c.toNat:=by omega
 have i2:((c.toNat:Int)≤(122:Int))↔c.toNat≤122:=by omega
 simp only [i1,i2]
 cases decide (97≤c.toNat)<;>rfl
theorem s6 (c:UInt8):cH.F ((c.toNat:Int),())=some (digit c,()):=by
 rw [cH.eq]
 unfold cH.B digit
 have i1:((c.toNat:Int)≥(48:Int))↔48≤c.toNat:=by omega
 have i2:((c.toNat:Int)≤(57:Int))↔c.toNat≤57:=by omega
 simp only [i1,i2]
 cases decide (48≤c.toNat)<;>rfl
theorem CG (c:UInt8):cU.F ((c.toNat:Int),())=some (cG c,()):=by
 rw [cU.eq]
 unfold cU.B cG
 simp only [tO,s6,Option.bind_some]
 have e1:((c.toNat:Int)==(95:Int))=decide (c=95):=kA c 95 (by decide)
 rw [e1]
 cases fp c<;>cases digit c<;>rfl
theorem ET (b : ByteArray) (hb : b.size < 1000000000000000000) : dv.F (b,()) = some (jD b,()) := by
  rw [dv.eq]
  unfold dv.B
  simp only []
  rw [fd (S:=Int×Unit) (m:=fun x=>b.size-x.1.toNat) (I:=fun x=>∃k:Nat,x.1=(k:Int)∧k≤b.size) (f:=fun x=>bif (lst b x.1.toNat).all cG then .inl () else .inr (false,())) ?_ _ ⟨0,rfl,by omega⟩]
  · have e0:lst b (0:Int).toNat=b.data.toList:=rfl
    rw [e0]
    unfold jD
    cases hl:b.data.toList with
    |nil=>
      have hz:b.size=0:=by show b.data.toList.length=0;rw [hl];rfl
      simp only [List.all_nil,cond_true,Option.bind_some,hz,gC]
      rfl
    |cons c l=>
      have hz:b.size=(c::l).length:=by show b.data.toList.length=_;rw [hl]
      have hst:lst b 0=c::l:=hl
      have e3:eL b 0=(c.toNat:Int):=(ey hst).2.2
      simp only [gC]
      cases ha:(c::l).all cG with
      |false=>simp
      |true=>
        have d1:decide ((b.size:Int)≥(1:Int))=true:=by rw [decide_eq_true_eq,hz];simp only [List.length_cons];omega
        have d2:(decide (0≤(0:Int))&&decide ((0:Int)<(b.size:Int)))=true:=by rw [hz];simp only [Bool.and_eq_true,decide_eq_true_eq,List.length_cons];omega
        have d3:decide ((b.size:Int)≤(30:Int))=decide ((c::l).length≤30):=by rw [hz];simp only [decide_eq_decide];omega
        simp only [cond_true,Option.bind_some,d1,d2,d3,e3,tO]
        cases decide ((c::l).length≤30)<;>simp
  · rintro ⟨x,⟨⟩⟩ ⟨k,hk,hle⟩
    simp only at hk
    subst hk
    simp only [Int.toNat_natCast]
    by_cases hlt:k<b.size
    · obtain ⟨c,r,e⟩:=mL hlt
      obtain ⟨_,e1,e2⟩:=ey e
      have d1:decide ((k:Int)<(b.size:Int))=true:=by simp;omega
      have d0:decide (0≤(k:Int))=true:=by simp
      simp only [d1,d0,Bool.and_self,cond_true,e2,CG,Option.bind_some]
      rw [e,List.all_cons]
      cases hc:cG c with
      |true=>
        left
        simp only [Bool.not_true,cond_false,cz hlt (show b.size<9223372036854775808 by omega)]
        refine ⟨_,rfl,⟨k+1,rfl,by omega⟩,by simp only [Int.toNat_natCast];omega,?_⟩
        simp only [Int.toNat_natCast,e1,Bool.true_and]
      |false=>
        right
        rfl
    · right
      have d1:decide ((k:Int)<(b.size:Int))=false:=by simp;omega
      have:lst b k=[]:=by
        have:=eP b k
        exact List.length_eq_zero_iff.1 (by omega)
      simp only [d1,cond_false,this,List.all_nil,cond_true]
theorem JC (K : List ByteArray) (hK : K.length < 1000) (b : ByteArray) : bF (S := Int × Unit) (R := Bool × Unit) (fun (x4,_) =>
  (bif (decide (x4<(K.length:Int))) then
  bif (decide (0≤x4)&&decide (x4<(K.length:Int))) then
  let e1:ByteArray:=(List.getD K (Int.toNat x4) (⟨#[]⟩:ByteArray))
  (bif (e1.toList==b.toList) then
  some (.inr (true,()))
  else
  let e2:Int:=(IntKind.i64.wrap (x4+(1:Int)))
  some (.inl (e2,())))
  else none
  else
  some (.inr (false,())))) ((0:Int),())=some (K.any fun k=>decide (k=b),()):=by
  rw [fd (S:=Int×Unit) (R:=Bool×Unit) (m:=fun x=>K.length-x.1.toNat) (I:=fun x=>∃k:Nat,x.1=(k:Int)∧k≤K.length) (f:=fun x=>((K.drop x.1.toNat).any fun k=>decide (k=b),())) ?_ _ ⟨0,rfl,by omega⟩]
  · simp
  · rintro ⟨x,⟨⟩⟩ ⟨k,hk,hle⟩
    simp only at hk
    subst hk
    simp only [Int.toNat_natCast]
    by_cases hlt:k<K.length
    · have d1:decide ((k:Int)<(K.length:Int))=true:=by simp;omega
      have d0:decide (0≤(k:Int))=true:=by simp
      simp only [d1,d0,Bool.and_self,cond_true,Int.toNat_natCast,bV hlt,dZ,cz hlt (show K.length<9223372036854775808 by omega)]
      rw [List.drop_eq_getElem_cons hlt,List.any_cons]
      by_cases he:K[k]=b
      · right
        simp only [he,decide_true,cond_true,Bool.true_or]
      · left
        simp only [he,decide_false,cond_false,Bool.false_or]
        exact ⟨_,rfl,⟨k+1,rfl,by omega⟩,by simp only [Int.toNat_natCast];omega,rfl⟩
    · right
      have d1:decide ((k:Int)<(K.length:Int))=false:=by simp;omega
      simp only [d1,cond_false]
      rw [List.drop_eq_nil_of_le (by omega)]
      rfl
theorem DR (b:ByteArray):cB.F (b,())=some (kc.any fun k=>decide (k=b),()):=by
 rw [cB.eq]
 exact JC kc (by decide) b
theorem JD (b:ByteArray) (hb:b.size<1000000000000000000):dG.F (b,())=some (isName b,()):=by
 rw [dG.eq]
 unfold dG.B isName
 simp only [ET b hb,DR,Option.bind_some]
 cases jD b<;>rfl
def s7 (e:List ae):Bool:=e.any (fun x=>decide (1000<x.2.2.2.2.size))||decide (120<e.length)
theorem EU (e : List ae) (he : Ln e) : dX.F (e,()) = some (s7 e,()) := by
  rw [dX.eq]
  unfold dX.B
  simp only []
  rw [fd (S:=Int×Unit) (m:=fun x=>e.length-x.1.toNat) (I:=fun x=>∃k:Nat,x.1=(k:Int)∧k≤e.length) (f:=fun x=>bif (e.drop x.1.toNat).any (fun x=>decide (1000<x.2.2.2.2.size)) then .inr (true,()) else .inl ()) ?_ _ ⟨0,rfl,by omega⟩]
  · have:decide ((e.length:Int)>(120:Int))=decide (120<e.length):=by simp only [decide_eq_decide];omega
    simp only [this,Int.toNat_zero,List.drop_zero,s7,Option.bind_some]
    cases e.any (fun x=>decide (1000<x.2.2.2.2.size))<;>rfl
  · rintro ⟨x,⟨⟩⟩ ⟨k,hk,hle⟩
    simp only at hk
    subst hk
    simp only [Int.toNat_natCast]
    by_cases hlt:k<e.length
    · have d1:decide ((k:Int)<(e.length:Int))=true:=by simp;omega
      have d0:decide (0≤(k:Int))=true:=by simp
      have d2:decide ((e[k].2.2.2.2.size:Int)>(1000:Int))=decide (1000<e[k].2.2.2.2.size):=by simp only [decide_eq_decide];omega
      simp only [d1,d0,Bool.and_self,cond_true,bV hlt,d2,cz hlt (show e.length<9223372036854775808 by omega)]
      rw [List.drop_eq_getElem_cons hlt,List.any_cons]
      cases decide (1000<e[k].2.2.2.2.size) with
      |true=>right;rfl
      |false=>
        left
        simp only [cond_false,Bool.false_or]
        exact ⟨_,rfl,⟨k+1,rfl,by omega⟩,by simp only [Int.toNat_natCast];omega,rfl⟩
    · right
      have d1:decide ((k:Int)<(e.length:Int))=false:=by simp;omega
      simp only [d1,cond_false]
      rw [List.drop_eq_nil_of_le (by omega)]
      rfl
structure Sm (d:Dl.Def):Prop where
 cols:d.2.1.2.1.length≤400
 checks:d.2.1.2.2.length≤400
 each:∀e∈d.2.1.2.2,s7 e=false
 whr:s7 d.2.2.2.2.2.2.1=false
 pick:d.2.2.2.2.2.2.2.1.length≤400
 aggs:d.2.2.2.2.2.2.2.2.2.length≤400
 names:∀c∈d.2.1.2.1,c.1.size≤100∧c.2.2.2.2.1.size≤100
 n1:d.2.1.1.size≤100
 n2:d.2.2.1.size≤100
 n3:d.2.2.2.1.size≤100
 n4:d.2.2.2.2.1.size≤100
theorem big_s (a1 : Int) (a2 : ByteArray) (a3 : List Col) (a4 : List (List ae)) (a5 a6 a7 : ByteArray) (a8 a8' : Int) (a9 : List ae) (a10 : List Int) (a11 : Bool) (a12 : List Agg)
    (h:DLn (a1,((a2,(a3,a4)),(a5,(a6,(a7,((a8,a8'),(a9,(a10,(a11,a12)))))))))):
    ∃b,ea.F (a1,a2,a3,a4,a5,a6,a7,a8,a8',a9,a10,a11,a12,())=some (b,())∧(b=false→Sm (a1,((a2,(a3,a4)),(a5,(a6,(a7,((a8,a8'),(a9,(a10,(a11,a12)))))))))):=by
  have l1:a3.length<1000000000000000:=h.cols
  have l2:a4.length<1000000000000000:=h.checks
  have l3:a9.length<1000000000000000:=h.whr
  have l4:a10.length<1000000000000000:=h.pick
  have l5:a12.length<1000000000000000:=h.aggs
  rw [ea.eq]
  unfold ea.B
  simp only []
  have e1:IntKind.i64.wrap ((a3.length:Int)+(a4.length:Int))=((a3.length+a4.length:Nat):Int):=by rw [dn]<;>omega
  have e2:IntKind.i64.wrap (((a3.length+a4.length:Nat):Int)+(a10.length:Int))=((a3.length+a4.length+a10.length:Nat):Int):=by rw [dn]<;>omega
  have e3:IntKind.i64.wrap (((a3.length+a4.length+a10.length:Nat):Int)+(a12.length:Int))=((a3.length+a4.length+a10.length+a12.length:Nat):Int):=by rw [dn]<;>omega
  have e4:IntKind.i64.wrap (((a3.length+a4.length+a10.length+a12.length:Nat):Int)+(a9.length:Int))=((a3.length+a4.length+a10.length+a12.length+a9.length:Nat):Int):=by rw [dn]<;>omega
  simp only [e1,e2,e3,e4]
  rw [fd (S:=Int×Int×Unit) (m:=fun x=>a4.length-x.2.1.toNat) (I:=fun x=>∃k n:Nat,x.2.1=(k:Int)∧x.1=(n:Int)∧k≤a4.length∧n≤5000000000000000+120*k)
    (f:=fun x=>bif (a4.drop x.2.1.toNat).any s7 then .inr (true,()) else .inl (x.1+(((a4.drop x.2.1.toNat).map List.length).sum:Nat),())) ?_ _ ⟨0,_,rfl,rfl,by omega,by omega⟩]
  · simp only [Int.toNat_zero,List.drop_zero,Option.bind_some]
    cases hb:a4.any s7 with
    |true=>exact ⟨true,rfl,fun e=>by cases e⟩
    | false =>
      simp only [cond_false]
      rw [fd (S:=Int×Unit) (m:=fun x=>a3.length-x.1.toNat) (I:=fun x=>∃k:Nat,x.1=(k:Int)∧k≤a3.length)
        (f:=fun x=>bif (a3.drop x.1.toNat).any (fun c=>decide (100<c.1.size)||decide (100<c.2.2.2.2.1.size)) then .inr (true,()) else .inl ()) ?_ _ ⟨0,rfl,by omega⟩]
      · simp only [Int.toNat_zero,List.drop_zero,Option.bind_some]
        cases hc:a3.any (fun c=>decide (100<c.1.size)||decide (100<c.2.2.2.2.1.size)) with
        |true=>exact ⟨true,rfl,fun e=>by cases e⟩
        | false =>
          simp only [cond_false,EU a9 h.whr,Option.bind_some]
          generalize hm:((a4.map List.length).sum:Nat)=m
          have hz:∀b:ByteArray,decide ((b.size:Int)>(100:Int))=decide (100<b.size):=fun b=>by simp only [decide_eq_decide];omega
          simp only [hz]
          by_cases hn:(((a3.length+a4.length+a10.length+a12.length+a9.length:Nat):Int)+(m:Int)>(400:Int))
          · rw [decide_eq_true hn];exact ⟨true,rfl,fun e=>by cases e⟩
          · rw [decide_eq_false hn]
            cases hw:s7 a9 with
            |true=>exact ⟨true,rfl,fun e=>by cases e⟩
            |false=>
              by_cases s1:100<a2.size
              · rw [decide_eq_true s1];exact ⟨true,rfl,fun e=>by cases e⟩
              by_cases s2:100<a5.size
              · rw [decide_eq_false s1,decide_eq_true s2];exact ⟨true,rfl,fun e=>by cases e⟩
              by_cases s3:100<a6.size
              · rw [decide_eq_false s1,decide_eq_false s2,decide_eq_true s3];exact ⟨true,rfl,fun e=>by cases e⟩
              rw [decide_eq_false s1,decide_eq_false s2,decide_eq_false s3]
              refine ⟨_,rfl,fun e=>?_⟩
              rw [decide_eq_false_iff_not] at e
              rw [List.any_eq_false] at hb hc
              exact ⟨show a3.length≤400 by omega,show a4.length≤400 by omega,fun e he=>by simpa using hb e he,hw,show a10.length≤400 by omega,show a12.length≤400 by omega,
                fun c hcm=>by have:=hc c hcm;simp only [Bool.or_eq_true,decide_eq_true_eq] at this;omega,show a2.size≤100 by omega,show a5.size≤100 by omega,show a6.size≤100 by omega,show a7.size≤100 by omega⟩
      · rintro ⟨x,⟨⟩⟩ ⟨k,hk,hle⟩
        simp only at hk
        subst hk
        simp only [Int.toNat_natCast]
        by_cases hlt:k<a3.length
        · have d1:decide ((k:Int)<(a3.length:Int))=true:=by simp;omega
          have d0:decide (0≤(k:Int))=true:=by simp
          have hz:∀b:ByteArray,decide ((b.size:Int)>(100:Int))=decide (100<b.size):=fun b=>by simp only [decide_eq_decide];omega
          simp only [d1,d0,Bool.and_self,cond_true,bV hlt,hz,cz hlt (show a3.length<9223372036854775808 by omega)]
          rw [List.drop_eq_getElem_cons hlt,List.any_cons]
          cases decide (100<a3[k].1.size) with
          |true=>right;rfl
          |false=>
            cases decide (100<a3[k].2.2.2.2.1.size) with
            |true=>right;rfl
            |false=>
              left
              simp only [cond_false,Bool.false_or]
              exact ⟨_,rfl,⟨k+1,rfl,by omega⟩,by simp only [Int.toNat_natCast];omega,rfl⟩
        · right
          have d1:decide ((k:Int)<(a3.length:Int))=false:=by simp;omega
          simp only [d1,cond_false]
          rw [List.drop_eq_nil_of_le (by omega)]
          rfl
  · rintro ⟨n',x,⟨⟩⟩ ⟨k,n,hk,hn,hle,hb⟩
    simp only at hk hn
    subst hk
    subst hn
    simp only [Int.toNat_natCast]
    by_cases hlt:k<a4.length
    · have d1:decide ((k:Int)<(a4.length:Int))=true:=by simp;omega
      have d0:decide (0≤(k:Int))=true:=by simp
      have hL:a4[k].length<1000000000000000:=h.each _ (List.getElem_mem hlt)
      have ew:IntKind.i64.wrap ((n:Int)+(a4[k].length:Int))=((n+a4[k].length:Nat):Int):=by rw [dn]<;>omega
      simp only [d1,d0,Bool.and_self,cond_true,bV hlt,EU _ hL,Option.bind_some,ew,cz hlt (show a4.length<9223372036854775808 by omega)]
      rw [List.drop_eq_getElem_cons hlt,List.any_cons]
      cases hg:s7 a4[k] with
      |true=>right;rfl
      |false=>
        left
        have h120:a4[k].length≤120:=by
          simp only [s7,Bool.or_eq_false_iff,decide_eq_false_iff_not] at hg
          omega
        simp only [cond_false,Bool.false_or]
        refine ⟨_,rfl,⟨k+1,_,rfl,rfl,by omega,by omega⟩,by simp only [Int.toNat_natCast];omega,?_⟩
        simp only [Int.toNat_natCast,List.map_cons,List.sum_cons]
        have:((n+a4[k].length:Nat):Int)+((((a4.drop (k+1)).map List.length).sum:Nat):Int)=(n:Int)+((a4[k].length+((a4.drop (k+1)).map List.length).sum:Nat):Int):=by omega
        rw [this]
    · right
      have d1:decide ((k:Int)<(a4.length:Int))=false:=by simp;omega
      simp only [d1,cond_false]
      rw [List.drop_eq_nil_of_le (by omega)]
      simp
end Go.Proofs.Ytleadolkcmagfaa
end
section
namespace Go.Proofs.Ytleadolkcmagfaa
open Go Lv Go.Proofs Go.RowKit Go.Shelf Dl
abbrev I64 (n:Int):Prop:=-9223372036854775808≤n∧n≤9223372036854775807
theorem lw (p o:List ByteArray) (h:o.length+p.length≤1000000000):aK.F (p,o,())=some (o++p,()):=by
 rw [aK.eq]
 unfold aK.B
 have:Nat.ble (o.length+p.length) 8796093022208=true:=by rw [Nat.ble_eq];omega
 simp only [this,cond_true]
theorem kJ (b:Bool) (p o:List ByteArray) (h:o.length+p.length≤1000000000):aJ.F (b,p,o,())=some (o++(if b then p else []),()):=by
 rw [aJ.eq]
 unfold aJ.B
 cases b
 ·simp
 ·simp only [cond_true,lw p o h,Option.bind_some,if_true]
theorem A5 (n:Int) (ws:List ByteArray):dk.F (n,ws,())=some (fO n ws,()):=by
 rw [dk.eq]
 unfold dk.B fO
 simp only []
 by_cases h1:n<0
 ·simp [h1]
 ·by_cases h2:(ws.length:Int)≤n
  ·have d2:decide (n≥(ws.length:Int))=true:=by simp;omega
   simp [h1,h2,d2]
  ·have d2:decide (n≥(ws.length:Int))=false:=by simp;omega
   have d3:(decide (0≤n)&&decide (n<(ws.length:Int)))=true:=by simp;omega
   have d1:decide (n<0)=false:=by simp;omega
   simp only [d1,d2,d3,cond_false,cond_true]
   rw [if_neg (by omega)]
theorem KU (x y:Val):Ty.eq nP x y=decide (x=y):=@EQ nP rfl (inferInstanceAs (DecidableEq Val)) x y
theorem b_eq (n m:Int):(n==m)=decide (n=m):=by by_cases h:n=m<;>simp [h]
theorem HW (a b:Int) (s:ByteArray):dQ.F ((1:Int),e0,a,b,s,())=some (u4 (a,(b,s)),()):=by
 rw [dQ.eq]
 unfold dQ.B
 simp only [dZ]
 have e1:((1:Int)==(0:Int))=false:=by decide
 have e2:((1:Int)==(1:Int))=true:=by decide
 have e3:decide (e0=(⟨#[]⟩:ByteArray))=true:=by decide
 simp only [e1,e2,e3,cond_false,cond_true]
 rw [cA.eq]
 unfold cA.B u4
 simp only [dZ,KU,b_eq]
 by_cases h0:a=0
 ·subst h0
  simp only [decide_true,cond_true,Option.bind_some]
  cases decide (((0:Int),(b,s))=((0:Int),((0:Int),(⟨#[]⟩:ByteArray))))<;>simp
 by_cases h1:a=1
 ·subst h1
  simp only [h0,decide_false,cond_false,decide_true,cond_true]
  cases hb0:decide (b=0)<;>cases hb1:decide (b=1)<;>cases hs:decide (s=(⟨#[]⟩:ByteArray))<;>simp
 by_cases h2:a=2
 ·subst h2
  simp only [h0,h1,decide_false,cond_false,decide_true,cond_true,Option.bind_some]
  cases hs:decide (s=(⟨#[]⟩:ByteArray)) with
  |true=>have:=of_decide_eq_true hs;subst this;simp
  |false=>have:=of_decide_eq_false hs;simp [this]
 by_cases h3:a=3
 ·subst h3
  simp only [h0,h1,h2,decide_false,cond_false,decide_true,cond_true]
  have d:decide ((s.size:Int)≤(1000:Int))=decide (s.size≤1000):=by simp only [decide_eq_decide];omega
  rw [d]
  cases hb:decide (b=0) with
  |false=>have:=of_decide_eq_false hb;simp [this]
  |true=>
   have:=of_decide_eq_true hb
   subst this
   cases hs:decide (s.size≤1000) with
   |true=>have:=of_decide_eq_true hs;simp [this]
   |false=>have:=of_decide_eq_false hs;simp [this]
 ·simp only [h0,h1,h2,h3,decide_false,cond_false,Option.bind_some]
  simp
theorem HX {Q:Type} (l:List ByteArray) (h1:l.length≤1000000000) (h2:(fC (l.map fun w=>w.data.toList)).length≤140737488355328) (K:TS strings_Join.so→Option Q):Option.bind (strings_Join.F (l,(⟨#[32]⟩:ByteArray),())) K=K (bs (fC (l.map fun w=>w.data.toList)),()):=by
 have e:ka l (⟨#[32]⟩:ByteArray)=bs (fC (l.map fun w=>w.data.toList)):=by
  unfold ka
  show bs (Lib.join _ [32])=_
  rw [DJ]
 have ha:strings_Join.F (l,(⟨#[32]⟩:ByteArray),())=some (bs (fC (l.map fun w=>w.data.toList)),()):=by
  rw [strings_Join.eq]
  show (if l.length≤140737488355328∧(ka l (⟨#[32]⟩:ByteArray)).size≤140737488355328 then some (ka l (⟨#[32]⟩:ByteArray),()) else none)=_
  rw [e,if_pos ⟨by omega,by rw [cT];exact h2⟩]
 rw [ha];rfl
theorem rep_b {Q:Type} (w:List UInt8) (hw:w.length≤1000) (K:TS strings_ReplaceAll.so→Option Q):Option.bind (strings_ReplaceAll.F (bs w,(⟨#[39]⟩:ByteArray),(⟨#[39,39]⟩:ByteArray),())) K=K (bs (dbl w),()):=by
 have ha:strings_ReplaceAll.F (bs w,(⟨#[39]⟩:ByteArray),(⟨#[39,39]⟩:ByteArray),())=some (bs (dbl w),()):=by
  rw [strings_ReplaceAll.eq]
  show sU _=_
  unfold sU
  simp only
  have hc:Lib.countB (bs w) (⟨#[39]⟩:ByteArray)≤w.length:=HJ w
  have h1:((⟨#[39,39]⟩:ByteArray)).size=2:=rfl
  have h2:((⟨#[39]⟩:ByteArray)).size=1:=rfl
  rw [if_pos ⟨by rw [cT];omega,by rw [h2];decide,by rw [cT,h1];omega⟩]
  have:sT (bs w) (⟨#[39]⟩:ByteArray) (⟨#[39,39]⟩:ByteArray)=bs (dbl w):=by
   unfold sT
   show bs (Lib.replaceAll w [39] [39,39])=_
   rw [xv]
  rw [this]
 rw [ha];rfl
theorem A6 (w:List UInt8):(dbl w).length≤2*w.length:=by
 induction w with
 |nil=>simp [dbl]
 |cons c r ih=>simp only [dbl];split<;>simp<;>omega
theorem JE (v:Val) (hm:u4 v=true) (hi:I64 v.2.1):cO.F (v.1,v.2.1,v.2.2,())=some (bs (eR (1,(e0,v))),()):=by
 obtain ⟨a,b,s⟩:=v
 rw [cO.eq]
 unfold cO.B
 simp only [u4,Bool.or_eq_true,Bool.and_eq_true,decide_eq_true_eq] at hm
 simp only [b_eq]
 rcases hm with ⟨h1,h2⟩|⟨h1,h2,h3⟩
 ·subst h1;subst h2
  have e1:decide ((2:Int)=0)=false:=by decide
  have e2:decide ((2:Int)=1)=false:=by decide
  have e3:decide ((2:Int)=2)=true:=by decide
  simp only [e1,e2,e3,cond_false,cond_true]
  rw [A0 b hi.1 hi.2]
  rfl
 ·subst h1;subst h2
  have e1:decide ((3:Int)=0)=false:=by decide
  have e2:decide ((3:Int)=1)=false:=by decide
  have e3:decide ((3:Int)=2)=false:=by decide
  have e4:decide ((3:Int)=3)=true:=by decide
  simp only [e1,e2,e3,e4,cond_false,cond_true]
  have hs:s=bs s.data.toList:=(oj s).symm
  generalize s.data.toList=w at hs
  subst hs
  rw [cT] at h3
  have h5:=A6 w
  have hmax:IntKind.i64.max=9223372036854775807:=by decide
  rw [rep_b w h3]
  simp only [jF,cT,hmax]
  have d1:(!decide (((([39]:List UInt8).length+(dbl w).length:Nat):Int)>9223372036854775807))=true:=by simp;omega
  have d2:(!decide (((([39]++dbl w:List UInt8).length+([39]:List UInt8).length:Nat):Int)>9223372036854775807))=true:=by simp;omega
  rw [d1]
  simp only [cond_true]
  rw [d2]
  rfl
theorem gY {n:Int} (h:I64 n):(Lib.itoa n).length≤21:=Lib.itoa_length_le n h.1 h.2
theorem CH {v:Val} (hm:u4 v=true) (hi:I64 v.2.1):(eR (1,(e0,v))).length≤2100:=by
 obtain ⟨a,b,s⟩:=v
 simp only [u4,Bool.or_eq_true,Bool.and_eq_true,decide_eq_true_eq] at hm
 rcases hm with ⟨h1,h2⟩|⟨h1,h2,h3⟩
 ·subst h1;subst h2
  have:eR (1,(e0,(2,(b,e0))))=Lib.itoa b:=rfl
  rw [this]
  have hi:I64 b:=hi
  have:=gY hi
  omega
 ·subst h1;subst h2
  have:eR (1,(e0,(3,(0,s))))=39::dbl s.data.toList++ [39]:=rfl
  rw [this]
  have h4:=A6 s.data.toList
  have h5:s.data.toList.length=s.size:=rfl
  simp only [List.length_cons,List.length_append,List.length_nil]
  omega
theorem HY (v:Val) (hm:u4 v=true) (hi:I64 v.2.1):cW.F ([((1:Int),(e0,v))],())=some (bs (eR (1,(e0,v))),()):=by
 rw [cW.eq]
 unfold cW.B
 simp only []
 rw [ek]
 have c1:decide ((0:Int)<(([((1:Int),(e0,v))]:List bI).length:Int))=true:=rfl
 have c2:decide (0≤(0:Int))=true:=by decide
 have g:List.getD ([((1:Int),(e0,v))]:List bI) (Int.toNat 0) dB.z=((1:Int),(e0,v)):=rfl
 have hmay:dQ.F ((1:Int),e0,v.1,v.2.1,v.2.2,())=some (true,()):=by rw [HW];rw [hm]
 have e2:((1:Int)==(1:Int))=true:=by decide
 have e3:IntKind.i64.wrap ((0:Int)+(1:Int))=1:=by decide
 simp only [c1,c2,Bool.and_self,g,cond_true,hmay,Option.bind_some,Bool.not_true,cond_false,e2,JE v hm hi]
 have d1:Nat.ble (([]:List ByteArray).length+ [bs (eR (1,(e0,v)))].length) 8796093022208=true:=by rw [Nat.ble_eq];simp
 rw [d1]
 simp only [cond_true,e3]
 rw [ek]
 have c3:decide ((1:Int)<(([((1:Int),(e0,v))]:List bI).length:Int))=false:=rfl
 simp only [c3,cond_false,Option.bind_some,List.nil_append]
 rw [HX [bs (eR (1,(e0,v)))] (by simp) (by have:=CH hm hi;simpa [fC] using (by omega:(eR (1,(e0,v))).length≤140737488355328))]
 rfl
theorem DS (v:Val) (hi:I64 v.2.1):cF.F (v.1,v.2.1,v.2.2,())=some (rz v,()):=by
 obtain ⟨a,b,s⟩:=v
 rw [cF.eq]
 unfold cF.B rz
 simp only [bytes_beq,b_eq]
 by_cases h0:a=0∧b=0∧s=e0
 ·obtain ⟨rfl,rfl,rfl⟩:=h0
  simp
  rfl
 have n0:¬((a,(b,s)):Val)=(0,(0,e0)):=fun e=>by cases e;exact h0 ⟨rfl,rfl,rfl⟩
 have b0:(decide (a=0)&&decide (b=0)&&decide (s=e0))=false:=by
  cases h:(decide (a=0)&&decide (b=0)&&decide (s=e0)) with
  |false=>rfl
  |true=>simp only [Bool.and_eq_true,decide_eq_true_eq] at h;exact absurd ⟨h.1.1,h.1.2,h.2⟩ h0
 by_cases h1:a=1∧b=0∧s=e0
 ·obtain ⟨rfl,rfl,rfl⟩:=h1
  simp
  rfl
 have n1:¬((a,(b,s)):Val)=(1,(0,e0)):=fun e=>by cases e;exact h1 ⟨rfl,rfl,rfl⟩
 have b1:(decide (a=1)&&decide (b=0)&&decide (s=e0))=false:=by
  cases h:(decide (a=1)&&decide (b=0)&&decide (s=e0)) with
  |false=>rfl
  |true=>simp only [Bool.and_eq_true,decide_eq_true_eq] at h;exact absurd ⟨h.1.1,h.1.2,h.2⟩ h1
 by_cases h2:a=1∧b=1∧s=e0
 ·obtain ⟨rfl,rfl,rfl⟩:=h2
  simp
  rfl
 have n2:¬((a,(b,s)):Val)=(1,(1,e0)):=fun e=>by cases e;exact h2 ⟨rfl,rfl,rfl⟩
 have b2:(decide (a=1)&&decide (b=1)&&decide (s=e0))=false:=by
  cases h:(decide (a=1)&&decide (b=1)&&decide (s=e0)) with
  |false=>rfl
  |true=>simp only [Bool.and_eq_true,decide_eq_true_eq] at h;exact absurd ⟨h.1.1,h.1.2,h.2⟩ h2
 rw [if_neg n0,if_neg n1,if_neg n2]
 rw [b0,b1,b2]
 simp only [cond_false]
 rw [HW]
 simp only [Option.bind_some]
 cases hm:u4 (a,(b,s)) with
 |false=>rfl
 |true=>
  simp only [Bool.not_true,cond_false,if_true]
  exact (cv _ (HY (a,(b,s)) hm hi)).trans rfl
theorem DT {Q:Type} (v:Val) (hi:I64 v.2.1) (K:TS cF.so→Option Q):Option.bind (cF.F (v.1,v.2.1,v.2.2,())) K=K (rz v,()):=by rw [DS v hi];rfl
def xD (e:List ae):Prop:=e.length≤120∧∀x∈e,I64 x.1∧I64 x.2.1∧I64 x.2.2.2.1
theorem xE {Q:Type} (n:Int) (h:I64 n) (K:TS strconv_Itoa.so→Option Q):Option.bind (strconv_Itoa.F (n,())) K=K (bs (Lib.itoa n),()):=A0 n h.1 h.2 K
theorem EV (e : List ae) (o : List ByteArray) (he : xD e) (ho : o.length ≤ 900000000) : bm.F (e,o,()) = some (o ++ nC e,()) := by
  rw [bm.eq]
  unfold bm.B
  have hl:=he.1
  simp only [lw [(⟨#[91]⟩:ByteArray)] o (by simp;omega),Option.bind_some]
  rw [fd (S:=Int×(List ByteArray)×Unit) (m:=fun x=>e.length-x.1.toNat) (I:=fun x=>∃k:Nat,x.1=(k:Int)∧k≤e.length∧x.2.1.length≤900000001+k)
    (f:=fun x=> .inl (x.2.1++(e.drop x.1.toNat).map mC,())) ?_ _ ⟨0,rfl,by omega,by simp;omega⟩]
  · simp only [Int.toNat_zero,List.drop_zero,Option.bind_some]
    rw [lw [(⟨#[93]⟩:ByteArray)] _ (by simp;omega)]
    simp only [Option.bind_some,nC]
    simp
  · rintro ⟨x,out,⟨⟩⟩ ⟨k,hk,hle,hlen⟩
    simp only at hk hlen
    subst hk
    simp only [Int.toNat_natCast]
    by_cases hlt:k<e.length
    · left
      obtain ⟨hx0,hx1,hx2⟩:=he.2 _ (List.getElem_mem hlt)
      have d1:decide ((k:Int)<(e.length:Int))=true:=by simp;omega
      have d0:decide (0≤(k:Int))=true:=by simp
      simp only [d1,d0,Bool.and_self,cond_true,bV hlt,b_eq,cz hlt (show e.length<9223372036854775808 by omega)]
      rw [List.drop_eq_getElem_cons hlt]
      have fin:∀w,w=mC e[k]→∃s':Int×(List ByteArray)×Unit,(some (.inl (((k+1:Nat):Int),out++ [w],())):Option ((Int×(List ByteArray)×Unit)⊕((List ByteArray)×Unit)⊕((List ByteArray)×Unit)))=some (.inl s')∧(∃k:Nat,s'.1=(k:Int)∧k≤e.length∧s'.2.1.length≤900000001+k)∧e.length-s'.1.toNat<e.length-k∧
          (Sum.inl (s'.2.1++(e.drop s'.1.toNat).map mC,()):((List ByteArray)×Unit)⊕((List ByteArray)×Unit))=.inl (out++(e[k]::e.drop (k+1)).map mC,()):=by
        rintro w rfl
        refine ⟨_,rfl,⟨k+1,rfl,by omega,by simp;omega⟩,by simp only [Int.toNat_natCast];omega,?_⟩
        simp only [Int.toNat_natCast,List.map_cons,List.append_assoc,List.cons_append,List.nil_append]
      by_cases h0:e[k].1=0
      · simp only [h0,decide_true,cond_true]
        rw [xE _ hx1]
        have hmax:IntKind.i64.max=9223372036854775807:=by decide
        have hi:=gY hx1
        have d2:(!decide ((((⟨#[99]⟩:ByteArray).size+(bs (Lib.itoa e[k].2.1)).size:Nat):Int)>IntKind.i64.max))=true:=by rw [cT,cT,hmax];simp;omega
        simp only []
        rw [d2]
        simp only [cond_true]
        rw [lw _ out (by simp;omega)]
        refine fin _ ?_
        unfold mC
        rw [if_pos h0]
        exact jF [99] (Lib.itoa e[k].2.1)
      · simp only [h0,decide_false,cond_false]
        by_cases h1:e[k].1=1
        · simp only [h1,decide_true,cond_true]
          rw [DT e[k].2.2 hx2]
          simp only []
          rw [lw _ out (by simp;omega)]
          refine fin _ ?_
          unfold mC
          rw [if_neg h0,if_pos h1]
        · simp only [h1,decide_false,cond_false,A5,Option.bind_some]
          rw [lw _ out (by simp;omega)]
          refine fin _ ?_
          unfold mC
          rw [if_neg h0,if_neg h1]
          rfl
    · right
      have d1:decide ((k:Int)<(e.length:Int))=false:=by simp;omega
      simp only [d1,cond_false]
      rw [List.drop_eq_nil_of_le (by omega)]
      simp
structure Fit (d:Dl.Def):Prop where
 cols:d.2.1.2.1.length≤400
 checks:d.2.1.2.2.length≤400
 pick:d.2.2.2.2.2.2.2.1.length≤400
 aggs:d.2.2.2.2.2.2.2.2.2.length≤400
 each:∀e∈d.2.1.2.2,xD e
 whr:xD d.2.2.2.2.2.2.1
 names:∀c∈d.2.1.2.1,c.1.size≤100∧c.2.2.2.2.1.size≤100∧I64 c.2.1
 n1:d.2.1.1.size≤100
 n2:d.2.2.1.size≤100
 n3:d.2.2.2.1.size≤100
 n4:d.2.2.2.2.1.size≤100
 o1:I64 d.2.2.2.2.2.1.1
 o2:I64 d.2.2.2.2.2.1.2
 pk:∀n∈d.2.2.2.2.2.2.2.1,I64 n
 ag:∀a∈d.2.2.2.2.2.2.2.2.2,I64 a.2
theorem tP {α R:Type} (l:List α) (hl:l.length≤400) (f:α→List ByteArray) (hf:∀x∈l,(f x).length≤8) (base:Nat) (hb:base≤100000000) (fin:List ByteArray→Option R) {body:Int×(List ByteArray)×Unit→Option ((Int×(List ByteArray)×Unit)⊕R)}
 (h1:∀(k:Nat) (hk:k<l.length) out,out.length≤base+9*k→body ((k:Int),out,())=some (.inl (((k+1:Nat):Int),out++((if 0<k then [(⟨#[44]⟩:ByteArray)] else [])++f l[k]),())))
 (h2:∀out,out.length≤base+9*l.length→body ((l.length:Int),out,())=Option.map Sum.inr (fin out)):
 ∀(n k:Nat),n+k=l.length→∀out,out.length≤base+9*k→bF body ((k:Int),out,())=fin (out++ju f (decide (0<k)) (l.drop k)):=by
 intro n
 induction n with
 |zero=>
  intro k hk out ho
  have:k=l.length:=by omega
  subst this
  rw [ek,h2 out ho,List.drop_length]
  simp only [ju,List.append_nil]
  cases fin out<;>rfl
 |succ n ih=>
  intro k hk out ho
  have hlt:k<l.length:=by omega
  rw [ek,h1 k hlt out ho]
  simp only
  have hfl:=hf _ (List.getElem_mem hlt)
  have hc:(if 0<k then [(⟨#[44]⟩:ByteArray)] else ([]:List ByteArray)).length≤1:=by split<;>simp
  rw [ih (k+1) (by omega) _ (by simp only [List.length_append];omega),List.drop_eq_getElem_cons hlt]
  have e1:decide (0<k+1)=true:=by simp
  rw [e1]
  simp only [ju,decide_eq_true_eq,List.append_assoc]
theorem xF (c:Col):(nD c).length≤8:=by
 unfold nD
 simp only [List.length_append,List.length_cons,List.length_nil]
 have h1:(if c.2.2.1 then [(⟨#[110,117,108,108]⟩:ByteArray)] else ([]:List ByteArray)).length≤1:=by split<;>simp
 have h2:(if c.2.2.2.1 then [(⟨#[117,110,105,113,117,101]⟩:ByteArray)] else ([]:List ByteArray)).length≤1:=by split<;>simp
 have h3:(if c.2.2.2.2.1=e0 then [] else [(⟨#[114,101,102]⟩:ByteArray),c.2.2.2.2.1,fO c.2.2.2.2.2 yo]).length≤3:=by split<;>simp
 omega
theorem xG {α:Type} (f:α→List ByteArray):∀(l:List α) (b:Bool),(∀x∈l,(f x).length≤8)→(ju f b l).length≤9*l.length:=by
 intro l
 induction l with
 |nil=>intro b _;simp [ju]
 |cons x l ih=>
  intro b h
  have h1:=ih true (fun y hy=>h y (List.mem_cons_of_mem _ hy))
  have h2:=h x (by simp)
  have h3:(if b then [(⟨#[44]⟩:ByteArray)] else ([]:List ByteArray)).length≤1:=by split<;>simp
  simp only [ju,List.length_append,List.length_cons]
  omega
theorem qq (e:List ae):(nC e).length=e.length+2:=by simp [nC]
theorem CI:∀(l:List (List ae)),(∀e∈l,xD e)→(l.flatMap p4).length≤123*l.length:=by
 intro l
 induction l with
 |nil=>intro _;simp
 |cons e l ih=>
  intro h
  have h1:=ih (fun y hy=>h y (List.mem_cons_of_mem _ hy))
  have h2:=(h e (by simp)).1
  rw [List.flatMap_cons]
  simp only [List.length_append,p4,List.length_cons,qq]
  omega
theorem HZ (n : ByteArray) (c : List Col) (k : List (List ae)) (hc : c.length ≤ 400) (hk : k.length ≤ 400) (he : ∀ e ∈ k,xD e) : aG.F (n,c,k,[],()) = some (rA (n,(c,k)),()) := by
  rw [aG.eq]
  unfold aG.B
  simp only [lw [(⟨#[116,97,98,108,101]⟩:ByteArray),n,(⟨#[40]⟩:ByteArray)] [] (by simp),Option.bind_some,List.nil_append]
  refine (tP c hc nD (fun c _=>xF c) 10 (by decide) (fin:=fun out=>some (out++([(⟨#[41]⟩:ByteArray)]++k.flatMap p4),())) ?_ ?_ c.length 0 (by omega) [(⟨#[116,97,98,108,101]⟩:ByteArray),n,(⟨#[40]⟩:ByteArray)] (by simp)).trans ?_
  · intro i hi out ho
    have d1:decide ((i:Int)<(c.length:Int))=true:=by simp;omega
    have d0:decide (0≤(i:Int))=true:=by simp
    have dg:decide ((i:Int)>(0:Int))=decide (0<i):=by simp only [decide_eq_decide];omega
    simp only [d1,d0,dg,Bool.and_self,cond_true,Int.toNat_natCast,bV hi,dZ,kJ _ [(⟨#[44]⟩:ByteArray)] out (by simp;omega),Option.bind_some,A5,cz hi (show c.length<9223372036854775808 by omega)]
    have hcm:((if decide (0<i)=true then [(⟨#[44]⟩:ByteArray)] else ([]:List ByteArray))).length≤1:=by split<;>simp
    rw [lw _ _ (by simp only [List.length_append,List.length_cons,List.length_nil];omega)]
    simp only [Option.bind_some]
    rw [kJ _ _ _ (by simp only [List.length_append,List.length_cons,List.length_nil];omega)]
    simp only [Option.bind_some]
    have hn:((if c[i].2.2.1=true then [(⟨#[110,117,108,108]⟩:ByteArray)] else ([]:List ByteArray))).length≤1:=by split<;>simp
    rw [kJ _ _ _ (by simp only [List.length_append,List.length_cons,List.length_nil];omega)]
    simp only [Option.bind_some]
    have hu:((if c[i].2.2.2.1=true then [(⟨#[117,110,105,113,117,101]⟩:ByteArray)] else ([]:List ByteArray))).length≤1:=by split<;>simp
    rw [kJ _ _ _ (by simp only [List.length_append,List.length_cons,List.length_nil];omega)]
    simp only [Option.bind_some,nD,decide_eq_true_eq,List.append_assoc,List.cons_append,List.nil_append]
    congr 6
    by_cases hr:c[i].2.2.2.2.1=e0
    · simp [hr]
    · simp [hr]
  · intro out ho
    have d1:decide ((c.length:Int)<(c.length:Int))=false:=by simp
    simp only [d1,cond_false,lw [(⟨#[41]⟩:ByteArray)] out (by simp;omega),Option.bind_some]
    rw [fd (S:=Int×(List ByteArray)×Unit) (m:=fun x=>k.length-x.1.toNat) (I:=fun x=>∃i:Nat,x.1=(i:Int)∧i≤k.length∧x.2.1.length≤100000+123*i)
      (f:=fun x=>(x.2.1++(k.drop x.1.toNat).flatMap p4,())) ?_ _ ⟨0,rfl,by omega,by simp;omega⟩]
    · simp
    · rintro ⟨x,out',⟨⟩⟩ ⟨i,hi',hle,hlen⟩
      simp only at hi' hlen
      subst hi'
      simp only [Int.toNat_natCast]
      by_cases hlt:i<k.length
      · left
        have hE:=he _ (List.getElem_mem hlt)
        have d1:decide ((i:Int)<(k.length:Int))=true:=by simp;omega
        have d0:decide (0≤(i:Int))=true:=by simp
        simp only [d1,d0,Bool.and_self,cond_true,bV hlt,lw [(⟨#[99,104,101,99,107]⟩:ByteArray)] out' (by simp;omega),Option.bind_some,EV _ (out'++ [(⟨#[99,104,101,99,107]⟩:ByteArray)]) hE (by simp;omega),cz hlt (show k.length<9223372036854775808 by omega)]
        have:=hE.1
        refine ⟨_,rfl,⟨i+1,rfl,by omega,by simp only [List.length_append,qq,List.length_cons,List.length_nil];omega⟩,by simp only [Int.toNat_natCast];omega,?_⟩
        simp only [Int.toNat_natCast]
        rw [List.drop_eq_getElem_cons hlt,List.flatMap_cons]
        simp [p4]
      · right
        have d1:decide ((i:Int)<(k.length:Int))=false:=by simp;omega
        simp only [d1,cond_false]
        rw [List.drop_eq_nil_of_le (by omega)]
        simp
  · simp [rA]
end Go.Proofs.Ytleadolkcmagfaa
end
section
namespace Go.Proofs.Ytleadolkcmagfaa
open Go Lv Go.Proofs Go.RowKit Go.Shelf Dl
theorem xH (a:Agg):(oU a).length≤8:=by
 unfold oU
 split<;>simp
theorem mD {p:Prop} [Decidable p] (a b:List ByteArray) (n:Nat) (ha:a.length≤n) (hb:b.length≤n):(if p then a else b).length≤n:=by split<;>assumption
theorem JF (vn vf vw : ByteArray) (o1 o2 : Int) (wh : List ae) (pk : List Int) (gr : Bool) (ag : List Agg) (h1 : I64 o1) (h2 : I64 o2) (hw : xD wh) (hp : pk.length ≤ 400) (hpi : ∀ n ∈ pk,I64 n) (ha : ag.length ≤ 400) (hai : ∀ a ∈ ag,I64 a.2) :
    aL.F (vn,vf,vw,o1,o2,wh,pk,gr,ag,[],())=some (xw (vn,(vf,(vw,((o1,o2),(wh,(pk,(gr,ag))))))),()):=by
  rw [aL.eq]
  unfold aL.B
  have d0:(decide (0≤(0:Int))&&decide ((0:Int)<(2:Int)))=true:=by decide
  have d1:(decide (0≤(1:Int))&&decide ((1:Int)<(2:Int)))=true:=by decide
  simp only [lw [(⟨#[118,105,101,119]⟩:ByteArray),vn,(⟨#[102,114,111,109]⟩:ByteArray),vf] [] (by simp),Option.bind_some,List.nil_append,d0,d1,cond_true]
  rw [xE o1 h1]
  simp only []
  rw [xE o2 h2]
  have hb:(!decide (vw=e0))=decide (¬vw=e0):=by by_cases h:vw=e0<;>simp [h]
  simp only [dZ]
  rw [kJ _ [(⟨#[106,111,105,110]⟩:ByteArray),vw,(⟨#[111,110]⟩:ByteArray),bs (Lib.itoa o1),(⟨#[61]⟩:ByteArray),bs (Lib.itoa o2)] [(⟨#[118,105,101,119]⟩:ByteArray),vn,(⟨#[102,114,111,109]⟩:ByteArray),vf] (by simp)]
  simp only [Option.bind_some]
  generalize hA:[(⟨#[118,105,101,119]⟩:ByteArray),vn,(⟨#[102,114,111,109]⟩:ByteArray),vf]++(if (!decide (vw=(⟨#[]⟩:ByteArray)))=true then [(⟨#[106,111,105,110]⟩:ByteArray),vw,(⟨#[111,110]⟩:ByteArray),bs (Lib.itoa o1),(⟨#[61]⟩:ByteArray),bs (Lib.itoa o2)] else [])=A
  have hAl:A.length≤10:=by rw [←hA,List.length_append];have:=mD (p:=(!decide (vw=(⟨#[]⟩:ByteArray)))=true) [(⟨#[106,111,105,110]⟩:ByteArray),vw,(⟨#[111,110]⟩:ByteArray),bs (Lib.itoa o1),(⟨#[61]⟩:ByteArray),bs (Lib.itoa o2)] [] 6 (by simp) (by simp);simp only [List.length_cons,List.length_nil] at this ⊢;omega
  have hA':A=[(⟨#[118,105,101,119]⟩:ByteArray),vn,(⟨#[102,114,111,109]⟩:ByteArray),vf]++(if vw=e0 then [] else [(⟨#[106,111,105,110]⟩:ByteArray),vw,(⟨#[111,110]⟩:ByteArray),bs (Lib.itoa o1),(⟨#[61]⟩:ByteArray),bs (Lib.itoa o2)]):=by
    rw [←hA]
    by_cases h:vw=e0<;>simp [h]
  refine (cv (.inl (A++(if wh=[] then [] else (⟨#[119,104,101,114,101]⟩:ByteArray)::nC wh),())) ?_).trans ?_
  · by_cases h:wh=[]
    · subst h;simp
    · have dw:decide ((wh.length:Int)>(0:Int))=true:=by
        cases wh with
        |nil=>exact absurd rfl h
        |cons a b=>rw [decide_eq_true_eq];simp only [List.length_cons];omega
      simp only [dw,cond_true,lw [(⟨#[119,104,101,114,101]⟩:ByteArray)] A (by simp;omega),Option.bind_some,EV wh (A++ [(⟨#[119,104,101,114,101]⟩:ByteArray)]) hw (by simp;omega),if_neg h]
      simp
  simp only []
  have hE:(if wh=[] then [] else (⟨#[119,104,101,114,101]⟩:ByteArray)::nC wh).length≤123:=mD _ _ _ (by simp) (by simp only [List.length_cons,qq];have:=hw.1;omega)
  generalize hB:A++(if wh=[] then [] else (⟨#[119,104,101,114,101]⟩:ByteArray)::nC wh)=B
  have hBl:B.length≤200:=by rw [←hB,List.length_append];omega
  rw [lw [(⟨#[112,105,99,107]⟩:ByteArray)] B (by simp;omega)]
  simp only [Option.bind_some]
  refine (tP pk hp kg (fun n _=>by simp [kg]) 300 (by decide) (fin:=fun out=>some (out++(if gr then [(⟨#[103,114,111,117,112]⟩:ByteArray)] else [])++ju oU false ag,())) ?_ ?_ pk.length 0 (by omega) (B++ [(⟨#[112,105,99,107]⟩:ByteArray)]) (by simp;omega)).trans ?_
  · intro i hi out ho
    have d1:decide ((i:Int)<(pk.length:Int))=true:=by simp;omega
    have d0:decide (0≤(i:Int))=true:=by simp
    have dg:decide ((i:Int)>(0:Int))=decide (0<i):=by simp only [decide_eq_decide];omega
    simp only [d1,d0,dg,Bool.and_self,cond_true,Int.toNat_natCast,bV hi,kJ _ [(⟨#[44]⟩:ByteArray)] out (by simp;omega),Option.bind_some,cz hi (show pk.length<9223372036854775808 by omega)]
    rw [xE _ (hpi _ (List.getElem_mem hi))]
    simp only []
    have hcm:=mD (p:=decide (0<i)=true) [(⟨#[44]⟩:ByteArray)] [] 1 (by simp) (by simp)
    rw [lw _ _ (by simp only [List.length_append,List.length_cons,List.length_nil];omega)]
    simp only [Option.bind_some,kg,decide_eq_true_eq,List.append_assoc]
  · intro out ho
    have d1:decide ((pk.length:Int)<(pk.length:Int))=false:=by simp
    simp only [d1,cond_false,kJ gr [(⟨#[103,114,111,117,112]⟩:ByteArray)] out (by simp;omega),Option.bind_some]
    have hg:=mD (p:=gr=true) [(⟨#[103,114,111,117,112]⟩:ByteArray)] [] 1 (by simp) (by simp)
    refine congrArg (Option.map Sum.inr) ?_
    refine (tP ag ha oU (fun a _=>xH a) 10000 (by decide) (fin:=fun out=>some (out,())) ?_ ?_ ag.length 0 (by omega) (out++(if gr=true then [(⟨#[103,114,111,117,112]⟩:ByteArray)] else [])) (by simp only [List.length_append];omega)).trans ?_
    · intro i hi out ho
      have d1:decide ((i:Int)<(ag.length:Int))=true:=by simp;omega
      have d0:decide (0≤(i:Int))=true:=by simp
      have dg:decide ((i:Int)>(0:Int))=decide (0<i):=by simp only [decide_eq_decide];omega
      simp only [d1,d0,dg,Bool.and_self,cond_true,Int.toNat_natCast,bV hi,kJ _ [(⟨#[44]⟩:ByteArray)] out (by simp;omega),Option.bind_some,A5,cz hi (show ag.length<9223372036854775808 by omega)]
      have hcm:=mD (p:=decide (0<i)=true) [(⟨#[44]⟩:ByteArray)] [] 1 (by simp) (by simp)
      rw [lw _ _ (by simp only [List.length_append,List.length_cons,List.length_nil];omega)]
      simp only [Option.bind_some]
      rw [xE _ (hai _ (List.getElem_mem hi))]
      simp only []
      rw [kJ _ _ _ (by simp only [List.length_append,List.length_cons,List.length_nil];omega)]
      simp only [Option.bind_some,oU,decide_eq_true_eq,List.append_assoc,A3]
      congr 6
      by_cases h0:ag[i].1=0<;>simp [h0]
    · intro out ho
      have d1:decide ((ag.length:Int)<(ag.length:Int))=false:=by simp
      simp only [d1,cond_false]
      rfl
    · simp only [List.drop_zero]
      rfl
  · rw [←hB,hA']
    simp only [List.drop_zero,xw]
    rfl
theorem gu {n:Int} {ws:List ByteArray} (h:∀w∈ws,w.size≤30):(fO n ws).size≤30:=by
 unfold fO
 split
 ·decide
 ·rw [List.getD_eq_getElem?_getD]
  cases hg:ws[n.toNat]? with
  |none=>decide
  |some w=>exact h w (List.mem_of_getElem? hg)
theorem DU {x:ae} (h:I64 x.2.1∧I64 x.2.2.2.1):(mC x).size≤2100:=by
 unfold mC
 split
 ·rw [cT];have:=gY h.1;simp only [List.length_cons];omega
 ·split
  ·unfold rz
   split
   ·decide
   split
   ·decide
   split
   ·decide
   split
   ·rename_i hm;rw [cT];exact CH hm h.2
   ·decide
  ·have:=@gu (IntKind.i64.wrap (x.1-2)) EK (by decide);omega
abbrev WB (l:List ByteArray):Prop:=∀w∈l,w.size≤2100
theorem WB.app {a b:List ByteArray} (h:WB a) (h':WB b):WB (a++b):=fun w hw=>by rcases List.mem_append.1 hw with hw|hw;exact h w hw;exact h' w hw
theorem WB.cons {a:ByteArray} {b:List ByteArray} (h:a.size≤2100) (h':WB b):WB (a::b):=fun w hw=>by rcases List.mem_cons.1 hw with rfl|hw;exact h;exact h' w hw
theorem WB.nil:WB []:=fun w hw=>by cases hw
theorem WB.ite {p:Prop} [Decidable p] {a b:List ByteArray} (h:WB a) (h':WB b):WB (if p then a else b):=by split<;>assumption
theorem WB.expr {e:List ae} (h:xD e):WB (nC e):=by
 unfold nC
 refine WB.app (.cons (by decide) fun w hw=>?_) (.cons (by decide) .nil)
 obtain ⟨x,hx,rfl⟩:=List.mem_map.1 hw
 exact DU (h.2 x hx).2
theorem WB.sep {α:Type} {f:α→List ByteArray}:∀(l:List α) (b:Bool),(∀x∈l,WB (f x))→WB (ju f b l):=by
 intro l
 induction l with
 |nil=>intro b _;exact .nil
 |cons x l ih=>
  intro b h
  exact ((WB.ite (.cons (by decide) .nil) .nil).app (h x (by simp))).app (ih true fun y hy=>h y (List.mem_cons_of_mem _ hy))
theorem WB.checks:∀(l:List (List ae)),(∀e∈l,xD e)→WB (l.flatMap p4):=by
 intro l
 induction l with
 |nil=>intro _;exact .nil
 |cons e l ih=>
  intro h
  rw [List.flatMap_cons]
  exact WB.app (.cons (by decide) (.expr (h e (by simp)))) (ih fun y hy=>h y (List.mem_cons_of_mem _ hy))
theorem Gb {d : Dl.Def} (h : Fit d) : WB (Cy d) ∧ (Cy d).length ≤ 1000000 := by
  obtain ⟨k,⟨tn,c,ck⟩,vn,vf,vw,⟨o1,o2⟩,wh,pk,gr,ag⟩:=d
  unfold Cy
  split
  · refine ⟨?_,?_⟩
    · unfold rA
      refine ((WB.app ?_ (.sep c false fun x hx=>?_)).app (.cons (by decide) .nil)).app (.checks _ h.each)
      · exact .cons (by decide) (.cons (Nat.le_trans h.n1 (by decide)) (.cons (by decide) .nil))
      · obtain ⟨n1,n2,_⟩:=h.names x hx
        unfold nD
        refine WB.app (.cons (by omega) (.cons (by have:=@gu (IntKind.i64.wrap (x.2.1-1)) kinds (by decide);omega) .nil)) (WB.app (.ite (.cons (by decide) .nil) .nil) (WB.app (.ite (.cons (by decide) .nil) .nil) (.ite .nil ?_)))
        exact .cons (by decide) (.cons (by omega) (.cons (by have:=@gu x.2.2.2.2.2 yo (by decide);omega) .nil))
    · unfold rA
      have l1:=xG nD c false (fun x _=>xF x)
      have l2:=CI ck h.each
      have l3:c.length≤400:=h.cols
      have l4:ck.length≤400:=h.checks
      simp only [List.length_append,List.length_cons,List.length_nil]
      omega
  · have i1:=gY h.o1
    have i2:=gY h.o2
    simp only at i1 i2
    refine ⟨?_,?_⟩
    · unfold xw
      refine ((((((WB.app ?_ (.ite .nil ?_)).app (.ite .nil (.cons (by decide) (.expr h.whr)))).app (.cons (by decide) .nil)).app (.sep pk false fun n hn=>?_)).app (.ite (.cons (by decide) .nil) .nil))).app (.sep ag false fun a ha=>?_)
      · exact .cons (by decide) (.cons (by have:vn.size≤100:=h.n2;simp only;omega) (.cons (by decide) (.cons (by have:vf.size≤100:=h.n3;simp only;omega) .nil)))
      · exact .cons (by decide) (.cons (by have:vw.size≤100:=h.n4;simp only;omega) (.cons (by decide) (.cons (by rw [cT];simp only;omega) (.cons (by decide) (.cons (by rw [cT];simp only;omega) .nil)))))
      · exact .cons (by rw [cT];have:=gY (h.pk n hn);omega) .nil
      · unfold oU
        exact .cons (by have:=@gu a.1 fns (by decide);omega) (.ite .nil (.cons (by rw [cT];have:=gY (h.ag a ha);omega) .nil))
    · unfold xw
      have l1:=xG kg pk false (fun n _=>by simp [kg])
      have l2:=xG oU ag false (fun a _=>xH a)
      have l3:pk.length≤400:=h.pick
      have l4:ag.length≤400:=h.aggs
      have l5:wh.length≤120:=h.whr.1
      have l6:=mD (p:=wh=[]) [] ((⟨#[119,104,101,114,101]⟩:ByteArray)::nC wh) 123 (by simp) (by simp only [List.length_cons,qq];omega)
      have l7:=mD (p:=vw=e0) [] [(⟨#[106,111,105,110]⟩:ByteArray),vw,(⟨#[111,110]⟩:ByteArray),bs (Lib.itoa o1),(⟨#[61]⟩:ByteArray),bs (Lib.itoa o2)] 6 (by simp) (by simp)
      have l8:=mD (p:=gr=true) [(⟨#[103,114,111,117,112]⟩:ByteArray)] [] 1 (by simp) (by simp)
      simp only [List.length_append,List.length_cons,List.length_nil] at l6 l7 l8 ⊢
      omega
theorem H1:∀(l:List ByteArray),WB l→(fC (l.map fun w=>w.data.toList)).length≤2101*l.length:=by
 intro l
 induction l with
 |nil=>intro _;simp [fC]
 |cons w l ih=>
  intro h
  have h1:=ih fun y hy=>h y (List.mem_cons_of_mem _ hy)
  have h2:w.data.toList.length≤2100:=h w (by simp)
  cases l with
  |nil=>simp only [List.map_cons,List.map_nil,fC,List.length_cons,List.length_nil];omega
  |cons v l=>
   rw [List.map_cons,gQ _ (by simp)]
   simp only [List.length_append,List.length_cons] at h1 ⊢
   omega
theorem Fit.ln {d:Dl.Def} (h:Fit d):DLn d:=⟨by have:=h.cols;omega,by have:=h.checks;omega,fun e he=>by have:=(h.each e he).1;omega,by have:=h.whr.1;omega,by have:=h.pick;omega,by have:=h.aggs;omega⟩
theorem JG (k : Int) (tn : ByteArray) (c : List Col) (ck : List (List ae)) (vn vf vw : ByteArray) (o1 o2 : Int) (wh : List ae) (pk : List Int) (gr : Bool) (ag : List Agg)
    (h:Fit (k,((tn,(c,ck)),(vn,(vf,(vw,((o1,o2),(wh,(pk,(gr,ag)))))))))):
    da.F (k,tn,c,ck,vn,vf,vw,o1,o2,wh,pk,gr,ag,())=some (bs (eT (k,((tn,(c,ck)),(vn,(vf,(vw,((o1,o2),(wh,(pk,(gr,ag)))))))))),()):=by
  have hln:=h.ln
  obtain ⟨w1,w2⟩:=Gb h
  have w3:=H1 _ w1
  generalize hd:((k,((tn,(c,ck)),(vn,(vf,(vw,((o1,o2),(wh,(pk,(gr,ag))))))))):Dl.Def)=d at hln w1 w2 w3 h
  rw [da.eq]
  unfold da.B
  simp only []
  refine (cv (.inl (Cy d,())) ?_).trans ?_
  · subst hd
    unfold Cy
    by_cases h0:k=0
    · subst h0
      have:((0:Int)==(0:Int))=true:=by decide
      simp only [this,cond_true]
      rw [HZ tn c ck h.cols h.checks h.each]
      rfl
    · have:(k==(0:Int))=false:=by simp [h0]
      simp only [this,cond_false,if_neg h0]
      rw [JF vn vf vw o1 o2 wh pk gr ag h.o1 h.o2 h.whr h.pick h.pk h.aggs h.ag]
      rfl
  simp only []
  rw [HX (Cy d) (by omega) (by omega)]
  simp only [cT]
  have ht:fC ((Cy d).map fun w=>w.data.toList)=nE d:=rfl
  rw [ht]
  unfold eT
  by_cases hb:20000<(nE d).length
  · have:decide (((nE d).length:Int)>(20000:Int))=true:=by simp;omega
    rw [this,if_pos hb]
    rfl
  · have:decide (((nE d).length:Int)>(20000:Int))=false:=by simp;omega
    rw [this,if_neg hb]
    simp only [cond_false,Jx,jK,Option.bind_some]
    generalize hr:kf (nE d)=r
    obtain ⟨q,e⟩:=r
    obtain ⟨q1,⟨q2,q3,q4⟩,q5,q6,q7,⟨q8,q8'⟩,q9,q10,q11,q12⟩:=q
    simp only [EP]
    by_cases he:e=0
    · subst he
      have:((0:Int) !=(0:Int))=false:=by decide
      simp only [this,cond_false]
      have hsm:=KT k tn c ck vn vf vw o1 o2 wh pk gr ag q1 q2 q3 q4 q5 q6 q7 q8 q8' q9 q10 q11 q12 (hd▸hln)
      rw [hsm,hd]
      simp only [Option.bind_some]
      by_cases hq:d=(q1,((q2,(q3,q4)),(q5,(q6,(q7,((q8,q8'),(q9,(q10,(q11,q12)))))))))
      · rw [(nI _ _).2 hq,←hq,if_pos rfl]
        rfl
      · have:oQ d (q1,((q2,(q3,q4)),(q5,(q6,(q7,((q8,q8'),(q9,(q10,(q11,q12)))))))))=false:=by
          cases hs:oQ d (q1,((q2,(q3,q4)),(q5,(q6,(q7,((q8,q8'),(q9,(q10,(q11,q12))))))))) with
          |false=>rfl
          |true=>exact absurd ((nI _ _).1 hs) hq
        rw [this,if_neg (fun e=>hq (Prod.mk.inj e).1.symm)]
        rfl
    · have:(e !=(0:Int))=true:=by simp [he]
      simp only [this,cond_true]
      rw [if_neg (fun e'=>he (Prod.mk.inj e').2)]
theorem May_s (k:Int) (tn:ByteArray) (c:List Col) (ck:List (List ae)) (vn vf vw:ByteArray) (o1 o2:Int) (wh:List ae) (pk:List Int) (gr:Bool) (ag:List Agg)
 (h:Fit (k,((tn,(c,ck)),(vn,(vf,(vw,((o1,o2),(wh,(pk,(gr,ag)))))))))):
 ee.F (k,tn,c,ck,vn,vf,vw,o1,o2,wh,pk,gr,ag,())=some (!decide (eT (k,((tn,(c,ck)),(vn,(vf,(vw,((o1,o2),(wh,(pk,(gr,ag)))))))))=[]),()):=by
 rw [ee.eq]
 unfold ee.B
 simp only [JG k tn c ck vn vf vw o1 o2 wh pk gr ag h,Option.bind_some]
 rw [show (⟨#[]⟩:ByteArray)=bs [] from rfl,rF]
end Go.Proofs.Ytleadolkcmagfaa
end
