import Derived.Lib.AtoiAll
import Derived.Lib.ItoaNum
import Derived.Lib.Replace
import Derived.Lib.Join
import Derived.Test.YtleadolkcmagfaaGreatDoorDB
import Derived.Test.YtleadolkcmagfaaGreatDoorM3
import Derived.Lib.ItoaLen
set_option linter.all false
set_option linter.unusedVariables false
set_option linter.unusedSimpArgs false
set_option linter.unusedSectionVars false
section
namespace Dl
open Go
abbrev Val:=Int×(Int×ByteArray)
abbrev Tok:=Int×(ByteArray×Val)
abbrev bs (l:List UInt8):ByteArray:=⟨l.toArray⟩
abbrev e0:ByteArray:=(⟨#[]⟩:ByteArray)
def fm (c:UInt8):Bool:=decide (97≤c.toNat)&&decide (c.toNat≤122)
def digit (c:UInt8):Bool:=decide (48≤c.toNat)&&decide (c.toNat≤57)
def cE (c:UInt8):Bool:=fm c||digit c||decide (c=95)
def fz:List UInt8:=([40,41,91,93,44,61,60,43,45,42,63]:List UInt8)
def gB (w:List UInt8):Bool:=match w with
 | []=>false
 |c::_=>fm c&&w.all cE&&decide (w.length≤30)
def pY (w:List UInt8):Option Int:=match Lib.atoiAll w with
 | .ok v=>if Lib.itoa v=w then some v else none
 |_=>none
def gG : List UInt8 → Option (List UInt8 × List UInt8)
  | []=>none
  | c :: r => if c = 39 then (match r with
      | []=>some ([],[])
      |d::r'=>if d=39 then (gG r').map fun x=>(39::x.1,x.2) else some ([],d::r'))
    else (gG r).map fun x=>(c::x.1,x.2)
def gC:List UInt8→Bool
 | []=>false
 |d::_=>digit d
def wordT (w:List UInt8):Tok:=(0,(bs w,(0,(0,e0))))
def signT (c:UInt8):Tok:=(2,(bs [c],(0,(0,e0))))
def numT (n:Int):Tok:=(1,(e0,(2,(n,e0))))
def textT (w:List UInt8):Tok:=(1,(e0,(3,(0,bs w))))
def jb : List UInt8 → Option (Tok × List UInt8)
  | []=>none
  |c::r=>
    if fm c then (if (c::r.takeWhile cE).length≤30 then some (wordT (c::r.takeWhile cE),r.dropWhile cE) else none)
    else if digit c||(decide (c=45)&&gC r) then (pY (c::r.takeWhile digit)).map fun n=>(numT n,r.dropWhile digit)
    else if c=39 then (gG r).bind fun x=>if x.1.length≤1000 then some (textT x.1,x.2) else none
    else if c∈fz then some (signT c,r) else none
def yh:Nat→List UInt8→Option (List Tok)
 |_,[]=>some []
 |0,_::_=>none
 |n+1,c::r=>if c=32 then yh n r else (jb (c::r)).bind fun x=>(yh n x.2).map (x.1:: ·)
def jB (l:List UInt8):Option (List Tok):=yh l.length l
theorem gq (c:UInt8) (r:List UInt8):gG (c::r)=if c=39 then (match r with
 | []=>some ([],[])
 |d::r'=>if d=39 then (gG r').map fun x=>(39::x.1,x.2) else some ([],d::r'))
 else (gG r).map fun x=>(c::x.1,x.2):=by rw [gG.eq_def]
theorem jI {p:UInt8→Bool} (l:List UInt8):(l.dropWhile p).length≤l.length:=by
 induction l with
 |nil=>simp
 |cons a l ih=>simp only [List.dropWhile];split<;>simp<;>omega
theorem FH : ∀ (n : Nat) (l : List UInt8),l.length ≤ n → ∀ x,gG l = some x → x.2.length < l.length ∧ x.1.length + x.2.length < l.length + 0 := by
  intro n
  induction n with
  |zero=>intro l hl x h;cases l<;>simp [gG] at h hl
  |succ n ih=>
    intro l hl x h
    match l,hl,h with
    | c :: r,hl,h =>
      rw [gq] at h
      split at h
      · match r,hl,h with
        | [],hl,h=>cases h;simp
        | d :: r',hl,h =>
          simp only at h
          split at h
          · simp only [Option.map_eq_some_iff] at h
            obtain ⟨y,hy,rfl⟩:=h
            have:=ih r' (by simp at hl;omega) y hy
            simp;omega
          · cases h;simp
      · simp only [Option.map_eq_some_iff] at h
        obtain ⟨y,hy,rfl⟩:=h
        have:=ih r (by simp at hl;omega) y hy
        simp;omega
theorem xe {l : List UInt8} {x : Tok × List UInt8} (h : jb l = some x) : x.2.length < l.length := by
  cases l with
  |nil=>cases h
  |cons c r=>
    simp only [jb] at h
    split at h
    · split at h
      · cases h;have:=jI (p:=cE) r;simp;omega
      · cases h
    · split at h
      · simp only [Option.map_eq_some_iff] at h
        obtain ⟨y,hy,rfl⟩:=h
        have:=jI (p:=digit) r;simp;omega
      · split at h
        · simp only [Option.bind_eq_some_iff] at h
          obtain ⟨y,hy,h⟩:=h
          split at h
          · cases h;have:=(FH _ r (Nat.le_refl _) y hy).1;simp;omega
          · cases h
        · split at h
          · cases h;simp
          · cases h
theorem FI : ∀ (n m : Nat) (l : List UInt8),l.length ≤ n → l.length ≤ m → yh n l = yh m l := by
  intro n
  induction n with
  |zero=>
    intro m l h1 h2
    cases l with
    |nil=>cases m<;>rfl
    |cons c r=>simp at h1
  |succ n ih=>
    intro m l h1 h2
    cases l with
    |nil=>cases m<;>rfl
    |cons c r=>
      cases m with
      |zero=>simp at h2
      |succ m=>
        simp only [yh]
        split
        · exact ih m r (by simp at h1;omega) (by simp at h2;omega)
        · cases h:jb (c::r) with
          |none=>rfl
          |some x=>
            have:=xe h
            simp only [Option.bind_some]
            rw [ih m x.2 (by simp at h1 this;omega) (by simp at h2 this;omega)]
theorem xf:jB []=some []:=rfl
theorem oh (r:List UInt8):jB (32::r)=jB r:=by
 show yh (r.length+1) (32::r)=_
 simp [yh,jB]
theorem ny {c:UInt8} (r:List UInt8) (hc:c≠32):jB (c::r)=(jb (c::r)).bind fun x=>(jB x.2).map (x.1:: ·):=by
 show yh (r.length+1) (c::r)=_
 simp only [yh,if_neg hc]
 cases h:jb (c::r) with
 |none=>rfl
 |some x=>
  have:=xe h
  simp only [Option.bind_some,jB]
  rw [FI r.length x.2.length x.2 (by simp at this;omega) (Nat.le_refl _)]
theorem uX:cE 32=false:=by decide
theorem oP:digit 32=false:=by decide
def dbl:List UInt8→List UInt8
 | []=> []
 |c::r=>if c=39 then 39::39::dbl r else c::dbl r
def eQ (t:Tok):List UInt8:=if t.1=1 then (if t.2.2.1=2 then Lib.itoa t.2.2.2.1 else 39::dbl t.2.2.2.2.data.toList++ [39]) else t.2.1.data.toList
inductive i7:Tok→Prop
 |word {w:List UInt8}:gB w=true→i7 (wordT w)
 |sign {c:UInt8}:c∈fz→i7 (signT c)
 |num {n:Int}:pY (Lib.itoa n)=some n→(∃c r,Lib.itoa n=c::r∧(digit c=true∨(c=45∧∃d r',r=d::r'∧digit d=true))∧∀x∈r,digit x=true)→i7 (numT n)
 |text {w:List UInt8}:w.length≤1000→i7 (textT w)
theorem xg (w:List UInt8):eQ (textT w)=39::dbl w++ [39]:=rfl
theorem re {p:UInt8→Bool} (l:List UInt8):∀x∈l.takeWhile p,p x=true:=by
 induction l with
 |nil=>simp
 |cons a l ih=>simp only [List.takeWhile];split<;>simp_all
theorem jl {p:UInt8→Bool} (l:List UInt8):(l.takeWhile p).length+(l.dropWhile p).length=l.length:=by
 have h:=congrArg List.length (List.takeWhile_append_dropWhile (p:=p) (l:=l))
 rw [List.length_append] at h
 exact h
theorem FJ {w:List UInt8} {n:Int} (h:pY w=some n):Lib.itoa n=w:=by
 unfold pY at h
 cases h1:Lib.atoiAll w with
 |ok v=>rw [h1] at h;simp only at h;split at h<;>rename_i h2<;>cases h;exact h2
 |_=>rw [h1] at h;cases h
theorem tD : ∀ (n : Nat) (l : List UInt8),l.length ≤ n → ∀ x,gG l = some x → l = dbl x.1 ++ 39 :: x.2 ∧ x.2.head? ≠ some 39 := by
  intro n
  induction n with
  |zero=>intro l hl x h;cases l<;>simp [gG] at h hl
  |succ n ih=>
    intro l hl x h
    match l,hl,h with
    | c :: r,hl,h =>
      rw [gq] at h
      split at h
      · rename_i hc
        subst hc
        match r,hl,h with
        | [],hl,h=>cases h;simp [dbl]
        | d :: r',hl,h =>
          simp only at h
          split at h
          · rename_i hd
            subst hd
            simp only [Option.map_eq_some_iff] at h
            obtain ⟨y,hy,rfl⟩:=h
            have:=ih r' (by simp at hl;omega) y hy
            simp only [dbl,if_true]
            rw [this.1]
            exact ⟨by simp,this.2⟩
          · rename_i hd
            cases h;simp [dbl,hd]
      · rename_i hc
        simp only [Option.map_eq_some_iff] at h
        obtain ⟨y,hy,rfl⟩:=h
        have:=ih r (by simp at hl;omega) y hy
        simp only [dbl,if_neg hc]
        rw [this.1]
        exact ⟨by simp,this.2⟩
theorem FK (w rest:List UInt8) (hr:rest.head?≠some 39):gG (dbl w++39::rest)=some (w,rest):=by
 induction w with
 |nil=>
  simp only [dbl,List.nil_append,gq,if_true]
  cases rest with
  |nil=>rfl
  |cons d r=>simp at hr;simp [hr]
 |cons c r ih=>
  simp only [dbl]
  split
  ·rename_i hc
   subst hc
   simp only [List.cons_append,gq,if_true,ih,Option.map_some]
  ·rename_i hc
   simp only [List.cons_append,gq,if_neg hc,ih,Option.map_some]
theorem Jg {l : List UInt8} {x : Tok × List UInt8} (h : jb l = some x) : i7 x.1 ∧ l = eQ x.1 ++ x.2 := by
  cases l with
  |nil=>cases h
  |cons c r=>
    simp only [jb] at h
    split at h
    · rename_i hc
      split at h
      · rename_i hl
        cases h
        refine ⟨.word ?_,?_⟩
        · simp only [gB,hc,Bool.true_and,Bool.and_eq_true,List.all_eq_true,decide_eq_true_eq]
          refine ⟨fun y hy=>?_,hl⟩
          rcases List.mem_cons.1 hy with rfl|hy
          · simp [cE,hc]
          · exact re _ _ hy
        · simp [eQ,wordT,List.takeWhile_append_dropWhile]
      · cases h
    · split at h
      · rename_i hd
        simp only [Option.map_eq_some_iff] at h
        obtain ⟨y,hy,rfl⟩:=h
        have e:=FJ hy
        refine ⟨.num (by rw [e];exact hy) ⟨c,r.takeWhile digit,e,?_,re _⟩,?_⟩
        · rw [Bool.or_eq_true] at hd
          rcases hd with hd|hd
          · exact .inl hd
          · rw [Bool.and_eq_true] at hd
            refine .inr ⟨by simpa using hd.1,?_⟩
            cases r with
            |nil=>simp [gC] at hd
            |cons d r'=>exact ⟨d,r'.takeWhile digit,by simp [List.takeWhile,show digit d=true from hd.2],hd.2⟩
        · simp only [eQ,numT,if_true]
          rw [e,List.cons_append,List.takeWhile_append_dropWhile]
      · split at h
        · rename_i hc
          subst hc
          simp only [Option.bind_eq_some_iff] at h
          obtain ⟨y,hy,h⟩:=h
          split at h
          · rename_i hl
            cases h
            refine ⟨.text hl,?_⟩
            have:=(tD _ r (Nat.le_refl _) y hy).1
            simp only [xg]
            rw [this]
            simp
          · cases h
        · split at h
          · rename_i hs
            cases h
            exact ⟨.sign hs,by simp [eQ,signT]⟩
          · cases h
theorem FL {t:Tok} (h:i7 t) {rest:List UInt8} (hr:rest=[]∨∃r,rest=32::r):jb (eQ t++rest)=some (t,rest):=by
 have tw:∀(p:UInt8→Bool),p 32=false→∀(w:List UInt8),(∀x∈w,p x=true)→(w++rest).takeWhile p=w∧(w++rest).dropWhile p=rest:=by
  intro p hp w hw
  induction w with
  |nil=>rcases hr with rfl|⟨r,rfl⟩<;>simp [List.takeWhile,List.dropWhile,hp]
  |cons a w ih=>
   have:=ih (fun x hx=>hw x (by simp [hx]))
   simp [List.takeWhile,List.dropWhile,hw a (by simp),this]
 cases h with
 |@word w hw=>
  cases w with
  |nil=>cases hw
  |cons c w=>
   simp only [gB,Bool.and_eq_true,List.all_eq_true,decide_eq_true_eq] at hw
   obtain ⟨⟨h1,h2⟩,h3⟩:=hw
   obtain ⟨t1,t2⟩:=tw cE uX w (fun x hx=>h2 x (by simp [hx]))
   show jb ((c::w)++rest)=_
   simp only [List.cons_append,jb,h1,if_true,t1,t2,h3]
 |@sign c hc=>
  show jb ([c]++rest)=_
  have hm:fm c=false∧digit c=false∧c≠39:=by
   simp only [fz,List.mem_cons,List.not_mem_nil,or_false] at hc
   rcases hc with rfl|rfl|rfl|rfl|rfl|rfl|rfl|rfl|rfl|rfl|rfl<;>decide
  have hd:gC rest=false:=by rcases hr with rfl|⟨r,rfl⟩<;>simp [gC,oP]
  simp only [List.cons_append,List.nil_append,jb,hm.1,hm.2.1,Bool.false_eq_true,if_false,hd,Bool.and_false,Bool.or_self,if_neg hm.2.2,if_pos hc]
 |@num n hn hs=>
  obtain ⟨c,r,e,h1,h2⟩:=hs
  show jb (eQ (numT n)++rest)=_
  simp only [eQ,numT,if_true]
  rw [e,List.cons_append]
  obtain ⟨t1,t2⟩:=tw digit oP r h2
  have hl:fm c=false:=by
   rcases h1 with h1|⟨rfl,_⟩
   ·simp only [digit,fm,Bool.and_eq_true,decide_eq_true_eq,Bool.and_eq_false_iff,decide_eq_false_iff_not] at h1 ⊢;omega
   ·decide
  have hb:(digit c||(decide (c=45)&&gC (r++rest)))=true:=by
   rcases h1 with h1|⟨rfl,d,r',rfl,hd⟩
   ·simp [h1]
   ·simp [gC,hd]
  simp only [jb,hl,Bool.false_eq_true,if_false,hb,if_true,t1,t2]
  rw [←e,hn]
  rfl
 |@text w hw=>
  show jb (eQ (textT w)++rest)=_
  rw [xg]
  have:fm 39=false∧digit 39=false:=by decide
  simp only [List.cons_append,List.append_assoc,List.nil_append,jb,this.1,this.2,Bool.false_eq_true,if_false,Bool.false_or]
  rw [if_neg (by rw [show decide ((39:UInt8)=45)=false by decide];simp),if_pos trivial,FK w rest (by rcases hr with rfl|⟨r,rfl⟩<;>simp)]
  simp [hw,textT]
theorem Cg {t:Tok} (h:i7 t):∃c r,eQ t=c::r∧c≠32:=by
 cases h with
 |@word w hw=>
  cases w with
  |nil=>cases hw
  |cons c w=>
   refine ⟨c,w,rfl,fun e=>?_⟩
   subst e
   simp [gB,fm] at hw
 |@sign c hc=>exact ⟨c,[],rfl,fun e=>by subst e;revert hc;decide⟩
 |@num n hn hs=>
  obtain ⟨c,r,e,h1,h2⟩:=hs
  refine ⟨c,r,by simp [eQ,numT,e],fun e=>?_⟩
  subst e
  rcases h1 with h1|⟨h1,_⟩
  ·simp [digit] at h1
  ·revert h1;decide
 |@text w hw=>exact ⟨39,_,rfl,by decide⟩
def fA:List (List UInt8)→List UInt8
 | []=> []
 | [w]=>w
 |w::r=>w++32::fA r
theorem gP (w:List UInt8) {r:List (List UInt8)} (h:r≠ []):fA (w::r)=w++32::fA r:=by
 cases r with
 |nil=>exact absurd rfl h
 |cons a r=>rfl
theorem FM:∀(l:List Tok),(∀t∈l,i7 t)→jB (fA (l.map eQ))=some l:=by
 intro l
 induction l with
 |nil=>intro _;rfl
 |cons t l ih=>
  intro h
  have ht:=h t (by simp)
  obtain ⟨c,r,e,hc⟩:=Cg ht
  have ih:=ih fun x hx=>h x (by simp [hx])
  have go:∀rest,(rest=[]∨∃r,rest=32::r)→jB (eQ t++rest)=(jB rest).map (t:: ·):=by
   intro rest hr
   have h1:=FL ht hr
   rw [e,List.cons_append] at h1 ⊢
   rw [ny _ hc,h1]
   rfl
  cases l with
  |nil=>
   have:=go [] (.inl rfl)
   simpa [fA,xf] using this
  |cons u l=>
   rw [List.map_cons,gP _ (by simp),go _ (.inr ⟨_,rfl⟩),oh,ih]
   rfl
def xh (x:List Tok):Nat:=(x.map fun t=>(eQ t).length+1).sum
theorem AM : ∀ (n : Nat) (l : List UInt8),l.length ≤ n → ∀ x,jB l = some x → (∀ t ∈ x,i7 t) ∧ xh x ≤ 2 * l.length := by
  intro n
  induction n with
  |zero=>
    intro l hl x h
    cases l with
    |nil=>cases h;simp [xh]
    |cons c r=>simp at hl
  |succ n ih=>
    intro l hl x h
    cases l with
    |nil=>cases h;simp [xh]
    |cons c r=>
      by_cases hc:c=32
      · subst hc
        rw [oh] at h
        have:=ih r (by simp at hl;omega) x h
        refine ⟨this.1,?_⟩
        simp only [List.length_cons]
        omega
      · rw [ny _ hc] at h
        simp only [Option.bind_eq_some_iff,Option.map_eq_some_iff] at h
        obtain ⟨y,hy,z,hz,rfl⟩:=h
        obtain ⟨h1,h2⟩:=Jg hy
        have h3:=xe hy
        obtain ⟨h4,h5⟩:=ih y.2 (by simp at hl h3;omega) z hz
        refine ⟨fun t ht=>by rcases List.mem_cons.1 ht with rfl|ht;exact h1;exact h4 t ht,?_⟩
        obtain ⟨d,q,e,_⟩:=Cg h1
        have hp:1≤(eQ y.1).length:=by rw [e];simp
        have hlen:(c::r).length=(eQ y.1).length+y.2.length:=by rw [h2,List.length_append]
        simp only [xh,List.map_cons,List.sum_cons] at h5 ⊢
        omega
theorem FN:∀l:List Tok,(fA (l.map eQ)).length≤xh l:=by
 intro l
 induction l with
 |nil=>simp [fA]
 |cons t l ih=>
  cases l with
  |nil=>simp [fA,xh]
  |cons u l=>
   rw [List.map_cons,gP _ (by simp)]
   simp only [xh,List.map_cons,List.sum_cons,List.length_append,List.length_cons] at ih ⊢
   omega
end Dl
end
section
namespace Dl
open Go
abbrev oT:=Int×(Int×Val)
abbrev Agg:=Int×Int
abbrev Col:=ByteArray×(Int×(Bool×(Bool×(ByteArray×Int))))
abbrev Tab:=ByteArray×(List Col×List (List oT))
abbrev mI:=ByteArray×(ByteArray×(ByteArray×(Agg×(List oT×(List Int×(Bool×List Agg))))))
abbrev Def:=Int×(Tab×mI)
abbrev v0:Val:=(0,(0,e0))
abbrev tab0:Tab:=(e0,([],[]))
abbrev xi:mI:=(e0,(e0,(e0,((0,0),([],([],(false,[])))))))
abbrev ka:List ByteArray:=[(⟨#[116,97,98,108,101]⟩:ByteArray),(⟨#[99,104,101,99,107]⟩:ByteArray),(⟨#[118,105,101,119]⟩:ByteArray),(⟨#[102,114,111,109]⟩:ByteArray),(⟨#[106,111,105,110]⟩:ByteArray),(⟨#[111,110]⟩:ByteArray),(⟨#[119,104,101,114,101]⟩:ByteArray),(⟨#[112,105,99,107]⟩:ByteArray),(⟨#[103,114,111,117,112]⟩:ByteArray),(⟨#[98,111,111,108]⟩:ByteArray),(⟨#[105,110,116]⟩:ByteArray),(⟨#[116,101,120,116]⟩:ByteArray),(⟨#[110,117,108,108]⟩:ByteArray),(⟨#[117,110,105,113,117,101]⟩:ByteArray),(⟨#[114,101,102]⟩:ByteArray),(⟨#[114,101,115,116,114,105,99,116]⟩:ByteArray),(⟨#[99,97,115,99,97,100,101]⟩:ByteArray),(⟨#[115,101,116,110,117,108,108]⟩:ByteArray),(⟨#[99,111,117,110,116]⟩:ByteArray),(⟨#[115,117,109]⟩:ByteArray),(⟨#[109,105,110]⟩:ByteArray),(⟨#[109,97,120]⟩:ByteArray),(⟨#[116,114,117,101]⟩:ByteArray),(⟨#[102,97,108,115,101]⟩:ByteArray),(⟨#[97,110,100]⟩:ByteArray),(⟨#[111,114]⟩:ByteArray),(⟨#[110,111,116]⟩:ByteArray)]
def jC (b:ByteArray):Bool:=gB b.data.toList
def isName (b:ByteArray):Bool:=jC b&& !ka.any fun k=>decide (k=b)
def tk (s:ByteArray):List Tok→Option (List Tok)
 | []=>none
 |t::r=>if t.1≠1∧t.2.1=s then some r else none
def tkL:List ByteArray→List Tok→Option (List Tok)
 | [],l=>some l
 |s::ss,l=>(tk s l).bind (tkL ss)
def gH (i : Int) : List ByteArray → List Tok → Option (Int × List Tok)
  | [],_=>none
  |w::ws,l=>match tk w l with
    |some r=>some (i,r)
    |none=>gH (i+1) ws l
def ii:List Tok→Option (ByteArray×List Tok)
 | []=>none
 |t::r=>if t.1=0∧isName t.2.1=true then some (t.2.1,r) else none
def kc:List Tok→Option (Int×List Tok)
 | []=>none
 |t::r=>if t.1=1∧t.2.2.1=2∧0≤t.2.2.2.1∧t.2.2.2.1≤99 then some (t.2.2.2.1,r) else none
def yi (b:ByteArray):Option Int:=
 if b=(⟨#[110,111,116]⟩:ByteArray) then some 9 else if b=(⟨#[111,114]⟩:ByteArray) then some 8 else if b=(⟨#[97,110,100]⟩:ByteArray) then some 7 else if b=(⟨#[60]⟩:ByteArray) then some 6 else if b=(⟨#[61]⟩:ByteArray) then some 5 else if b=(⟨#[42]⟩:ByteArray) then some 4 else if b=(⟨#[45]⟩:ByteArray) then some 3 else if b=(⟨#[43]⟩:ByteArray) then some 2 else none
def jm (b:ByteArray):Option Val:=
 if b=(⟨#[116,114,117,101]⟩:ByteArray) then some (1,(1,e0)) else if b=(⟨#[102,97,108,115,101]⟩:ByteArray) then some (1,(0,e0)) else if b=(⟨#[110,117,108,108]⟩:ByteArray) then some (0,(0,e0)) else none
def tE (l : List UInt8) : Option Int := match l with
  | []=>none
  |c::d=>if c=99 then (match Lib.atoiAll d with
    | .ok n=>if n≤99∧Lib.itoa n=d then some n else none
    |_=>none) else none
def iG (l : List Tok) : Option (oT × List Tok) := match tkL [(⟨#[110,117,108,108]⟩ : ByteArray),(⟨#[63]⟩ : ByteArray)] l with
  |some r=>some ((10,(0,v0)),r)
  |none=>match l with
    | []=>none
    | t :: r => if t.1 = 1 then some ((1,(0,t.2.2)),r) else
      match yi t.2.1 with
      |some op=>some ((op,(0,v0)),r)
      |none=>match jm t.2.1 with
        |some v=>some ((1,(0,v)),r)
        |none=>(tE t.2.1.data.toList).map fun n=>((0,(n,v0)),r)
def ip : Nat → List Tok → Option (List oT × List Tok)
  |n,l=>match tk (⟨#[93]⟩:ByteArray) l with
    |some r=>some ([],r)
    |none=>match n with
      |0=>none
      |n+1=>(iG l).bind fun x=>(ip n x.2).map fun y=>(x.1::y.1,y.2)
def jy (l:List Tok):Option (List oT×List Tok):=(tk (⟨#[91]⟩:ByteArray) l).bind (ip 100)
def iQ (s:ByteArray) (l:List Tok):Bool×List Tok:=match tk s l with
 |some r=>(true,r)
 |none=>(false,l)
abbrev kinds:List ByteArray:=[(⟨#[98,111,111,108]⟩:ByteArray),(⟨#[105,110,116]⟩:ByteArray),(⟨#[116,101,120,116]⟩:ByteArray)]
abbrev yj:List ByteArray:=[(⟨#[114,101,115,116,114,105,99,116]⟩:ByteArray),(⟨#[99,97,115,99,97,100,101]⟩:ByteArray),(⟨#[115,101,116,110,117,108,108]⟩:ByteArray)]
abbrev fns:List ByteArray:=[(⟨#[99,111,117,110,116]⟩:ByteArray),(⟨#[115,117,109]⟩:ByteArray),(⟨#[109,105,110]⟩:ByteArray),(⟨#[109,97,120]⟩:ByteArray)]
def Ch (l:List Tok):Option ((ByteArray×Int)×List Tok):=match tk (⟨#[114,101,102]⟩:ByteArray) l with
 |none=>some ((e0,0),l)
 |some r=>(ii r).bind fun x=>(gH 0 yj x.2).map fun y=>((x.1,y.1),y.2)
def gQ (l:List Tok):Option (Col×List Tok):=(ii l).bind fun x=>(gH 0 kinds x.2).bind fun y=>
 (Ch (iQ (⟨#[117,110,105,113,117,101]⟩:ByteArray) (iQ (⟨#[110,117,108,108]⟩:ByteArray) y.2).2).2).map fun z=>((x.1,(1+y.1,((iQ (⟨#[110,117,108,108]⟩:ByteArray) y.2).1,((iQ (⟨#[117,110,105,113,117,101]⟩:ByteArray) (iQ (⟨#[110,117,108,108]⟩:ByteArray) y.2).2).1,z.1)))),z.2)
def lA {α : Type} (p : List Tok → Option (α × List Tok)) : Nat → List Tok → Option (List α × List Tok)
  |n,l=>(p l).bind fun x=>match tk (⟨#[44]⟩:ByteArray) x.2 with
    |none=>some ([x.1],x.2)
    |some r=>match n with
      |0=>none
      |n+1=>(lA p n r).map fun y=>(x.1::y.1,y.2)
def ij : Nat → List Tok → Option (List (List oT) × List Tok)
  |n,l=>match tk (⟨#[99,104,101,99,107]⟩:ByteArray) l with
    |none=>some ([],l)
    |some r=>match n with
      |0=>none
      |n+1=>(jy r).bind fun x=>(ij n x.2).map fun y=>(x.1::y.1,y.2)
def ll (l:List Tok):Option (Tab×List Tok):=(ii l).bind fun x=>(tk (⟨#[40]⟩:ByteArray) x.2).bind fun l=>(lA gQ 39 l).bind fun y=>(tk (⟨#[41]⟩:ByteArray) y.2).bind fun l=>(ij 40 l).map fun z=>((x.1,(y.1,z.1)),z.2)
def mJ (l:List Tok):Option (Agg×List Tok):=(gH 0 fns l).bind fun x=>if x.1=0 then some ((0,0),x.2) else (kc x.2).map fun y=>((x.1,y.1),y.2)
def mz (l:List Tok):Option ((ByteArray×Agg)×List Tok):=match tk (⟨#[106,111,105,110]⟩:ByteArray) l with
 |none=>some ((e0,(0,0)),l)
 |some r=>(ii r).bind fun x=>(tk (⟨#[111,110]⟩:ByteArray) x.2).bind fun l=>(kc l).bind fun a=>(tk (⟨#[61]⟩:ByteArray) a.2).bind fun l=>(kc l).map fun b=>((x.1,(a.1,b.1)),b.2)
def jD (l:List Tok):Option (List oT×List Tok):=match tk (⟨#[119,104,101,114,101]⟩:ByteArray) l with
 |none=>some ([],l)
 |some r=>jy r
def rf (l:List Tok):Option (List Int×List Tok):=if l=[]∨(tk (⟨#[103,114,111,117,112]⟩:ByteArray) l).isSome then some ([],l) else lA kc 39 l
def tF (l:List Tok):Option ((Bool×List Agg)×List Tok):=match tk (⟨#[103,114,111,117,112]⟩:ByteArray) l with
 |none=>some ((false,[]),l)
 |some r=>if r=[] then some ((true,[]),r) else (lA mJ 39 r).map fun x=>((true,x.1),x.2)
def nz (l:List Tok):Option (mI×List Tok):=(ii l).bind fun x=>(tk (⟨#[102,114,111,109]⟩:ByteArray) x.2).bind fun l=>(ii l).bind fun f=>(mz f.2).bind fun j=>(jD j.2).bind fun w=>(tk (⟨#[112,105,99,107]⟩:ByteArray) w.2).bind fun l=>(rf l).bind fun p=>(tF p.2).map fun g=>
 ((x.1,(f.1,(j.1.1,(j.1.2,(w.1,(p.1,g.1)))))),g.2)
def Dt (l:List Tok):Option (Def×List Tok):=(gH 0 [(⟨#[116,97,98,108,101]⟩:ByteArray),(⟨#[118,105,101,119]⟩:ByteArray)] l).bind fun x=>
 if x.1=0 then (ll x.2).map fun y=>((0,(y.1,xi)),y.2) else (nz x.2).map fun y=>((x.1,(tab0,y.1)),y.2)
def lm (l:List Tok):Option Def:=(Dt l).bind fun x=>if x.2=[] then some x.1 else none
abbrev FO:Def:=(0,(tab0,xi))
def ke (s : List UInt8) : Def × Int := if 20000 < s.length then (FO,60) else match jB s with
  |none=>(FO,60)
  |some l=>match lm l with
    |none=>(FO,70)
    |some d=>(d,0)
def wd (s:ByteArray):Tok:=(0,(s,v0))
def sg (s:ByteArray):Tok:=(2,(s,v0))
def nA (x:oT):List Tok:=
 if x.1=10 then [wd (⟨#[110,117,108,108]⟩:ByteArray),sg (⟨#[63]⟩:ByteArray)]
 else if x.1=0 then [wd (bs (99::Lib.itoa x.2.1))]
 else if x.1=1 then (if x.2.2=(0,(0,e0)) then [wd (⟨#[110,117,108,108]⟩:ByteArray)] else if x.2.2=(1,(0,e0)) then [wd (⟨#[102,97,108,115,101]⟩:ByteArray)] else if x.2.2=(1,(1,e0)) then [wd (⟨#[116,114,117,101]⟩:ByteArray)] else [(1,(e0,x.2.2))])
 else if x.1=2 then [sg (⟨#[43]⟩:ByteArray)] else if x.1=3 then [sg (⟨#[45]⟩:ByteArray)] else if x.1=4 then [sg (⟨#[42]⟩:ByteArray)] else if x.1=5 then [sg (⟨#[61]⟩:ByteArray)] else if x.1=6 then [sg (⟨#[60]⟩:ByteArray)] else if x.1=7 then [wd (⟨#[97,110,100]⟩:ByteArray)] else if x.1=8 then [wd (⟨#[111,114]⟩:ByteArray)] else [wd (⟨#[110,111,116]⟩:ByteArray)]
def rg (e:List oT):List Tok:=sg (⟨#[91]⟩:ByteArray)::e.flatMap nA++ [sg (⟨#[93]⟩:ByteArray)]
def pZ {α:Type} (f:α→List Tok):List α→List Tok
 | []=> []
 | [x]=>f x
 |x::r=>f x++sg (⟨#[44]⟩:ByteArray)::pZ f r
def qp (c:Col):List Tok:=wd c.1::wd (kinds.getD (c.2.1-1).toNat e0)::((if c.2.2.1 then [wd (⟨#[110,117,108,108]⟩:ByteArray)] else [])++((if c.2.2.2.1 then [wd (⟨#[117,110,105,113,117,101]⟩:ByteArray)] else [])++(if c.2.2.2.2.1=e0 then [] else [wd (⟨#[114,101,102]⟩:ByteArray),wd c.2.2.2.2.1,wd (yj.getD c.2.2.2.2.2.toNat e0)])))
def Du (n:Int):List Tok:=[numT n]
def Dv (a:Agg):List Tok:=wd (fns.getD a.1.toNat e0)::(if a.1=0 then [] else Du a.2)
def tG (t:Tab):List Tok:=wd (⟨#[116,97,98,108,101]⟩:ByteArray)::wd t.1::sg (⟨#[40]⟩:ByteArray)::(pZ qp t.2.1++sg (⟨#[41]⟩:ByteArray)::t.2.2.flatMap fun e=>wd (⟨#[99,104,101,99,107]⟩:ByteArray)::rg e)
def xj (v:mI):List Tok:=wd (⟨#[118,105,101,119]⟩:ByteArray)::wd v.1::wd (⟨#[102,114,111,109]⟩:ByteArray)::wd v.2.1::((if v.2.2.1=e0 then [] else wd (⟨#[106,111,105,110]⟩:ByteArray)::wd v.2.2.1::wd (⟨#[111,110]⟩:ByteArray)::numT v.2.2.2.1.1::sg (⟨#[61]⟩:ByteArray)::[numT v.2.2.2.1.2])++
 ((if v.2.2.2.2.1=[] then [] else wd (⟨#[119,104,101,114,101]⟩:ByteArray)::rg v.2.2.2.2.1)++wd (⟨#[112,105,99,107]⟩:ByteArray)::(pZ Du v.2.2.2.2.2.1++((if v.2.2.2.2.2.2.1 then [wd (⟨#[103,114,111,117,112]⟩:ByteArray)] else [])++pZ Dv v.2.2.2.2.2.2.2))))
def Hw (d:Def):List Tok:=if d.1=0 then tG d.2.1 else xj d.2.2
abbrev gA (l:List Tok):Prop:=∀t∈l,i7 t
def Snd {α:Type} (p:List Tok→Option (α×List Tok)) (f:α→List Tok) (G:α→Prop):Prop:=∀l,gA l→∀x,p l=some x→l=f x.1++x.2∧gA x.2∧G x.1
theorem gA.tail {t:Tok} {l:List Tok} (h:gA (t::l)):gA l:=fun x hx=>h x (List.mem_cons_of_mem _ hx)
def isW (s:ByteArray):Bool:=match s.data.toList with
 | []=>false
 |c::_=>fm c
def Hx (s:ByteArray):Bool:=match s.data.toList with
 | [c]=>decide (c∈fz)
 |_=>false
theorem oi (s:ByteArray):bs s.data.toList=s:=by cases s;rfl
theorem jJ (l:List UInt8):(bs l).data.toList=l:=rfl
theorem uM {c:UInt8} (h:c∈fz):fm c=false:=by
 simp only [fz,List.mem_cons,List.not_mem_nil,or_false] at h
 rcases h with rfl|rfl|rfl|rfl|rfl|rfl|rfl|rfl|rfl|rfl|rfl<;>decide
theorem Ci {t:Tok} (h:i7 t) (h1:t.1≠1) {s:ByteArray} (hs:t.2.1=s) (hw:isW s=true):t=wd s:=by
 cases h with
 |word _=>subst hs;rfl
 |sign hc=>subst hs;simp only [signT,isW] at hw;rw [uM hc] at hw;cases hw
 |num _ _=>exact absurd rfl h1
 |text _=>exact absurd rfl h1
theorem Kh {t : Tok} (h : i7 t) (h1 : t.1 ≠ 1) {s : ByteArray} (hs : t.2.1 = s) (hw : Hx s = true) : t = sg s := by
  cases h with
  |@word w h=>
    subst hs
    cases w with
    |nil=>cases h
    |cons c w=>
      cases w with
      |cons _ _=>simp [Hx,wordT] at hw
      |nil=>
        simp only [Hx,wordT,decide_eq_true_eq] at hw
        simp only [gB,uM hw,Bool.false_and] at h
        cases h
  |sign _=>subst hs;rfl
  |num _ _=>exact absurd rfl h1
  |text _=>exact absurd rfl h1
theorem xk {s:ByteArray} (hw:isW s=true) {l r:List Tok} (hl:gA l) (h:tk s l=some r):l=wd s::r∧gA r:=by
 cases l with
 |nil=>cases h
 |cons t l=>
  simp only [tk] at h
  split at h
  ·rename_i hc
   cases h
   exact ⟨by rw [Ci (hl t (by simp)) hc.1 hc.2 hw],hl.tail⟩
  ·cases h
theorem Cj {s:ByteArray} (hw:Hx s=true) {l r:List Tok} (hl:gA l) (h:tk s l=some r):l=sg s::r∧gA r:=by
 cases l with
 |nil=>cases h
 |cons t l=>
  simp only [tk] at h
  split at h
  ·rename_i hc
   cases h
   exact ⟨by rw [Kh (hl t (by simp)) hc.1 hc.2 hw],hl.tail⟩
  ·cases h
theorem Jh (ws:List ByteArray) (hw:∀w∈ws,isW w=true):∀(i:Int) (l:List Tok),gA l→∀x,gH i ws l=some x→∃j:Nat,x.1=i+j∧j<ws.length∧l=wd (ws.getD j e0)::x.2∧gA x.2:=by
 induction ws with
 |nil=>intro i l _ x h;cases h
 |cons w ws ih=>
  intro i l hl x h
  simp only [gH] at h
  split at h
  ·rename_i r hr
   cases h
   obtain ⟨h1,h2⟩:=xk (hw w (by simp)) hl hr
   exact ⟨0,by simp,by simp,by simpa using h1,h2⟩
  ·obtain ⟨j,h1,h2,h3,h4⟩:=ih (fun w hw'=>hw w (List.mem_cons_of_mem _ hw')) (i+1) l hl x h
   exact ⟨j+1,by rw [h1];push_cast;omega,by simp;omega,by simpa using h3,h4⟩
theorem sT (ws:List ByteArray) (hw:∀w∈ws,isW w=true):Snd (gH 0 ws) (fun i=> [wd (ws.getD i.toNat e0)]) (fun i=>0≤i∧i<ws.length):=fun l hl x h=>by
 obtain ⟨j,h1,h2,h3,h4⟩:=Jh ws hw 0 l hl x h
 refine ⟨?_,h4,by rw [h1];omega,by rw [h1];omega⟩
 rw [h1,h3]
 simp
theorem KI {b:ByteArray} (h:isName b=true):isW b=true:=by
 simp only [isName,jC,Bool.and_eq_true] at h
 have h:=h.1
 unfold isW
 cases hb:b.data.toList with
 |nil=>rw [hb] at h;cases h
 |cons c r=>rw [hb] at h;simp only [gB,Bool.and_eq_true] at h;exact h.1.1
theorem kK:Snd ii (fun b=> [wd b]) (fun b=>isName b=true):=fun l hl x h=>by
 cases l with
 |nil=>cases h
 |cons t l=>
  simp only [ii] at h
  split at h
  ·rename_i hc
   cases h
   refine ⟨?_,hl.tail,hc.2⟩
   have:=Ci (hl t (by simp)) (by rw [hc.1];decide) rfl (KI hc.2)
   simpa using this
  ·cases h
theorem sU : Snd kc (fun n => [numT n]) (fun n => 0 ≤ n ∧ n ≤ 99) := fun l hl x h => by
  cases l with
  |nil=>cases h
  |cons t l=>
    simp only [kc] at h
    split at h
    · rename_i hc
      cases h
      refine ⟨?_,hl.tail,hc.2.2.1,hc.2.2.2⟩
      have:t=numT t.2.2.2.1:=by
        have ht:=hl t (by simp)
        cases ht with
        |word _=>exact absurd hc.1 (show ¬(0:Int)=1 by decide)
        |sign _=>exact absurd hc.1 (show ¬(2:Int)=1 by decide)
        |num _ _=>rfl
        |text _=>exact absurd hc.2.1 (show ¬(3:Int)=2 by decide)
      simpa using this
    · cases h
def Hy (v:Val):Prop:=v=(0,(0,e0))∨v=(1,(0,e0))∨v=(1,(1,e0))∨i7 (1,(e0,v))
def xl (x:oT):Prop:=(x.1=10∧x.2=(0,v0))∨(x.1=0∧0≤x.2.1∧x.2.1≤99∧x.2.2=v0)∨(x.1=1∧x.2.1=0∧Hy x.2.2)∨(2≤x.1∧x.1≤9∧x.2=(0,v0))
theorem Hz {t:Tok} (h:i7 t) (h1:t.1=1):t=(1,(e0,t.2.2))∧(t.2.2.1=2∨t.2.2.1=3):=by
 cases h with
 |word _=>exact absurd h1 (show ¬(0:Int)=1 by decide)
 |sign _=>exact absurd h1 (show ¬(2:Int)=1 by decide)
 |num _ _=>exact ⟨rfl,.inl rfl⟩
 |text _=>exact ⟨rfl,.inr rfl⟩
theorem FP {b:ByteArray} {op:Int} (h:yi b=some op):2≤op∧op≤9∧((isW b=true∧nA (op,(0,v0))=[wd b])∨(Hx b=true∧nA (op,(0,v0))=[sg b])):=by
 unfold yi at h
 split at h
 ·rename_i e;cases h;subst e;exact ⟨by decide,by decide,.inl ⟨by decide,rfl⟩⟩
 split at h
 ·rename_i e;cases h;subst e;exact ⟨by decide,by decide,.inl ⟨by decide,rfl⟩⟩
 split at h
 ·rename_i e;cases h;subst e;exact ⟨by decide,by decide,.inl ⟨by decide,rfl⟩⟩
 split at h
 ·rename_i e;cases h;subst e;exact ⟨by decide,by decide,.inr ⟨by decide,rfl⟩⟩
 split at h
 ·rename_i e;cases h;subst e;exact ⟨by decide,by decide,.inr ⟨by decide,rfl⟩⟩
 split at h
 ·rename_i e;cases h;subst e;exact ⟨by decide,by decide,.inr ⟨by decide,rfl⟩⟩
 split at h
 ·rename_i e;cases h;subst e;exact ⟨by decide,by decide,.inr ⟨by decide,rfl⟩⟩
 split at h
 ·rename_i e;cases h;subst e;exact ⟨by decide,by decide,.inr ⟨by decide,rfl⟩⟩
 ·cases h
theorem AN {b:ByteArray} {v:Val} (h:jm b=some v):isW b=true∧Hy v∧nA (1,(0,v))=[wd b]:=by
 unfold jm at h
 split at h
 ·rename_i e;cases h;subst e;exact ⟨by decide,.inr (.inr (.inl rfl)),rfl⟩
 split at h
 ·rename_i e;cases h;subst e;exact ⟨by decide,.inr (.inl rfl),rfl⟩
 split at h
 ·rename_i e;cases h;subst e;exact ⟨by decide,.inl rfl,rfl⟩
 ·cases h
theorem tH {l : List UInt8} {n : Int} (h : tE l = some n) : l = 99 :: Lib.itoa n ∧ n ≤ 99 := by
  unfold tE at h
  split at h
  · cases h
  · split at h
    · rename_i c
      subst c
      split at h
      · split at h
        · rename_i hc
          cases h
          exact ⟨by rw [hc.2],hc.1⟩
        · cases h
      · cases h
    · cases h
theorem FQ        : Snd iG nA xl := fun l hl x h => by
  simp only [iG] at h
  split at h
  · rename_i r hr
    cases h
    simp only [tkL] at hr
    cases h1:tk (⟨#[110,117,108,108]⟩:ByteArray) l with
    |none=>rw [h1] at hr;cases hr
    |some r1=>
      rw [h1] at hr
      simp only [Option.bind_some] at hr
      obtain ⟨e1,o1⟩:=xk (by decide) hl h1
      cases h2:tk (⟨#[63]⟩:ByteArray) r1 with
      |none=>rw [h2] at hr;cases hr
      |some r2=>
        rw [h2] at hr
        cases hr
        obtain ⟨e2,o2⟩:=Cj (by decide) o1 h2
        exact ⟨by rw [e1,e2];rfl,o2,.inl ⟨rfl,rfl⟩⟩
  · rename_i hn
    cases l with
    |nil=>cases h
    |cons t l=>
      have ht:=hl t (by simp)
      simp only at h
      split at h
      · rename_i h1
        cases h
        obtain ⟨e1,e2⟩:=Hz ht h1
        refine ⟨?_,hl.tail,.inr (.inr (.inl ⟨rfl,rfl,.inr (.inr (.inr (e1▸ht)))⟩))⟩
        have n1:t.2.2≠(0,(0,e0)):=fun e=>by rw [e] at e2;revert e2;decide
        have n2:t.2.2≠(1,(0,e0)):=fun e=>by rw [e] at e2;revert e2;decide
        have n3:t.2.2≠(1,(1,e0)):=fun e=>by rw [e] at e2;revert e2;decide
        have:nA (1,(0,t.2.2))=[t]:=by
          simp only [nA,if_neg n1,if_neg n2,if_neg n3]
          rw [←e1]
          rfl
        rw [this]
        rfl
      · rename_i h1
        split at h
        · rename_i op ho
          cases h
          obtain ⟨o1,o2,o3⟩:=FP ho
          refine ⟨?_,hl.tail,.inr (.inr (.inr ⟨o1,o2,rfl⟩))⟩
          rcases o3 with ⟨o3,o4⟩|⟨o3,o4⟩
          · rw [o4,Ci ht h1 rfl o3];rfl
          · rw [o4,Kh ht h1 rfl o3];rfl
        · split at h
          · rename_i v hv
            cases h
            obtain ⟨o1,o2,o3⟩:=AN hv
            refine ⟨?_,hl.tail,.inr (.inr (.inl ⟨rfl,rfl,o2⟩))⟩
            rw [o3,Ci ht h1 rfl o1];rfl
          · simp only [Option.map_eq_some_iff] at h
            obtain ⟨n,hn,rfl⟩:=h
            obtain ⟨o1,o2⟩:=tH hn
            have hw:isW t.2.1=true:=by unfold isW;rw [o1];show fm 99=true;decide
            have e:=Ci ht h1 rfl hw
            refine ⟨?_,hl.tail,.inr (.inl ⟨rfl,?_,o2,rfl⟩)⟩
            · have:nA (0,(n,v0))=[t]:=by
                show [wd (bs (99::Lib.itoa n))]=[t]
                rw [←o1,oi,←e]
              rw [this];rfl
            · show 0≤n
              rcases Int.lt_or_le n 0 with hneg|hpos
              · exfalso
                cases ht with
                |@word w hw'=>
                  simp only [wordT,jJ] at o1
                  subst o1
                  simp only [gB,Bool.and_eq_true,List.all_eq_true] at hw'
                  have h45:(45:UInt8)∈(99::Lib.itoa n):=by
                    unfold Lib.itoa
                    rw [if_pos hneg]
                    simp
                  have:=hw'.1.2 _ h45
                  revert this
                  decide
                |sign hc=>
                  simp only [signT,jJ,List.cons.injEq] at o1
                  obtain ⟨rfl,_⟩:=o1
                  revert hc;decide
                |num _ _=>exact h1 rfl
                |text _=>exact h1 rfl
              · exact hpos
theorem Dw : ∀ (n : Nat) (l : List Tok),gA l → ∀ x,ip n l = some x → l = x.1.flatMap nA ++ sg (⟨#[93]⟩ : ByteArray) :: x.2 ∧ gA x.2 ∧ (∀ y ∈ x.1,xl y) ∧ x.1.length ≤ n := by
  intro n
  induction n with
  |zero=>
    intro l hl x h
    rw [ip] at h
    split at h
    · rename_i r hr
      cases h
      obtain ⟨e,o⟩:=Cj (by decide) hl hr
      exact ⟨by simpa using e,o,by simp,by simp⟩
    · cases h
  |succ n ih=>
    intro l hl x h
    rw [ip] at h
    split at h
    · rename_i r hr
      cases h
      obtain ⟨e,o⟩:=Cj (by decide) hl hr
      exact ⟨by simpa using e,o,by simp,by simp⟩
    · simp only [Option.bind_eq_some_iff,Option.map_eq_some_iff] at h
      obtain ⟨y,hy,z,hz,rfl⟩:=h
      obtain ⟨a1,a2,a3⟩:=FQ l hl y hy
      obtain ⟨b1,b2,b3,b4⟩:=ih y.2 a2 z hz
      refine ⟨?_,b2,?_,by simp;omega⟩
      · rw [a1,b1];simp
      · intro u hu
        rcases List.mem_cons.1 hu with rfl|hu
        · exact a3
        · exact b3 u hu
def p3 (e:List oT):Prop:=(∀y∈e,xl y)∧e.length≤100
theorem zN:Snd jy rg p3:=fun l hl x h=>by
 simp only [jy,Option.bind_eq_some_iff] at h
 obtain ⟨r,hr,h⟩:=h
 obtain ⟨e,o⟩:=Cj (by decide) hl hr
 obtain ⟨a,b,c,d⟩:=Dw 100 r o x h
 exact ⟨by rw [e,a];simp [rg],b,c,d⟩
theorem Ck {s:ByteArray} (hs:isW s=true) {l:List Tok} (hl:gA l):l=(if (iQ s l).1 then [wd s] else [])++(iQ s l).2∧gA (iQ s l).2:=by
 unfold iQ
 cases h:tk s l with
 |none=>exact ⟨rfl,hl⟩
 |some r=>
  obtain ⟨e,o⟩:=xk hs hl h
  exact ⟨by simpa using e,o⟩
theorem sV {b:ByteArray} (h:isName b=true):b≠e0:=fun e=>by subst e;revert h;decide
theorem HA:Snd Ch (fun x=>if x.1=e0 then [] else [wd (⟨#[114,101,102]⟩:ByteArray),wd x.1,wd (yj.getD x.2.toNat e0)]) (fun x=>(x.1=e0∧x.2=0)∨(isName x.1=true∧0≤x.2∧x.2<3)):=fun l hl x h=>by
 unfold Ch at h
 split at h
 ·cases h;exact ⟨by simp,hl,.inl ⟨rfl,rfl⟩⟩
 ·rename_i r hr
  simp only [Option.bind_eq_some_iff,Option.map_eq_some_iff] at h
  obtain ⟨y,hy,z,hz,rfl⟩:=h
  obtain ⟨e,o⟩:=xk (by decide) hl hr
  obtain ⟨a1,a2,a3⟩:=kK r o y hy
  obtain ⟨b1,b2,b3⟩:=sT yj (by decide) y.2 a2 z hz
  refine ⟨?_,b2,.inr ⟨a3,b3⟩⟩
  simp only [if_neg (sV a3)]
  rw [e,a1,b1]
  rfl
def HB (c:Col):Prop:=isName c.1=true∧1≤c.2.1∧c.2.1≤3∧((c.2.2.2.2.1=e0∧c.2.2.2.2.2=0)∨(isName c.2.2.2.2.1=true∧0≤c.2.2.2.2.2∧c.2.2.2.2.2<3))
theorem Cl:Snd gQ qp HB:=fun l hl x h=>by
 simp only [gQ,Option.bind_eq_some_iff,Option.map_eq_some_iff] at h
 obtain ⟨y,hy,z,hz,u,hu,rfl⟩:=h
 obtain ⟨a1,a2,a3⟩:=kK l hl y hy
 obtain ⟨b1,b2,b3,b4⟩:=sT kinds (by decide) y.2 a2 z hz
 obtain ⟨c1,c2⟩:=Ck (s:=(⟨#[110,117,108,108]⟩:ByteArray)) (by decide) b2
 obtain ⟨d1,d2⟩:=Ck (s:=(⟨#[117,110,105,113,117,101]⟩:ByteArray)) (by decide) c2
 obtain ⟨f1,f2,f3⟩:=HA _ d2 u hu
 have b4:z.1<3:=b4
 refine ⟨?_,f2,a3,by simp;omega,by simp;omega,f3⟩
 simp only [qp]
 rw [show 1+z.1-1=z.1 by omega]
 conv=>lhs;rw [a1,b1,c1,d1,f1]
 simp
theorem xm {α : Type} {p : List Tok → Option (α × List Tok)} {f : α → List Tok} {G : α → Prop} (hp : Snd p f G) : ∀ (n : Nat) (l : List Tok),gA l → ∀ x,lA p n l = some x → l = pZ f x.1 ++ x.2 ∧ gA x.2 ∧ (∀ y ∈ x.1,G y) ∧ 1 ≤ x.1.length ∧ x.1.length ≤ n + 1 := by
  intro n
  induction n with
  |zero=>
    intro l hl x h
    rw [lA] at h
    simp only [Option.bind_eq_some_iff] at h
    obtain ⟨y,hy,h⟩:=h
    obtain ⟨a1,a2,a3⟩:=hp l hl y hy
    split at h
    · cases h;exact ⟨a1,a2,by simpa using a3,by simp,by simp⟩
    · cases h
  |succ n ih=>
    intro l hl x h
    rw [lA] at h
    simp only [Option.bind_eq_some_iff] at h
    obtain ⟨y,hy,h⟩:=h
    obtain ⟨a1,a2,a3⟩:=hp l hl y hy
    split at h
    · cases h;exact ⟨a1,a2,by simpa using a3,by simp,by simp⟩
    · rename_i r hr
      simp only [Option.map_eq_some_iff] at h
      obtain ⟨z,hz,rfl⟩:=h
      obtain ⟨e,o⟩:=Cj (by decide) a2 hr
      obtain ⟨b1,b2,b3,b4,b5⟩:=ih r o z hz
      refine ⟨?_,b2,?_,by simp,by simp;omega⟩
      · conv=>lhs;rw [a1,e,b1]
        cases hz1:z.1 with
        |nil=>rw [hz1] at b4;simp at b4
        |cons u v=>simp [pZ]
      · intro u hu
        rcases List.mem_cons.1 hu with rfl|hu
        · exact a3
        · exact b3 u hu
theorem Cm : ∀ (n : Nat) (l : List Tok),gA l → ∀ x,ij n l = some x → l = (x.1.flatMap fun e => wd (⟨#[99,104,101,99,107]⟩ : ByteArray) :: rg e) ++ x.2 ∧ gA x.2 ∧ (∀ y ∈ x.1,p3 y) ∧ x.1.length ≤ n := by
  intro n
  induction n with
  |zero=>
    intro l hl x h
    rw [ij] at h
    split at h
    · cases h;exact ⟨by simp,hl,by simp,by simp⟩
    · cases h
  |succ n ih=>
    intro l hl x h
    rw [ij] at h
    split at h
    · cases h;exact ⟨by simp,hl,by simp,by simp⟩
    · rename_i r hr
      simp only [Option.bind_eq_some_iff,Option.map_eq_some_iff] at h
      obtain ⟨y,hy,z,hz,rfl⟩:=h
      obtain ⟨e,o⟩:=xk (by decide) hl hr
      obtain ⟨a1,a2,a3⟩:=zN r o y hy
      obtain ⟨b1,b2,b3,b4⟩:=ih y.2 a2 z hz
      refine ⟨?_,b2,?_,by simp;omega⟩
      · conv=>lhs;rw [e,a1,b1]
        simp
      · intro u hu
        rcases List.mem_cons.1 hu with rfl|hu
        · exact a3
        · exact b3 u hu
structure eH (t:Tab):Prop where
 name:isName t.1=true
 cols:∀c∈t.2.1,HB c
 checks:∀e∈t.2.2,p3 e
 some:1≤t.2.1.length
 most:t.2.1.length≤40
 most2:t.2.2.length≤40
theorem Dx:∀l,gA l→∀x,ll l=some x→wd (⟨#[116,97,98,108,101]⟩:ByteArray)::l=tG x.1++x.2∧gA x.2∧eH x.1:=fun l hl x h=>by
 simp only [ll,Option.bind_eq_some_iff,Option.map_eq_some_iff] at h
 obtain ⟨y,hy,r,hr,z,hz,r2,hr2,u,hu,rfl⟩:=h
 obtain ⟨a1,a2,a3⟩:=kK l hl y hy
 obtain ⟨b1,b2⟩:=Cj (by decide) a2 hr
 obtain ⟨c1,c2,c3,c4,c5⟩:=xm Cl 39 r b2 z hz
 obtain ⟨d1,d2⟩:=Cj (by decide) c2 hr2
 obtain ⟨f1,f2,f3,f4⟩:=Cm 40 r2 d2 u hu
 refine ⟨?_,f2,⟨a3,c3,f3,c4,c5,f4⟩⟩
 conv=>lhs;rw [a1,b1,c1,d1,f1]
 simp [tG]
def Cn (a:Agg):Prop:=0≤a.1∧a.1<4∧0≤a.2∧a.2≤99∧(a.1=0→a.2=0)
theorem HC:Snd mJ Dv Cn:=fun l hl x h=>by
 simp only [mJ,Option.bind_eq_some_iff] at h
 obtain ⟨y,hy,h⟩:=h
 obtain ⟨a1,a2,a3,a4⟩:=sT fns (by decide) l hl y hy
 have a4:y.1<4:=a4
 split at h
 ·rename_i h0
  cases h
  refine ⟨?_,a2,by simp [Cn]⟩
  rw [a1,h0];rfl
 ·rename_i h0
  simp only [Option.map_eq_some_iff] at h
  obtain ⟨z,hz,rfl⟩:=h
  obtain ⟨b1,b2,b3,b4⟩:=sU y.2 a2 z hz
  refine ⟨?_,b2,a3,a4,b3,b4,fun e=>absurd e h0⟩
  conv=>lhs;rw [a1,b1]
  simp [Dv,if_neg h0,Du]
theorem FR:Snd mz (fun x=>if x.1=e0 then [] else wd (⟨#[106,111,105,110]⟩:ByteArray)::wd x.1::wd (⟨#[111,110]⟩:ByteArray)::numT x.2.1::sg (⟨#[61]⟩:ByteArray)::[numT x.2.2]) (fun x=>(x.1=e0∧x.2=(0,0))∨(isName x.1=true∧0≤x.2.1∧x.2.1≤99∧0≤x.2.2∧x.2.2≤99)):=fun l hl x h=>by
 unfold mz at h
 split at h
 ·cases h;exact ⟨by simp,hl,.inl ⟨rfl,rfl⟩⟩
 ·rename_i r hr
  simp only [Option.bind_eq_some_iff,Option.map_eq_some_iff] at h
  obtain ⟨y,hy,r2,hr2,a,ha,r3,hr3,b,hb,rfl⟩:=h
  obtain ⟨e,o⟩:=xk (by decide) hl hr
  obtain ⟨a1,a2,a3⟩:=kK r o y hy
  obtain ⟨b1,b2⟩:=xk (by decide) a2 hr2
  obtain ⟨c1,c2,c3,c4⟩:=sU r2 b2 a ha
  obtain ⟨d1,d2⟩:=Cj (by decide) c2 hr3
  obtain ⟨f1,f2,f3,f4⟩:=sU r3 d2 b hb
  refine ⟨?_,f2,.inr ⟨a3,c3,c4,f3,f4⟩⟩
  simp only [if_neg (sV a3)]
  conv=>lhs;rw [e,a1,b1,c1,d1,f1]
  simp
theorem Dy:∀l,gA l→∀x,jD l=some x→(l=(if x.1=[] then [] else wd (⟨#[119,104,101,114,101]⟩:ByteArray)::rg x.1)++x.2∨(x.1=[]∧l=[wd (⟨#[119,104,101,114,101]⟩:ByteArray),sg (⟨#[91]⟩:ByteArray),sg (⟨#[93]⟩:ByteArray)]++x.2))∧gA x.2∧p3 x.1:=fun l hl x h=>by
 unfold jD at h
 split at h
 ·cases h;exact ⟨.inl (by simp),hl,by simp [p3]⟩
 ·rename_i r hr
  obtain ⟨e,o⟩:=xk (by decide) hl hr
  obtain ⟨a1,a2,a3⟩:=zN r o x h
  refine ⟨?_,a2,a3⟩
  by_cases h0:x.1=[]
  ·right
   refine ⟨h0,?_⟩
   rw [e,a1,h0]
   rfl
  ·left
   rw [if_neg h0,e,List.cons_append]
   exact congrArg _ a1
theorem FS:Snd rf (pZ Du) (fun p=>(∀n∈p,0≤n∧n≤99)∧p.length≤40):=fun l hl x h=>by
 unfold rf at h
 split at h
 ·cases h;exact ⟨by simp [pZ],hl,by simp⟩
 ·obtain ⟨a,b,c,d,e⟩:=xm (f:=Du) sU 39 l hl x h
  exact ⟨a,b,c,e⟩
theorem Dz:Snd tF (fun x=>(if x.1 then [wd (⟨#[103,114,111,117,112]⟩:ByteArray)] else [])++pZ Dv x.2) (fun x=>(∀a∈x.2,Cn a)∧x.2.length≤40∧(x.1=true∨x.2=[])):=fun l hl x h=>by
 unfold tF at h
 split at h
 ·cases h;exact ⟨by simp [pZ],hl,by simp⟩
 ·rename_i r hr
  obtain ⟨e,o⟩:=xk (by decide) hl hr
  split at h
  ·cases h;exact ⟨by simpa [pZ] using e,o,by simp⟩
  ·simp only [Option.map_eq_some_iff] at h
   obtain ⟨z,hz,rfl⟩:=h
   obtain ⟨a,b,c,d,f⟩:=xm HC 39 r o z hz
   exact ⟨by rw [e,a];simp,b,c,f,.inl rfl⟩
structure tI (v:mI):Prop where
 name:isName v.1=true
 fr:isName v.2.1=true
 join:(v.2.2.1=e0∧v.2.2.2.1=(0,0))∨(isName v.2.2.1=true∧0≤v.2.2.2.1.1∧v.2.2.2.1.1≤99∧0≤v.2.2.2.1.2∧v.2.2.2.1.2≤99)
 whr:p3 v.2.2.2.2.1
 pick:∀n∈v.2.2.2.2.2.1,0≤n∧n≤99
 most:v.2.2.2.2.2.1.length≤40
 aggs:∀a∈v.2.2.2.2.2.2.2,Cn a
 most2:v.2.2.2.2.2.2.2.length≤40
 group:v.2.2.2.2.2.2.1=true∨v.2.2.2.2.2.2.2=[]
theorem HD (s:ByteArray) (l:List Tok):tk s (wd s::l)=some l:=by simp [tk,wd]
theorem tk_sg (s:ByteArray) (l:List Tok):tk s (sg s::l)=some l:=by simp [tk,sg]
theorem sW {b:ByteArray} (h:isName b=true) (l:List Tok):ii (wd b::l)=some (b,l):=by simp [ii,wd,h]
theorem Co {n:Int} (h:0≤n∧n≤99) (l:List Tok):kc (numT n::l)=some (n,l):=by simp [kc,numT,h]
theorem FT : ∀ l,gA l → ∀ x,nz l = some x → ∃ l',nz l' = some x ∧ l'.Sublist l ∧ wd (⟨#[118,105,101,119]⟩ : ByteArray) :: l' = xj x.1 ++ x.2 ∧ gA x.2 ∧ tI x.1 := fun l hl x h => by
  simp only [nz,Option.bind_eq_some_iff,Option.map_eq_some_iff] at h
  obtain ⟨y,hy,r,hr,f,hf,j,hj,w,hw,r2,hr2,p,hp,g,hg,rfl⟩:=h
  obtain ⟨a1,a2,a3⟩:=kK l hl y hy
  obtain ⟨b1,b2⟩:=xk (by decide) a2 hr
  obtain ⟨c1,c2,c3⟩:=kK r b2 f hf
  obtain ⟨d1,d2,d3⟩:=FR f.2 c2 j hj
  obtain ⟨f1,f2,f3⟩:=Dy j.2 d2 w hw
  obtain ⟨g1,g2⟩:=xk (by decide) f2 hr2
  obtain ⟨i1,i2,i3⟩:=FS r2 g2 p hp
  obtain ⟨k1,k2,k3⟩:=Dz p.2 i2 g hg
  have hV:tI (y.1,(f.1,(j.1.1,(j.1.2,(w.1,(p.1,g.1)))))):=⟨a3,c3,d3,f3,i3.1,i3.2,k3.1,k3.2.1,k3.2.2⟩
  let J:List Tok:=if j.1.1=e0 then [] else wd (⟨#[106,111,105,110]⟩:ByteArray)::wd j.1.1::wd (⟨#[111,110]⟩:ByteArray)::numT j.1.2.1::sg (⟨#[61]⟩:ByteArray)::[numT j.1.2.2]
  let W:List Tok:=if w.1=[] then [] else wd (⟨#[119,104,101,114,101]⟩:ByteArray)::rg w.1
  have hT:wd (⟨#[118,105,101,119]⟩:ByteArray)::(wd y.1::wd (⟨#[102,114,111,109]⟩:ByteArray)::wd f.1::(J++(W++w.2)))=xj (y.1,(f.1,(j.1.1,(j.1.2,(w.1,(p.1,g.1))))))++g.2:=by
    rw [g1,i1,k1]
    simp [xj,J,W]
  rcases f1 with f1|⟨f0,f1⟩
  · have hl':l=wd y.1::wd (⟨#[102,114,111,109]⟩:ByteArray)::wd f.1::(J++(W++w.2)):=by rw [a1,b1,c1,d1,f1];rfl
    refine ⟨l,?_,List.Sublist.refl _,by rw [←hT,hl'],k2,hV⟩
    simp only [nz,hy,hr,hf,hj,hw,hr2,hp,hg,Option.bind_some,Option.map_some]
  · have hW:W=[]:=if_pos f0
    refine ⟨wd y.1::wd (⟨#[102,114,111,109]⟩:ByteArray)::wd f.1::(J++(W++w.2)),?_,?_,hT,k2,hV⟩
    · have hj':mz (J++w.2)=some (j.1,w.2):=by
        rcases d3 with ⟨d3,d4⟩|⟨d3,d4,d5,d6,d7⟩
        · have hJ:J=[]:=if_pos d3
          have:tk (⟨#[106,111,105,110]⟩:ByteArray) w.2=none:=by rw [g1];rfl
          rw [hJ,List.nil_append]
          simp only [mz,this]
          rw [←d3,←d4]
        · have hJ:J=wd (⟨#[106,111,105,110]⟩:ByteArray)::wd j.1.1::wd (⟨#[111,110]⟩:ByteArray)::numT j.1.2.1::sg (⟨#[61]⟩:ByteArray)::[numT j.1.2.2]:=if_neg (sV d3)
          rw [hJ]
          simp only [List.cons_append,List.nil_append,mz,HD,sW d3,Co ⟨d4,d5⟩,tk_sg,Co ⟨d6,d7⟩,Option.bind_some,Option.map_some]
      have hw':jD w.2=some ([],w.2):=by
        have:tk (⟨#[119,104,101,114,101]⟩:ByteArray) w.2=none:=by rw [g1];rfl
        simp only [jD,this]
      rw [hW,List.nil_append]
      simp only [nz,sW a3,HD,sW c3,hj',hw',hr2,hp,hg,Option.bind_some,Option.map_some,f0]
    · rw [hW,List.nil_append]
      have hl':l=wd y.1::wd (⟨#[102,114,111,109]⟩:ByteArray)::wd f.1::(J++([wd (⟨#[119,104,101,114,101]⟩:ByteArray),sg (⟨#[91]⟩:ByteArray),sg (⟨#[93]⟩:ByteArray)]++w.2)):=by rw [a1,b1,c1,d1,f1];rfl
      rw [hl']
      refine List.Sublist.cons_cons _ (List.Sublist.cons_cons _ (List.Sublist.cons_cons _ (List.Sublist.append (List.Sublist.refl _) ?_)))
      exact List.sublist_append_right _ _
inductive mA:Def→Prop
 |tab {t:Tab}:eH t→mA (0,(t,xi))
 |view {v:mI}:tI v→mA (1,(tab0,v))
theorem Cp {l : List Tok} (hl : gA l) {d : Def} (h : lm l = some d) : (Hw d).Sublist l ∧ lm (Hw d) = some d ∧ mA d := by
  simp only [lm,Option.bind_eq_some_iff] at h
  obtain ⟨x,hx,h⟩:=h
  split at h
  · rename_i h0
    cases h
    simp only [Dt,Option.bind_eq_some_iff] at hx
    obtain ⟨y,hy,hx⟩:=hx
    obtain ⟨a1,a2,a3,a4⟩:=sT [(⟨#[116,97,98,108,101]⟩:ByteArray),(⟨#[118,105,101,119]⟩:ByteArray)] (by decide) l hl y hy
    have a4:y.1<2:=a4
    split at hx
    · rename_i h1
      simp only [Option.map_eq_some_iff] at hx
      obtain ⟨z,hz,rfl⟩:=hx
      obtain ⟨b1,b2,b3⟩:=Dx y.2 a2 z hz
      have h0:z.2=[]:=h0
      have e:Hw (0,(z.1,xi))=l:=by
        show tG z.1=l
        rw [a1,h1]
        rw [h0,List.append_nil] at b1
        exact b1.symm
      rw [e]
      refine ⟨List.Sublist.refl _,?_,.tab b3⟩
      simp only [lm,Dt,hy,Option.bind_some,if_pos h1,hz,Option.map_some,h0,if_true]
    · rename_i h1
      simp only [Option.map_eq_some_iff] at hx
      obtain ⟨z,hz,rfl⟩:=hx
      have h1':y.1=1:=by omega
      obtain ⟨l',c1,c2,b1,b2,b3⟩:=FT y.2 a2 z hz
      have h0:z.2=[]:=h0
      have e:Hw (y.1,(tab0,z.1))=wd (⟨#[118,105,101,119]⟩:ByteArray)::l':=by
        rw [h1']
        show xj z.1=_
        rw [h0,List.append_nil] at b1
        exact b1.symm
      have el:l=wd (⟨#[118,105,101,119]⟩:ByteArray)::y.2:=by rw [a1,h1'];rfl
      rw [e]
      refine ⟨by rw [el];exact c2.cons_cons _,?_,by rw [h1'];exact .view b3⟩
      have o:gH 0 [(⟨#[116,97,98,108,101]⟩:ByteArray),(⟨#[118,105,101,119]⟩:ByteArray)] (wd (⟨#[118,105,101,119]⟩:ByteArray)::l')=some (1,l'):=by
        simp only [gH]
        have:tk (⟨#[116,97,98,108,101]⟩:ByteArray) (wd (⟨#[118,105,101,119]⟩:ByteArray)::l')=none:=rfl
        rw [this,HD]
        rfl
      simp only [lm,Dt,o,Option.bind_some,c1,Option.map_some,h0,if_true,h1']
      rfl
  · cases h
end Dl
end
section
namespace Dl
open Go
theorem Cq : ∀ s : List UInt8,(Lib.index s [39] = -1 ∧ (39 : UInt8) ∉ s) ∨ ∃ a r,s = a ++ 39 :: r ∧ (39 : UInt8) ∉ a ∧ Lib.index s [39] = a.length := by
  intro s
  induction s with
  |nil=>left;exact ⟨rfl,by simp⟩
  |cons c l ih=>
    by_cases h:c=39
    · right
      subst h
      exact ⟨[],l,rfl,by simp,by simp [Lib.index,List.isPrefixOf]⟩
    · have hp:([39]:List UInt8).isPrefixOf (c::l)=false:=by
        simp only [List.isPrefixOf,Bool.and_eq_false_iff]
        left
        simp;exact fun e=>h e.symm
      rcases ih with ⟨h1,h2⟩|⟨a,r,h1,h2,h3⟩
      · left
        refine ⟨?_,?_⟩
        · simp [Lib.index,hp,h1]
        · intro hm
          rcases List.mem_cons.1 hm with e|hm
          · exact h e.symm
          · exact h2 hm
      · right
        refine ⟨c::a,r,by rw [h1];rfl,?_,?_⟩
        · intro hm
          rcases List.mem_cons.1 hm with e|hm
          · exact h e.symm
          · exact h2 hm
        · have hn:¬Lib.index l [39]=-1:=by omega
          simp [Lib.index,hp,hn,h3]
theorem Ji (a b:List UInt8):dbl (a++b)=dbl a++dbl b:=by
 induction a with
 |nil=>rfl
 |cons c a ih=>simp only [List.cons_append,dbl,ih];split<;>simp
theorem Cr {a:List UInt8} (h:(39:UInt8)∉a):dbl a=a:=by
 induction a with
 |nil=>rfl
 |cons c a ih=>
  have hc:¬c=39:=fun e=>h (by simp [e])
  simp only [dbl,if_neg hc]
  rw [ih (fun hm=>h (List.mem_cons_of_mem _ hm))]
theorem ED : ∀ (n : Nat) (s : List UInt8),s.length ≤ n → ∀ f,s.length < f → Lib.replaceK [39] [39,39] (Lib.countFrom [39] f s) s = dbl s ∧ Lib.countFrom [39] f s ≤ s.length := by
  intro n
  induction n with
  |zero=>
    intro s hs f hf
    cases s with
    |cons _ _=>simp at hs
    |nil=>
      cases f with
      |zero=>simp at hf
      |succ f=>
        have:Lib.countFrom [39] (f+1) []=0:=by simp [Lib.countFrom,Lib.index]
        rw [this]
        exact ⟨rfl,Nat.le_refl _⟩
  |succ n ih=>
    intro s hs f hf
    cases f with
    |zero=>omega
    |succ f=>
      rcases Cq s with ⟨h1,h2⟩|⟨a,r,h1,h2,h3⟩
      · have hc:Lib.countFrom [39] (f+1) s=0:=by simp [Lib.countFrom,h1]
        rw [hc]
        exact ⟨by rw [Cr h2];rfl,by omega⟩
      · have hn:¬(Lib.index s [39]==-1)=true:=by rw [beq_iff_eq];omega
        have hd:s.drop ((Lib.index s [39]).toNat+1)=r:=by
          rw [h3,h1]
          simp only [Int.toNat_natCast]
          rw [show a.length+1=(a++ [39]).length by simp,show a++39::r=(a++ [39])++r by simp,List.drop_left]
        have hc:Lib.countFrom [39] (f+1) s=Lib.countFrom [39] f r+1:=by
          rw [Lib.countFrom,if_neg hn]
          rw [show ([39]:List UInt8).length=1 from rfl,hd,Nat.add_comm]
        have hl:s.length=a.length+1+r.length:=by rw [h1];simp;omega
        obtain ⟨i1,i2⟩:=ih r (by omega) f (by omega)
        rw [hc,Lib.replaceK_hit _ _ _ _ _ h3]
        have hd':s.drop (a.length+([39]:List UInt8).length)=r:=by rw [h3] at hd;simpa using hd
        rw [hd',i1]
        have ht:s.take a.length=a:=by rw [h1];simp
        refine ⟨?_,by omega⟩
        rw [ht,h1,Ji,Cr h2]
        simp [dbl]
theorem xn (s:List UInt8):Lib.replaceAll s [39] [39,39]=dbl s:=by
 unfold Lib.replaceAll Lib.replace
 have:(([39]:List UInt8)==[39,39])=false:=by decide
 rw [if_neg (by rw [this];simp)]
 have hn:Lib.replaceNum s [39] (-1)=Lib.count s [39]:=by unfold Lib.replaceNum;rw [if_pos (.inl (by decide))]
 rw [hn]
 exact (ED s.length s (Nat.le_refl _) _ (by omega)).1
theorem HF (s:List UInt8):Lib.count s [39]≤s.length:=(ED s.length s (Nat.le_refl _) _ (by omega)).2
theorem DD (l:List (List UInt8)):Lib.join l [32]=fA l:=by
 induction l with
 |nil=>rfl
 |cons w l ih=>
  cases l with
  |nil=>rw [Lib.join_one];rfl
  |cons v l=>
   rw [gP w (by simp),←ih,Lib.join_cons,Lib.join_cons]
   simp [Lib.joinTail]
def fN (n:Int) (ws:List ByteArray):ByteArray:=if n<0∨(ws.length:Int)≤n then (⟨#[33]⟩:ByteArray) else ws.getD n.toNat e0
def EE:List ByteArray:=[(⟨#[43]⟩:ByteArray),(⟨#[45]⟩:ByteArray),(⟨#[42]⟩:ByteArray),(⟨#[61]⟩:ByteArray),(⟨#[60]⟩:ByteArray),(⟨#[97,110,100]⟩:ByteArray),(⟨#[111,114]⟩:ByteArray),(⟨#[110,111,116]⟩:ByteArray),(⟨#[110,117,108,108,32,63]⟩:ByteArray)]
def uY (v:Val):Bool:=(decide (v.1=2)&&decide (v.2.2=e0))||(decide (v.1=3)&&(decide (v.2.1=0)&&decide (v.2.2.size≤1000)))
def rA (v:Val):ByteArray:=if v=(0,(0,e0)) then (⟨#[110,117,108,108]⟩:ByteArray) else if v=(1,(0,e0)) then (⟨#[102,97,108,115,101]⟩:ByteArray) else if v=(1,(1,e0)) then (⟨#[116,114,117,101]⟩:ByteArray) else if uY v then bs (eQ (1,(e0,v))) else (⟨#[33]⟩:ByteArray)
def mB (x:oT):ByteArray:=if x.1=0 then bs (99::Lib.itoa x.2.1) else if x.1=1 then rA x.2.2 else fN (IntKind.i64.wrap (x.1-2)) EE
def nB (e:List oT):List ByteArray:=(⟨#[91]⟩:ByteArray)::e.map mB++ [(⟨#[93]⟩:ByteArray)]
def jt {α:Type} (f:α→List ByteArray):Bool→List α→List ByteArray
 |_,[]=> []
 |b,x::r=>(if b then [(⟨#[44]⟩:ByteArray)] else [])++f x++jt f true r
def nC (c:Col):List ByteArray:=[c.1,fN (IntKind.i64.wrap (c.2.1-1)) kinds]++((if c.2.2.1 then [(⟨#[110,117,108,108]⟩:ByteArray)] else [])++((if c.2.2.2.1 then [(⟨#[117,110,105,113,117,101]⟩:ByteArray)] else [])++(if c.2.2.2.2.1=e0 then [] else [(⟨#[114,101,102]⟩:ByteArray),c.2.2.2.2.1,fN c.2.2.2.2.2 yj])))
def p4 (e:List oT):List ByteArray:=(⟨#[99,104,101,99,107]⟩:ByteArray)::nB e
def rD (t:Tab):List ByteArray:=[(⟨#[116,97,98,108,101]⟩:ByteArray),t.1,(⟨#[40]⟩:ByteArray)]++jt nC false t.2.1++ [(⟨#[41]⟩:ByteArray)]++t.2.2.flatMap p4
def kf (n:Int):List ByteArray:=[bs (Lib.itoa n)]
def oU (a:Agg):List ByteArray:=fN a.1 fns::(if a.1=0 then [] else [bs (Lib.itoa a.2)])
def xo (v:mI):List ByteArray:=[(⟨#[118,105,101,119]⟩:ByteArray),v.1,(⟨#[102,114,111,109]⟩:ByteArray),v.2.1]++(if v.2.2.1=e0 then [] else [(⟨#[106,111,105,110]⟩:ByteArray),v.2.2.1,(⟨#[111,110]⟩:ByteArray),bs (Lib.itoa v.2.2.2.1.1),(⟨#[61]⟩:ByteArray),bs (Lib.itoa v.2.2.2.1.2)])++
 (if v.2.2.2.2.1=[] then [] else (⟨#[119,104,101,114,101]⟩:ByteArray)::nB v.2.2.2.2.1)++ [(⟨#[112,105,99,107]⟩:ByteArray)]++jt kf false v.2.2.2.2.2.1++(if v.2.2.2.2.2.2.1 then [(⟨#[103,114,111,117,112]⟩:ByteArray)] else [])++jt oU false v.2.2.2.2.2.2.2
def Cs (d:Def):List ByteArray:=if d.1=0 then rD d.2.1 else xo d.2.2
def nD (d:Def):List UInt8:=fA ((Cs d).map fun w=>w.data.toList)
open Classical in
noncomputable def fo (d:Def):List UInt8:=if 20000<(nD d).length then [] else if ke (nD d)=(d,0) then nD d else []
def Sep (a:List ByteArray) (b:List Tok):Prop:=∀(p q:List (List UInt8)),fA (p++a.map (fun w=>w.data.toList)++q)=fA (p++b.map eQ++q)
theorem Sep.of {a:List ByteArray} {b:List Tok} (h:a.map (fun w=>w.data.toList)=b.map eQ):Sep a b:=fun p q=>by rw [h]
theorem Sep.app {a a':List ByteArray} {b b':List Tok} (h:Sep a b) (h':Sep a' b'):Sep (a++a') (b++b'):=fun p q=>by
 rw [List.map_append,List.map_append]
 have e1:=h p (a'.map (fun w=>w.data.toList)++q)
 have e2:=h' (p++b.map eQ) q
 simp only [List.append_assoc] at e1 e2 ⊢
 rw [e1,e2]
theorem Sep.cons {w:ByteArray} {t:Tok} (h:w.data.toList=eQ t) {a':List ByteArray} {b':List Tok} (h':Sep a' b'):Sep (w::a') (t::b'):=Sep.app (a:=[w]) (b:=[t]) (.of (by simp [h])) h'
theorem Sep.nil:Sep [] []:=.of rfl
theorem Sep.join {a:List ByteArray} {b:List Tok} (h:Sep a b):fA (a.map fun w=>w.data.toList)=fA (b.map eQ):=by
 have:=h [] []
 simpa using this
theorem Ct (p q:List (List UInt8)) (u v:List UInt8):fA (p++ [u++32::v]++q)=fA (p++ [u,v]++q):=by
 induction p with
 |nil=>
  cases q with
  |nil=>simp [fA]
  |cons w q=>
   have h1:fA ([]++ [u++32::v]++w::q)=(u++32::v)++32::fA (w::q):=gP _ (by simp)
   have h2:fA ([]++ [u,v]++w::q)=u++32::fA (v::w::q):=gP _ (by simp)
   rw [h1,h2,gP v (by simp)]
   simp
 |cons a p ih=>
  have e1:(a::p)++ [u++32::v]++q=a::(p++ [u++32::v]++q):=rfl
  have e2:(a::p)++ [u,v]++q=a::(p++ [u,v]++q):=rfl
  rw [e1,e2,gP a (by simp),gP a (by simp),ih]
theorem DE {i:Int} (h1:-100≤i) (h2:i≤100):IntKind.i64.wrap i=i:=by rw [IntKind.wrap_i64];omega
theorem FU {v:Val} (h:i7 (1,(e0,v))):uY v=true:=by
 generalize ht:((1,(e0,v)):Tok)=t at h
 cases h with
 |word _=>cases ht
 |sign _=>cases ht
 |num _ _=>cases ht;simp [uY]
 |@text w hw=>cases ht;simp [uY];show w.toArray.size≤1000;simpa using hw
theorem HG {x:oT} (h:xl x):Sep [mB x] (nA x):=by
 obtain ⟨op,n,v⟩:=x
 rcases h with ⟨h1,h2⟩|⟨h1,h2,h3,h4⟩|⟨h1,h2,h3⟩|⟨h1,h2,h3⟩
 ·have h1:op=10:=h1
  have h2:(n,v)=(0,v0):=h2
  cases h2
  subst h1
  intro p q
  exact Ct p q ([110,117,108,108]:List UInt8) ([63]:List UInt8)
 ·have h1:op=0:=h1
  subst h1
  exact .of rfl
 ·have h1:op=1:=h1
  have h2:n=0:=h2
  have h3:Hy v:=h3
  subst h1;subst h2
  by_cases g1:v=(0,(0,e0))
  ·subst g1;exact .of rfl
  by_cases g2:v=(1,(0,e0))
  ·subst g2;exact .of rfl
  by_cases g3:v=(1,(1,e0))
  ·subst g3;exact .of rfl
  rcases h3 with h3|h3|h3|h3
  ·exact absurd h3 g1
  ·exact absurd h3 g2
  ·exact absurd h3 g3
  have e1:mB (1,(0,v))=bs (eQ (1,(e0,v))):=by
   show rA v=_
   unfold rA
   rw [if_neg g1,if_neg g2,if_neg g3,if_pos (FU h3)]
  have e2:nA (1,(0,v))=[(1,(e0,v))]:=by
   simp only [nA,if_neg g1,if_neg g2,if_neg g3]
   rfl
  rw [e1,e2]
  exact .of rfl
 ·have h1:2≤op:=h1
  have h2:op≤9:=h2
  have h3:(n,v)=(0,v0):=h3
  cases h3
  have:op=2∨op=3∨op=4∨op=5∨op=6∨op=7∨op=8∨op=9:=by omega
  rcases this with rfl|rfl|rfl|rfl|rfl|rfl|rfl|rfl<;>exact .of rfl
theorem FV:∀(e:List oT),(∀x∈e,xl x)→Sep (e.map mB) (e.flatMap nA):=by
 intro e
 induction e with
 |nil=>intro _;exact Sep.nil
 |cons x e ih=>
  intro h
  rw [List.flatMap_cons]
  exact Sep.app (a:=[mB x]) (HG (h x (by simp))) (ih fun y hy=>h y (List.mem_cons_of_mem _ hy))
theorem Cu {e:List oT} (h:p3 e):Sep (nB e) (rg e):=.cons rfl (.app (FV e h.1) (.cons rfl .nil))
theorem AO {α : Type} {f : α → List ByteArray} {g : α → List Tok} : ∀ (l : List α),(∀ x ∈ l,Sep (f x) (g x)) → Sep (jt f false l) (pZ g l) := by
  have go:∀(l:List α),l≠ []→(∀x∈l,Sep (f x) (g x))→Sep (jt f true l) (sg (⟨#[44]⟩:ByteArray)::pZ g l):=by
    intro l
    induction l with
    |nil=>intro h;exact absurd rfl h
    |cons x l ih=>
      intro _ h
      cases l with
      |nil=>
        have:jt f true [x]=(⟨#[44]⟩:ByteArray)::(f x++ []):=rfl
        rw [this,List.append_nil]
        exact .cons rfl (h x (by simp))
      |cons y l=>
        have e1:jt f true (x::y::l)=(⟨#[44]⟩:ByteArray)::(f x++jt f true (y::l)):=rfl
        have e2:pZ g (x::y::l)=g x++sg (⟨#[44]⟩:ByteArray)::pZ g (y::l):=rfl
        rw [e1,e2]
        exact .cons rfl (.app (h x (by simp)) (ih (by simp) fun z hz=>h z (List.mem_cons_of_mem _ hz)))
  intro l h
  cases l with
  |nil=>exact .nil
  |cons x l=>
    cases l with
    |nil=>
      have:jt f false [x]=[]++f x++ []:=rfl
      rw [this,List.append_nil,List.nil_append]
      exact h x (by simp)
    |cons y l=>
      have e1:jt f false (x::y::l)=[]++f x++jt f true (y::l):=rfl
      have e2:pZ g (x::y::l)=g x++sg (⟨#[44]⟩:ByteArray)::pZ g (y::l):=rfl
      rw [e1,e2,List.nil_append]
      exact .app (h x (by simp)) (go (y::l) (by simp) fun z hz=>h z (List.mem_cons_of_mem _ hz))
theorem rF {n:Int} {ws:List ByteArray} (h1:0≤n) (h2:n<ws.length):fN n ws=ws.getD n.toNat e0:=by
 unfold fN
 rw [if_neg (by omega)]
theorem Jj {c:Col} (h:HB c):Sep (nC c) (qp c):=by
 obtain ⟨h1,h2,h3,h4⟩:=h
 unfold nC qp
 rw [DE (by omega) (by omega),rF (by omega) (by show c.2.1-1<3;omega)]
 simp only [List.cons_append,List.nil_append]
 refine .cons rfl (.cons rfl (.app (b:=if c.2.2.1 then [wd (⟨#[110,117,108,108]⟩:ByteArray)] else []) ?_ (.app (b:=if c.2.2.2.1 then [wd (⟨#[117,110,105,113,117,101]⟩:ByteArray)] else []) ?_ ?_)))
 ·split
  ·exact .of rfl
  ·exact .nil
 ·split
  ·exact .of rfl
  ·exact .nil
 ·rcases h4 with ⟨h4,h5⟩|⟨h4,h5,h6⟩
  ·rw [if_pos h4,if_pos h4];exact .nil
  ·rw [if_neg (sV h4),if_neg (sV h4),rF h5 (by show c.2.2.2.2.2<3;omega)]
   exact .of rfl
theorem DF:∀(l:List (List oT)),(∀e∈l,p3 e)→Sep (l.flatMap p4) (l.flatMap fun e=>wd (⟨#[99,104,101,99,107]⟩:ByteArray)::rg e):=by
 intro l
 induction l with
 |nil=>intro _;exact .nil
 |cons e l ih=>
  intro h
  rw [List.flatMap_cons,List.flatMap_cons]
  exact .app (.cons rfl (Cu (h e (by simp)))) (ih fun y hy=>h y (List.mem_cons_of_mem _ hy))
theorem FW {t:Tab} (h:eH t):Sep (rD t) (tG t):=by
 unfold rD tG
 simp only [List.cons_append,List.nil_append,List.append_assoc]
 exact .cons rfl (.cons rfl (.cons rfl (.app (AO (f:=nC) (g:=qp) t.2.1 fun c hc=>Jj (h.cols c hc)) (.cons rfl (DF _ h.checks)))))
theorem HH (n:Int):Sep (kf n) (Du n):=.of rfl
theorem Jk {a:Agg} (h:Cn a):Sep (oU a) (Dv a):=by
 obtain ⟨h1,h2,_⟩:=h
 unfold oU Dv
 rw [rF h1 (by show a.1<4;omega)]
 refine .cons rfl ?_
 split
 ·exact .nil
 ·exact .of rfl
theorem HI {v:mI} (h:tI v):Sep (xo v) (xj v):=by
 unfold xo xj
 simp only [List.cons_append,List.nil_append,List.append_assoc]
 refine .cons rfl (.cons rfl (.cons rfl (.cons rfl (.app (b:=if v.2.2.1=e0 then [] else wd (⟨#[106,111,105,110]⟩:ByteArray)::wd v.2.2.1::wd (⟨#[111,110]⟩:ByteArray)::numT v.2.2.2.1.1::sg (⟨#[61]⟩:ByteArray)::[numT v.2.2.2.1.2]) ?_ (.app (b:=if v.2.2.2.2.1=[] then [] else wd (⟨#[119,104,101,114,101]⟩:ByteArray)::rg v.2.2.2.2.1) ?_
  (.cons rfl (.app (AO (f:=kf) (g:=Du) v.2.2.2.2.2.1 fun n _=>HH n) (.app (b:=if v.2.2.2.2.2.2.1 then [wd (⟨#[103,114,111,117,112]⟩:ByteArray)] else []) ?_ (AO (f:=oU) (g:=Dv) v.2.2.2.2.2.2.2 fun a ha=>Jk (h.aggs a ha))))))))))
 ·split
  ·exact .nil
  ·exact .of rfl
 ·split
  ·exact .nil
  ·exact .cons rfl (Cu h.whr)
 ·split
  ·exact .of rfl
  ·exact .nil
theorem HJ {d:Def} (h:mA d):nD d=fA ((Hw d).map eQ):=by
 cases h with
 |tab h=>exact (FW h).join
 |view h=>exact (HI h).join
end Dl
end
section
namespace Go.Proofs.Ytleadolkcmagfaa
open Go Lv Go.Proofs Go.RowKit Go.Shelf Dl
abbrev lst (s:ByteArray) (i:Nat):List UInt8:=s.data.toList.drop i
theorem eO (s:ByteArray) (i:Nat):(lst s i).length=s.size-i:=by
 show (List.drop i s.data.toList).length=_
 rw [List.length_drop];rfl
theorem Jl {s:ByteArray} {i:Nat} (h:lst s i=[]):s.size≤i:=by
 have:=eO s i
 rw [h] at this;simp at this;omega
theorem eu {s:ByteArray} {i:Nat} {c:UInt8} {r:List UInt8} (h:lst s i=c::r):i<s.size∧lst s (i+1)=r∧eK s i=(c.toNat:Int):=by
 have hl:=eO s i
 rw [h] at hl
 simp at hl
 refine ⟨by omega,?_,?_⟩
 ·show List.drop (i+1) s.data.toList=r
  have:List.drop 1 (List.drop i s.data.toList)=r:=by rw [show List.drop i s.data.toList=c::r from h];rfl
  rw [List.drop_drop] at this
  exact this
 ·unfold eK
  rw [List.getD_eq_getElem?_getD]
  have:(List.drop i s.data.toList)[0]?=some c:=by rw [show List.drop i s.data.toList=c::r from h];rfl
  rw [List.getElem?_drop] at this
  rw [show i+0=i from rfl] at this
  rw [this];rfl
theorem mK {s:ByteArray} {i:Nat} (h:i<s.size):∃c r,lst s i=c::r:=by
 have hl:=eO s i
 cases e:lst s i with
 |nil=>rw [e] at hl;simp at hl;omega
 |cons c r=>exact ⟨c,r,rfl⟩
theorem oj (s:ByteArray) (i j:Nat) (hij:i≤j):s.extract i j=bs ((lst s i).take (j-i)):=by
 apply Go.WideShapes.bytes_inj
 rw [ByteArray.data_extract]
 simp [lst,List.extract_eq_take_drop]
def cls (c:UInt8):Int:=if fm c then 1 else if digit c then 2 else if c=95 then 3 else if c=39 then 4 else if c=32 then 5 else 0
theorem kz (c:UInt8) (n:Nat) (hn:n<256):((c.toNat:Int)==(n:Int))=decide (c=UInt8.ofNat n):=by
 by_cases h:c=UInt8.ofNat n
 ·subst h;simp;omega
 ·have:¬(c.toNat:Int)=(n:Int):=fun e=>h (by
   apply UInt8.toNat_inj.1
   simp;omega)
  rw [beq_eq_false_iff_ne.2 this];simp [h]
theorem HK (c:UInt8):ep.F ((c.toNat:Int),())=some (cls c,()):=by
 rw [ep.eq]
 unfold ep.B cls fm digit
 have e1:((c.toNat:Int)==(95:Int))=decide (c=95):=kz c 95 (by decide)
 have e2:((c.toNat:Int)==(39:Int))=decide (c=39):=kz c 39 (by decide)
 have e3:((c.toNat:Int)==(32:Int))=decide (c=32):=kz c 32 (by decide)
 have i1:((c.toNat:Int)≥(97:Int))↔97≤c.toNat:=by omega
 have i2:((c.toNat:Int)≤(122:Int))↔c.toNat≤122:=by omega
 have i3:((c.toNat:Int)≥(48:Int))↔48≤c.toNat:=by omega
 have i4:((c.toNat:Int)≤(57:Int))↔c.toNat≤57:=by omega
 simp only [e1,e2,e3,i1,i2,i3,i4]
 clear i1 i2 i3 i4 e1 e2 e3
 by_cases h1:97≤c.toNat<;>by_cases h2:c.toNat≤122<;>by_cases h3:48≤c.toNat<;>by_cases h4:c.toNat≤57<;>simp [h1,h2,h3,h4,Hq]<;>(repeat' split)<;>rfl
theorem FX {R:Type} (y:Int) (fin:Bool→R):∀(ks:List Int) (b:Bool),iP (fun (k:Int) (b:Bool)=>Sum.inl (b||k==y)) fin ks b=fin (b||ks.any (· ==y)):=by
 intro ks
 induction ks with
 |nil=>intro b;simp [iP]
 |cons k ks ih=>intro b;simp only [iP,ih,List.any_cons,Bool.or_assoc]
abbrev inK (ks:List Int) (c:UInt8):Bool:=ks.any (· ==cls c)
theorem jo {p:UInt8→Bool} (l:List UInt8):l.dropWhile p=l.drop (l.takeWhile p).length:=by
 induction l with
 |nil=>rfl
 |cons a l ih=>simp only [List.takeWhile,List.dropWhile];split<;>simp [*]
theorem jp {p:UInt8→Bool} (l:List UInt8):l.takeWhile p=l.take (l.takeWhile p).length:=by
 induction l with
 |nil=>rfl
 |cons a l ih=>simp only [List.takeWhile];split<;>simp [←ih]
theorem KJ (ks:List Int) (hk:ks.length<1000) (y:Int) {R Q:Type} (K:((Bool×Unit)⊕R)→Option Q):Option.bind (bE (S:=Bool×Int×Unit) (fun (x7',x36',_)=>
 (bif (decide (x36'<(ks.length:Int))) then
 bif (decide (0≤x36')&&decide (x36'<(ks.length:Int))) then
 let e3:Int:=(List.getD ks (Int.toNat x36') (0:Int))
 (bif x7' then
 let e4:Int:=(IntKind.i64.wrap (x36'+(1:Int)))
 some (.inl (true,e4,()))
 else
 let e5:Int:=(IntKind.i64.wrap (x36'+(1:Int)))
 some (.inl ((e3==y),e5,())))
 else none
 else
 some (.inr (.inl (x7',()))))) (false,(0:Int),()):Option ((Bool×Unit)⊕R)) K=K (.inl (ks.any (· ==y),())):=by
 rw [sQ (mk:=fun (i:Int) (b:Bool)=>(b,i,())) (l:=ks) (I:=fun _ _=>True) (step:=fun k b=> .inl (b||k==y)) (fin:=fun b=> .inl (b,()))
  (fun i hi b _=>⟨?_,fun _ _=>trivial⟩) (fun b _=>?_) false trivial,FX]
 ·simp
 ·have d1:decide ((i:Int)<(ks.length:Int))=true:=by simp;omega
  have d0:decide (0≤(i:Int))=true:=by simp
  simp only [d1,d0,Bool.and_self,cond_true,Int.toNat_natCast,bU hi,cw hi (by omega)]
  cases b<;>simp
 ·have d1:decide ((ks.length:Int)<(ks.length:Int))=false:=by simp
  simp only [d1,cond_false]
theorem zO (ks : List Int) (hk : ks.length < 1000) (s : ByteArray) (hs : s.size ≤ 100000000) (i : Nat) (hi : i ≤ s.size) :
    ∃j:Nat,i≤j∧j≤s.size∧lst s j=(lst s i).dropWhile (inK ks)∧be.F (ks,s,(i:Int),())=some (bs ((lst s i).takeWhile (inK ks)),s,(j:Int),()):=by
  have hj:i+((lst s i).takeWhile (inK ks)).length≤s.size:=by
    have h1:=jl (p:=inK ks) (lst s i)
    have h2:=eO s i
    omega
  refine ⟨i+((lst s i).takeWhile (inK ks)).length,by omega,hj,?_,?_⟩
  · show List.drop _ _=_
    rw [jo,←List.drop_drop]
  rw [be.eq]
  unfold be.B
  simp only []
  rw [fb (m:=fun x=>s.size-x.2.1.toNat) (I:=fun x=>x.1=s∧∃k:Nat,x.2.1=(k:Int)∧k≤s.size) (f:=fun x=> .inl (x.1,((x.2.1.toNat+((lst s x.2.1.toNat).takeWhile (inK ks)).length:Nat):Int),())) ?_ _ ⟨rfl,i,rfl,hi⟩]
  · simp only [Option.bind_some,Int.toNat_natCast]
    have c1:decide (0≤(i:Int))=true:=by simp
    have c2:decide ((i:Int)≤((i+((lst s i).takeWhile (inK ks)).length:Nat):Int))=true:=by simp;omega
    have c3:decide (((i+((lst s i).takeWhile (inK ks)).length:Nat):Int)≤(s.size:Int))=true:=by simp only [decide_eq_true_eq];omega
    rw [c1,c2,c3]
    simp only [Bool.and_self,cond_true,Int.toNat_natCast]
    rw [oj s i _ (by omega),show i+((lst s i).takeWhile (inK ks)).length-i=((lst s i).takeWhile (inK ks)).length by omega,←jp]
  · rintro ⟨a,b,⟨⟩⟩ ⟨ha,k,hk',hle⟩
    simp only at ha hk' hle
    subst ha
    subst hk'
    simp only [Int.toNat_natCast]
    by_cases hlt:k<a.size
    · obtain ⟨c,r,e⟩:=mK hlt
      obtain ⟨_,e1,e2⟩:=eu e
      have d1:decide ((k:Int)<(a.size:Int))=true:=by simp;omega
      have d0:decide (0≤(k:Int))=true:=by simp
      simp only [d1,d0,Bool.and_self,cond_true,e2,HK,Option.bind_some,KJ ks hk,cw hlt (by omega)]
      by_cases hb:inK ks c=true
      · left
        have hb':(ks.any fun x=>x==cls c)=true:=hb
        simp only [hb',Bool.not_true,cond_false]
        refine ⟨_,rfl,⟨rfl,k+1,rfl,by omega⟩,by simp only [Int.toNat_natCast];omega,?_⟩
        simp only [Int.toNat_natCast]
        rw [e1,e]
        simp only [List.takeWhile_cons,hb,if_true,List.length_cons]
        congr 4
        omega
      · right
        have hb':(ks.any fun x=>x==cls c)=false:=by cases h:(ks.any fun x=>x==cls c) with|false=>rfl|true=>exact absurd h hb
        simp only [hb',Bool.not_false,cond_true]
        rw [e]
        simp only [List.takeWhile_cons,hb',Bool.false_eq_true,if_false,List.length_nil,Nat.add_zero]
    · right
      have:lst a k=[]:=by
        have:=eO a k
        exact List.length_eq_zero_iff.1 (by omega)
      have hd:decide ((k:Int)<(a.size:Int))=false:=by simp;omega
      simp only [this,hd,cond_false,List.takeWhile_nil,List.length_nil,Nat.add_zero]
theorem xp (c:UInt8):inK [1,2,3] c=cE c:=by
 simp only [inK,List.any_cons,List.any_nil,cls,cE]
 by_cases h3:c=95
 ·subst h3;decide
 ·cases h1:fm c<;>cases h2:digit c<;>simp [h1,h2,h3]<;>(repeat' split)<;>simp
theorem nE (c:UInt8):inK [2] c=digit c:=by
 simp only [inK,List.any_cons,List.any_nil,cls]
 by_cases h1:fm c=true
 ·have:digit c=false:=by
   simp only [fm,digit,Bool.and_eq_true,decide_eq_true_eq,Bool.and_eq_false_iff,decide_eq_false_iff_not] at h1 ⊢;omega
  simp [h1,this]
 ·by_cases h2:digit c=true<;>simp [h1,h2]<;>(repeat' split)<;>simp
theorem zP (c:UInt8):inK [5] c=decide (c=32):=by
 simp only [inK,List.any_cons,List.any_nil,cls]
 by_cases h:c=32
 ·subst h;decide
 ·simp only [h,decide_false,if_false]
  (repeat' split)<;>simp
def hd8:List UInt8→Int
 | []=>0
 |c::_=>(c.toNat:Int)
theorem p5 (k:Nat) (s:ByteArray) (hs:s.size≤100000000) (i:Nat) (hk:i+k<9223372036854775808):
 aI.F ((k:Int),s,(i:Int),())=some (hd8 (lst s (i+k)),s,(i:Int),()):=by
 rw [aI.eq]
 unfold aI.B
 have e:IntKind.i64.wrap ((i:Int)+(k:Int))=((i+k:Nat):Int):=by rw [dl]<;>omega
 simp only [e]
 by_cases h:i+k<s.size
 ·obtain ⟨c,r,hc⟩:=mK h
  obtain ⟨_,e1,e2⟩:=eu hc
  have d1:decide (((i+k:Nat):Int)≥(s.size:Int))=false:=by simp;omega
  have d2:decide (0≤((i+k:Nat):Int))=true:=by simp;omega
  have d3:decide (((i+k:Nat):Int)<(s.size:Int))=true:=by simp;omega
  simp only [d1,d2,d3,cond_false,Bool.and_self,cond_true,Int.toNat_natCast,e2,hc,hd8]
 ·have:lst s (i+k)=[]:=by
   have:=eO s (i+k)
   exact List.length_eq_zero_iff.1 (by omega)
  have d1:decide (((i+k:Nat):Int)≥(s.size:Int))=true:=by simp;omega
  simp only [d1,cond_true,this,hd8]
theorem iW {p q:UInt8→Bool} (h:∀c,p c=q c) (l:List UInt8):l.takeWhile p=l.takeWhile q:=by rw [show p=q from funext h]
theorem gW {p q:UInt8→Bool} (h:∀c,p c=q c) (l:List UInt8):l.dropWhile p=l.dropWhile q:=by rw [show p=q from funext h]
theorem KK (s:ByteArray) (hs:s.size≤100000000) (i:Nat) (hi:i≤s.size):
 ∃j:Nat,i≤j∧j≤s.size∧lst s j=(lst s i).dropWhile cE∧bo.F (s,(i:Int),())=some (0,bs ((lst s i).takeWhile cE),0,0,e0,decide (((lst s i).takeWhile cE).length≤30),s,(j:Int),()):=by
 obtain ⟨j,h1,h2,h3,h4⟩:=zO [1,2,3] (by decide) s hs i hi
 rw [gW xp] at h3
 rw [iW xp] at h4
 refine ⟨j,h1,h2,h3,?_⟩
 rw [bo.eq]
 unfold bo.B
 simp only [h4,Option.bind_some]
 have:decide (((bs ((lst s i).takeWhile cE)).size:Int)≤(30:Int))=decide (((lst s i).takeWhile cE).length≤30):=by
  have:(bs ((lst s i).takeWhile cE)).size=((lst s i).takeWhile cE).length:=by simp [bs,ByteArray.size]
  rw [this]
  simp
  omega
 rw [this]
theorem cQ (l:List UInt8):(bs l).size=l.length:=by simp [bs,ByteArray.size]
theorem jE (a b:List UInt8):bs a++bs b=bs (a++b):=by
 apply Go.WideShapes.bytes_inj
 simp [bs]
theorem rG (a b:List UInt8):((bs a).toList==(bs b).toList)=decide (a=b):=by
 rw [dY]
 by_cases h:a=b
 ·subst h;simp
 ·have:bs a≠bs b:=fun e=>h (by have:=congrArg (fun x:ByteArray=>x.data.toList) e;simpa using this)
  simp [h,this]
theorem xq {w : List UInt8} {v : Int} (h : Lib.atoiAll w = .ok v) : -9223372036854775808 ≤ v ∧ v ≤ 9223372036854775807 := by
  unfold Lib.atoiAll at h
  split at h
  · cases h
  · simp only at h
    split at h
    · cases h
    · cases h
    · split at h
      · cases h
      · split at h
        · cases h
        · cases h
          split<;>omega
theorem AP {Q:Type} (w:List UInt8) (hw:w.length≤100000001) (K:TS bV.so→Option Q):Option.bind (bV.F (bs w,())) K=K ((iE (bs w)).1,(iE (bs w)).2,()):=by
 have ha:bV.F (bs w,())=some ((iE (bs w)).1,(iE (bs w)).2,()):=by
  rw [bV.eq]
  show zM (bs w,())=_
  unfold zM
  simp only
  rw [if_pos (by rw [cQ];omega)]
 rw [ha];rfl
theorem AQ {Q:Type} (v:Int) (h1:-9223372036854775808≤v) (h2:v≤9223372036854775807) (K:TS strconv_Itoa.so→Option Q):Option.bind (strconv_Itoa.F (v,())) K=K (bs (Lib.itoa v),()):=by
 have ha:strconv_Itoa.F (v,())=some (bs (Lib.itoa v),()):=by
  rw [strconv_Itoa.eq]
  show EC (v,())=_
  unfold EC
  simp only
  rw [if_pos ⟨h1,h2⟩]
  rfl
 rw [ha];rfl
theorem HL (s : ByteArray) (hs : s.size ≤ 100000000) (i : Nat) {c : UInt8} {r : List UInt8} (hc : lst s i = c :: r) (hd : digit c = true ∨ (c = 45 ∧ gC r = true)) :
    ∃ j : Nat,i < j ∧ j ≤ s.size ∧ lst s j = r.dropWhile digit ∧ match pY (c :: r.takeWhile digit) with
      |some n=>aQ.F (s,(i:Int),())=some (1,e0,2,n,e0,true,s,(j:Int),())
      |none=>∃n,aQ.F (s,(i:Int),())=some (1,e0,2,n,e0,false,s,(j:Int),()):=by
  obtain ⟨hi,h1,_⟩:=eu hc
  have hp:=p5 0 s hs i (by omega)
  rw [show i+0=i from rfl,hc] at hp
  rw [aQ.eq]
  unfold aQ.B
  have hp':aI.F ((0:Int),s,(i:Int),())=some ((c.toNat:Int),s,(i:Int),()):=hp
  simp only [hp',Option.bind_some]
  have key:∀(w:List UInt8) (hw:w.length≤100000001) (j:Nat),Option.bind (bV.F (bs w,())) (fun y6=>
      (bif y6.2.1 then Option.bind (strconv_Itoa.F (y6.1,())) fun y7=>
        some ((1:Int),(⟨#[]⟩:ByteArray),(2:Int),y6.1,(⟨#[]⟩:ByteArray),(y7.1.toList==(bs w).toList),s,(j:Int),())
      else some ((1:Int),(⟨#[]⟩:ByteArray),(2:Int),y6.1,(⟨#[]⟩:ByteArray),false,s,(j:Int),())))=match pY w with
      |some n=>some (1,e0,2,n,e0,true,s,(j:Int),())
      |none=>some (1,e0,2,(iE (bs w)).1,e0,false,s,(j:Int),()):=by
    intro w hw j
    rw [AP w hw]
    show (bif (iE (bs w)).2 then Option.bind (strconv_Itoa.F ((iE (bs w)).1,())) fun y7=>some ((1:Int),(⟨#[]⟩:ByteArray),(2:Int),(iE (bs w)).1,(⟨#[]⟩:ByteArray),(y7.1.toList==(bs w).toList),s,(j:Int),())
      else some ((1:Int),(⟨#[]⟩:ByteArray),(2:Int),(iE (bs w)).1,(⟨#[]⟩:ByteArray),false,s,(j:Int),()))=_
    unfold iE pY
    simp only [jJ]
    cases h:Lib.atoiAll w with
    |ok v=>
      obtain ⟨b1,b2⟩:=xq h
      simp only [cond_true]
      rw [AQ v b1 b2]
      show some ((1:Int),(⟨#[]⟩:ByteArray),(2:Int),v,(⟨#[]⟩:ByteArray),((bs (Lib.itoa v)).toList==(bs w).toList),s,(j:Int),())=_
      rw [rG]
      by_cases hc:Lib.itoa v=w<;>simp [hc]
    |_=>simp
  have fin:∀(w:List UInt8) (hw:w.length≤100000001) (j:Nat),match pY w with
      |some n=>Option.bind (bV.F (bs w,())) (fun y6=>
      (bif y6.2.1 then Option.bind (strconv_Itoa.F (y6.1,())) fun y7=>
        some ((1:Int),(⟨#[]⟩:ByteArray),(2:Int),y6.1,(⟨#[]⟩:ByteArray),(y7.1.toList==(bs w).toList),s,(j:Int),())
      else some ((1:Int),(⟨#[]⟩:ByteArray),(2:Int),y6.1,(⟨#[]⟩:ByteArray),false,s,(j:Int),())))=some (1,e0,2,n,e0,true,s,(j:Int),())
      |none=>∃n,Option.bind (bV.F (bs w,())) (fun y6=>
      (bif y6.2.1 then Option.bind (strconv_Itoa.F (y6.1,())) fun y7=>
        some ((1:Int),(⟨#[]⟩:ByteArray),(2:Int),y6.1,(⟨#[]⟩:ByteArray),(y7.1.toList==(bs w).toList),s,(j:Int),())
      else some ((1:Int),(⟨#[]⟩:ByteArray),(2:Int),y6.1,(⟨#[]⟩:ByteArray),false,s,(j:Int),())))=some (1,e0,2,n,e0,false,s,(j:Int),()):=by
    intro w hw j
    have:=key w hw j
    cases h:pY w with
    |none=>rw [h] at this;exact ⟨_,this⟩
    |some n=>rw [h] at this;exact this
  have hl:=eO s i
  rw [hc] at hl
  simp only [List.length_cons] at hl
  have ht:=jl (p:=digit) r
  by_cases h45:c=45
  · subst h45
    have e1:(((45:UInt8).toNat:Int)==(45:Int))=true:=by decide
    have e2:IntKind.i64.wrap ((i:Int)+(1:Int))=((i+1:Nat):Int):=cw hi (by omega)
    obtain ⟨j,g1,g2,g3,g4⟩:=zO [2] (by decide) s hs (i+1) (by omega)
    rw [h1] at g3 g4
    rw [gW nE] at g3
    rw [iW nE] at g4
    refine ⟨j,by omega,g2,g3,?_⟩
    simp only [e1,cond_true,e2,Option.bind_some,g4]
    have e3:(!decide (((((⟨#[45]⟩:ByteArray).size+(bs (r.takeWhile digit)).size:Nat)):Int)>IntKind.i64.max))=true:=by
      rw [cQ,cQ]
      have:IntKind.i64.max=9223372036854775807:=by decide
      rw [this]
      simp
      omega
    simp only [e3,cond_true]
    rw [show (⟨#[45]⟩:ByteArray)=bs [45] from rfl,jE]
    exact fin (45::r.takeWhile digit) (by simp;omega) j
  · have hd':digit c=true:=by rcases hd with hd|hd;exact hd;exact absurd hd.1 h45
    have e1:((c.toNat:Int)==(45:Int))=false:=by
      have:=kz c 45 (by decide)
      have h':((c.toNat:Int)==(45:Int))=decide (c=45):=this
      rw [h'];simp [h45]
    obtain ⟨j,g1,g2,g3,g4⟩:=zO [2] (by decide) s hs i (by omega)
    rw [hc] at g3 g4
    rw [gW nE,List.dropWhile_cons,if_pos hd'] at g3
    rw [iW nE,List.takeWhile_cons,if_pos hd'] at g4
    have hj:i<j:=by
      have a1:=eO s j
      rw [g3] at a1
      have:=jI (p:=digit) r
      omega
    refine ⟨j,hj,g2,g3,?_⟩
    simp only [e1,cond_false,Option.bind_some,g4]
    have e3:(!decide (((((⟨#[]⟩:ByteArray).size+(bs (c::r.takeWhile digit)).size:Nat)):Int)>IntKind.i64.max))=true:=by
      rw [cQ,cQ]
      have:IntKind.i64.max=9223372036854775807:=by decide
      rw [this]
      simp
      omega
    simp only [e3,cond_true]
    rw [show (⟨#[]⟩:ByteArray)=bs [] from rfl,jE]
    exact fin (c::r.takeWhile digit) (by simp;omega) j
abbrev i8 (l:List UInt8):List Int:=l.map fun c=>(c.toNat:Int)
theorem Jm {R Q : Type} {body : ByteArray × Int × (List Int) × Unit → Option ((ByteArray × Int × (List Int) × Unit) ⊕ R)} {K : R → Option Q} (s : ByteArray) (resT : List UInt8 → Nat → R) (resN : List Int → R) (q : Option Q)
    (hK:∀acc,K (resN acc)=q)
    (h0:∀acc,body (s,(s.size:Int),acc,())=some (.inr (resN acc)))
    (h1:∀k acc r,lst s k=39::39::r→acc.length≤k→body (s,(k:Int),i8 acc,())=some (.inl (s,((k+2:Nat):Int),i8 (acc++ [39]),())))
    (h2:∀k acc r,lst s k=39::r→r.head?≠some 39→body (s,(k:Int),i8 acc,())=some (.inr (resT acc (k+1))))
    (h3:∀k acc c r,lst s k=c::r→c≠39→acc.length≤k→body (s,(k:Int),i8 acc,())=some (.inl (s,((k+1:Nat):Int),i8 (acc++ [c]),()))):
    ∀ (n k : Nat) (acc : List UInt8),s.size - k ≤ n → k ≤ s.size → acc.length ≤ k → Option.bind (bE body (s,(k : Int),i8 acc,())) K = match gG (lst s k) with
      |some x=>K (resT (acc++x.1) (s.size-x.2.length))
      |none=>q:=by
  intro n
  induction n with
  |zero=>
    intro k acc hn hk ha
    have hk':k=s.size:=by omega
    subst hk'
    have:lst s s.size=[]:=by
      have:=eO s s.size
      exact List.length_eq_zero_iff.1 (by omega)
    rw [ej,h0,this]
    exact hK _
  |succ n ih=>
    intro k acc hn hk ha
    cases e:lst s k with
    |nil=>
      have hk':k=s.size:=by have:=Jl e;omega
      subst hk'
      rw [ej,h0]
      exact hK _
    |cons c r=>
      obtain ⟨e1,e2,_⟩:=eu e
      rw [gq]
      by_cases hc:c=39
      · subst hc
        rw [if_pos rfl]
        cases r with
        |nil=>
          rw [ej,h2 k acc [] e (by simp)]
          have:=eO s k
          rw [e] at this
          simp at this
          simp only [Option.bind_some,List.append_nil,List.length_nil]
          rw [show k+1=s.size-0 by omega]
        |cons d r'=>
          obtain ⟨f1,f2,_⟩:=eu e2
          by_cases hd:d=39
          · subst hd
            simp only [if_true]
            rw [ej,h1 k acc r' e ha]
            simp only
            rw [ih (k+2) (acc++ [39]) (by omega) (by omega) (by simp;omega),f2]
            cases gG r' with
            |none=>rfl
            |some x=>simp
          · simp only [if_neg hd]
            rw [ej,h2 k acc (d::r') e (by simpa using hd)]
            have:=eO s k
            rw [e] at this
            simp at this
            simp only [Option.bind_some,List.append_nil,List.length_cons]
            rw [show k+1=s.size-(r'.length+1) by omega]
      · rw [if_neg hc,ej,h3 k acc c r e hc ha]
        simp only
        rw [ih (k+1) (acc++ [c]) (by omega) (by omega) (by simp;omega),e2]
        cases gG r with
        |none=>rfl
        |some x=>simp
theorem xu {s:ByteArray} {i:Nat} {r:List UInt8} {j:Nat} (h:∃p,lst s i=p++r) (hi:i≤s.size) (hj:j=s.size-r.length):lst s j=r∧i≤j∧j≤s.size:=by
 obtain ⟨p,h⟩:=h
 have hl:=eO s i
 rw [h] at hl
 simp at hl
 have hj':j=i+p.length:=by omega
 refine ⟨?_,by omega,by omega⟩
 rw [hj']
 show List.drop (i+p.length) s.data.toList=r
 rw [←List.drop_drop]
 show List.drop p.length (lst s i)=r
 rw [h]
 simp
theorem DG (l:List UInt8):bytesOf (i8 l)=bs l:=by
 unfold bytesOf
 simp only [List.map_map]
 congr 2
 conv=>rhs;rw [←List.map_id l]
 apply List.map_congr_left
 intro c _
 simp
theorem KL {Q:Type} (w:List UInt8) (K:TS aV.so→Option Q):Option.bind (aV.F (i8 w,())) K=K (bs w,()):=by
 have ha:aV.F (i8 w,())=some (bs w,()):=by
  rw [aV.eq]
  show (if (∀x∈i8 w,0≤x∧x<256) then some (bytesOf (i8 w),()) else none)=_
  rw [if_pos,DG]
  intro x hx
  obtain ⟨c,_,rfl⟩:=List.mem_map.1 hx
  have:=c.toNat_lt
  refine ⟨Int.natCast_nonneg _,?_⟩
  show (c.toNat:Int)<256
  omega
 rw [ha];rfl
theorem cc_b {Q:Type} (w:List Int) (K:TS aH.so→Option Q):Option.bind (aH.F (w,())) K=K (w,()):=by
 have ha:aH.F (w,())=some (w,()):=by
  rw [aH.eq]
  rfl
 rw [ha];rfl
theorem wb_s (w:List UInt8) (c:UInt8) (hw:w.length≤100000000):au.F ((c.toNat:Int),i8 w,())=some (true,i8 (w++ [c]),()):=by
 rw [au.eq]
 unfold au.B
 show Option.bind (aH.F (i8 w,())) _=_
 rw [cc_b]
 show (bif (Nat.ble ((i8 w).length+ [(c.toNat:Int)].length) 140737488355328) then some (true,(i8 w++ [(c.toNat:Int)]),()) else none)=_
 have:Nat.ble ((i8 w).length+ [(c.toNat:Int)].length) 140737488355328=true:=by
  rw [Nat.ble_eq];simp;omega
 rw [this]
 simp
theorem FY (w:List UInt8):cy.F ((3:Int),(0:Int),bs w,())=some (decide (w.length≤1000),()):=by
 rw [cy.eq]
 unfold cy.B
 have:decide (((bs w).size:Int)≤(1000:Int))=decide (w.length≤1000):=by
  rw [cQ];simp;omega
 simp only [this]
 rfl
theorem KM (s : ByteArray) (hs : s.size ≤ 100000000) (i : Nat) {r : List UInt8} (hc : lst s i = 39 :: r) :
    match gG r with
    |some x=>∃j,i<j∧j≤s.size∧lst s j=x.2∧aZ.F (s,(i:Int),())=some (1,e0,3,0,bs x.1,decide (x.1.length≤1000),s,(j:Int),())
    |none=>aZ.F (s,(i:Int),())=some (0,e0,0,0,e0,false,s,(s.size:Int),()):=by
  obtain ⟨hi,h1,_⟩:=eu hc
  have key:aZ.F (s,(i:Int),())=match gG r with
      |some x=>some (1,e0,3,0,bs x.1,decide (x.1.length≤1000),s,((s.size-x.2.length:Nat):Int),())
      |none=>some (0,e0,0,0,e0,false,s,(s.size:Int),()):=by
    rw [aZ.eq]
    unfold aZ.B
    simp only [cw hi (show s.size<9223372036854775808 by omega)]
    have h0:([]:List Int)=i8 []:=rfl
    rw [h0]
    rw [Jm s (fun w j=> .inr (1,e0,3,0,bs w,decide (w.length≤1000),s,(j:Int),())) (fun acc=> .inl (s,(s.size:Int),acc,())) (some (0,e0,0,0,e0,false,s,(s.size:Int),())) (fun acc=>rfl) ?_ ?_ ?_ ?_ (s.size-(i+1)) (i+1) [] (Nat.le_refl _) (by omega) (by simp),h1]
    · cases gG r with
      |none=>rfl
      |some x=>simp
    · intro acc
      have:decide ((s.size:Int)<(s.size:Int))=false:=by simp
      simp only [this,cond_false]
    · intro k acc r' e ha
      obtain ⟨e1,e2,_⟩:=eu e
      obtain ⟨f1,f2,_⟩:=eu e2
      have d1:decide ((k:Int)<(s.size:Int))=true:=by simp;omega
      have hp:=p5 0 s hs k (by omega)
      have hp2:=p5 0 s hs (k+1) (by omega)
      rw [show k+0=k from rfl,e] at hp
      rw [show k+1+0=k+1 from rfl,e2] at hp2
      have hp':aI.F ((0:Int),s,(k:Int),())=some (((39:UInt8).toNat:Int),s,(k:Int),()):=hp
      have hp2':aI.F ((0:Int),s,((k+1:Nat):Int),())=some (((39:UInt8).toNat:Int),s,((k+1:Nat):Int),()):=hp2
      have b1:(((39:UInt8).toNat:Int)==(39:Int))=true:=by decide
      have b2:(((39:UInt8).toNat:Int) !=(39:Int))=false:=by decide
      have b3:decide ((((k+1:Nat):Int))≥(s.size:Int))=false:=by simp;omega
      simp only [d1,cond_true,hp',Option.bind_some,b1,cw e1 (show s.size<9223372036854775808 by omega),hp2',b2,cond_false,b3,wb_s acc 39 (by omega),cw f1 (show s.size<9223372036854775808 by omega)]
    · intro k acc r' e hh
      obtain ⟨e1,e2,_⟩:=eu e
      have d1:decide ((k:Int)<(s.size:Int))=true:=by simp;omega
      have hp:=p5 0 s hs k (by omega)
      have hp2:=p5 0 s hs (k+1) (by omega)
      rw [show k+0=k from rfl,e] at hp
      rw [show k+1+0=k+1 from rfl,e2] at hp2
      have hp':aI.F ((0:Int),s,(k:Int),())=some (((39:UInt8).toNat:Int),s,(k:Int),()):=hp
      have b1:(((39:UInt8).toNat:Int)==(39:Int))=true:=by decide
      have b2:(hd8 r' !=(39:Int))=true:=by
        cases r' with
        |nil=>decide
        |cons d q=>
          have hd:d≠39:=by simpa using hh
          have hu:((d.toNat:Int)==(39:Int))=decide (d=39):=kz d 39 (by decide)
          simp only [hd8,bne,hu,hd,decide_false,Bool.not_false]
      have hp2':aI.F ((0:Int),s,((k+1:Nat):Int),())=some (hd8 r',s,((k+1:Nat):Int),()):=hp2
      simp only [d1,cond_true,hp',Option.bind_some,b1,cw e1 (show s.size<9223372036854775808 by omega),hp2',b2]
      rw [KL]
      simp only [FY,Option.bind_some]
    · intro k acc c r' e hc' ha
      obtain ⟨e1,e2,_⟩:=eu e
      have d1:decide ((k:Int)<(s.size:Int))=true:=by simp;omega
      have hp:=p5 0 s hs k (by omega)
      rw [show k+0=k from rfl,e] at hp
      have hp':aI.F ((0:Int),s,(k:Int),())=some ((c.toNat:Int),s,(k:Int),()):=hp
      have b1:((c.toNat:Int)==(39:Int))=false:=by
        have hu:((c.toNat:Int)==(39:Int))=decide (c=39):=kz c 39 (by decide)
        rw [hu];simp [hc']
      simp only [d1,cond_true,hp',Option.bind_some,b1,cond_false,wb_s acc c (by omega),cw e1 (show s.size<9223372036854775808 by omega)]
  cases ht:gG r with
  |none=>rw [ht] at key;exact key
  |some x=>
    rw [ht] at key
    obtain ⟨a1,a2⟩:=tD _ r (Nat.le_refl _) x ht
    have hp:∃p,lst s (i+1)=p++x.2:=⟨dbl x.1++ [39],by rw [h1,a1];simp⟩
    obtain ⟨b1,b2,b3⟩:=xu (s:=s) (i:=i+1) (r:=x.2) (j:=s.size-x.2.length) hp (by omega) rfl
    exact ⟨_,by omega,b3,b1,key⟩
theorem AR:∀n,n<256→Lib.contains fz [UInt8.ofNat n]=decide (UInt8.ofNat n∈fz):=by decide+kernel
theorem yk (c:UInt8):Lib.contains fz [c]=decide (c∈fz):=by
 have:=AR c.toNat c.toNat_lt
 simpa using this
theorem DH {Q:Type} (c:UInt8) (K:TS strings_Contains.so→Option Q):Option.bind (strings_Contains.F ((⟨#[40,41,91,93,44,61,60,43,45,42,63]⟩:ByteArray),bs [c],())) K=K (decide (c∈fz),()):=by
 have ha:strings_Contains.F ((⟨#[40,41,91,93,44,61,60,43,45,42,63]⟩:ByteArray),bs [c],())=some (decide (c∈fz),()):=by
  rw [strings_Contains.eq]
  show qo _=_
  unfold qo
  simp only
  rw [if_pos (by decide),←yk]
  rfl
 rw [ha];rfl
theorem FZ (c:UInt8):(cls c==4)=decide (c=39):=by
 unfold cls
 by_cases h:c=39
 ·subst h;decide
 ·simp only [h,decide_false,if_false]
  (repeat' split)<;>rfl
theorem xv (c:UInt8):(cls c==1)=fm c:=by
 unfold cls
 cases h:fm c
 ·simp;(repeat' split)<;>simp
 ·simp
theorem zQ (c:UInt8):(cls c==2)=digit c:=by
 have:=nE c
 simpa [inK,eq_comm,BEq.comm] using this
def Ki:List UInt8→Int
 | []=>0
 |d::_=>cls d
theorem Jn (s : ByteArray) (hs : s.size ≤ 100000000) (i : Nat) {c : UInt8} {r : List UInt8} (hc : lst s i = c :: r) :
    match jb (c::r) with
    |some x=>∃j:Nat,i<j∧j≤s.size∧lst s j=x.2∧bc.F (s,(i:Int),())=some (x.1.1,x.1.2.1,x.1.2.2.1,x.1.2.2.2.1,x.1.2.2.2.2,true,s,(j:Int),())
    |none=>∃a b d e f j,bc.F (s,(i:Int),())=some (a,b,d,e,f,false,s,j,()):=by
  obtain ⟨hi,h1,_⟩:=eu hc
  have hp:=p5 0 s hs i (by omega)
  rw [show i+0=i from rfl,hc] at hp
  have hp':aI.F ((0:Int),s,(i:Int),())=some ((c.toNat:Int),s,(i:Int),()):=hp
  have hq:=p5 1 s hs i (by omega)
  rw [h1] at hq
  have hq':aI.F ((1:Int),s,(i:Int),())=some (hd8 r,s,(i:Int),()):=hq
  rw [bc.eq]
  unfold bc.B
  simp only [hp',Option.bind_some,HK,xv,zQ,FZ,hq']
  have hd8_of:ep.F (hd8 r,())=some (Ki r,()):=by
    cases r with
    |nil=>exact (HK 0)
    |cons d r'=>exact HK d
  have hd8_d:(Ki r==2)=gC r:=by
    cases r with
    |nil=>rfl
    |cons d r'=>exact zQ d
  have h45:((c.toNat:Int)==(45:Int))=decide (c=45):=kz c 45 (by decide)
  simp only [hd8_of,Option.bind_some,hd8_d,h45]
  simp only [jb]
  cases hl:fm c with
  |true=>
    simp only [cond_true,if_true]
    obtain ⟨j,g1,g2,g3,g4⟩:=KK s hs i (by omega)
    rw [hc] at g3 g4
    have hin:cE c=true:=by simp [cE,hl]
    rw [List.dropWhile_cons,if_pos hin] at g3
    rw [List.takeWhile_cons,if_pos hin] at g4
    rw [g4]
    simp only [Option.bind_some]
    by_cases hn:(c::r.takeWhile cE).length≤30
    · rw [if_pos hn]
      refine ⟨j,?_,g2,g3,?_⟩
      · have a1:=eO s j
        have a2:=eO s i
        rw [g3] at a1
        rw [hc] at a2
        have:=jI (p:=cE) r
        simp at a2
        omega
      · simp only [hn,decide_true]
        rfl
    · rw [if_neg hn]
      simp only [hn,decide_false]
      exact ⟨_,_,_,_,_,_,rfl⟩
  | false =>
    simp only [cond_false,Bool.false_eq_true,if_false]
    have num:(digit c=true∨(c=45∧gC r=true))→match (pY (c::r.takeWhile digit)).map fun n=>(numT n,r.dropWhile digit) with
      |some x=>∃j:Nat,i<j∧j≤s.size∧lst s j=x.2∧(Option.bind (aQ.F (s,(i:Int),())) fun y7=>some (y7.1,y7.2.1,y7.2.2.1,y7.2.2.2.1,y7.2.2.2.2.1,y7.2.2.2.2.2.1,y7.2.2.2.2.2.2.1,y7.2.2.2.2.2.2.2.1,()))=some (x.1.1,x.1.2.1,x.1.2.2.1,x.1.2.2.2.1,x.1.2.2.2.2,true,s,(j:Int),())
      |none=>∃a b d e f j,(Option.bind (aQ.F (s,(i:Int),())) fun y7=>some (y7.1,y7.2.1,y7.2.2.1,y7.2.2.2.1,y7.2.2.2.2.1,y7.2.2.2.2.2.1,y7.2.2.2.2.2.2.1,y7.2.2.2.2.2.2.2.1,()))=some (a,b,d,e,f,false,s,j,()):=by
      intro hd
      obtain ⟨j,g1,g2,g3,g4⟩:=HL s hs i hc hd
      cases hn:pY (c::r.takeWhile digit) with
      |none=>
        rw [hn] at g4
        obtain ⟨n,g4⟩:=g4
        rw [g4]
        exact ⟨_,_,_,_,_,_,rfl⟩
      |some n=>
        rw [hn] at g4
        exact ⟨j,g1,g2,g3,by rw [g4];rfl⟩
    have w1:IntKind.i64.wrap ((i:Int)+(1:Int))=((i+1:Nat):Int):=cw hi (by omega)
    have w2:IntKind.i64.wrap (((i+1:Nat):Int)-(1:Int))=(i:Int):=by rw [dl]<;>omega
    have w3:(decide (0≤(i:Int))&&(decide ((i:Int)≤((i+1:Nat):Int))&&decide (((i+1:Nat):Int)≤(s.size:Int))))=true:=by simp;omega
    have w4:s.extract i (i+1)=bs [c]:=by rw [oj s i (i+1) (by omega),hc];simp
    have sgn:match (if c=39 then (gG r).bind fun x=>if x.1.length≤1000 then some (textT x.1,x.2) else none else if c∈fz then some (signT c,r) else none) with
      |some x=>∃j:Nat,i<j∧j≤s.size∧lst s j=x.2∧(bif decide (c=39) then Option.bind (aZ.F (s,(i:Int),())) fun y8=>some (y8.1,y8.2.1,y8.2.2.1,y8.2.2.2.1,y8.2.2.2.2.1,y8.2.2.2.2.2.1,y8.2.2.2.2.2.2.1,y8.2.2.2.2.2.2.2.1,()) else
          Option.bind (strings_Contains.F ((⟨#[40,41,91,93,44,61,60,43,45,42,63]⟩:ByteArray),bs [c],())) fun y12=>some ((2:Int),bs [c],(0:Int),(0:Int),(⟨#[]⟩:ByteArray),y12.1,s,((i+1:Nat):Int),()))=some (x.1.1,x.1.2.1,x.1.2.2.1,x.1.2.2.2.1,x.1.2.2.2.2,true,s,(j:Int),())
      |none=>∃a b d e f j,(bif decide (c=39) then Option.bind (aZ.F (s,(i:Int),())) fun y8=>some (y8.1,y8.2.1,y8.2.2.1,y8.2.2.2.1,y8.2.2.2.2.1,y8.2.2.2.2.2.1,y8.2.2.2.2.2.2.1,y8.2.2.2.2.2.2.2.1,()) else
          Option.bind (strings_Contains.F ((⟨#[40,41,91,93,44,61,60,43,45,42,63]⟩:ByteArray),bs [c],())) fun y12=>some ((2:Int),bs [c],(0:Int),(0:Int),(⟨#[]⟩:ByteArray),y12.1,s,((i+1:Nat):Int),()))=some (a,b,d,e,f,false,s,j,()):=by
      by_cases h9:c=39
      · subst h9
        have ht:=KM s hs i hc
        simp only [if_true,decide_true,cond_true]
        cases hx:gG r with
        |none=>
          rw [hx] at ht
          simp only [Option.bind_none]
          rw [ht]
          exact ⟨_,_,_,_,_,_,rfl⟩
        |some x=>
          rw [hx] at ht
          obtain ⟨j,g1,g2,g3,g4⟩:=ht
          simp only [Option.bind_some]
          rw [g4]
          by_cases hn:x.1.length≤1000
          · rw [if_pos hn]
            exact ⟨j,g1,g2,g3,by simp only [hn,decide_true,Option.bind_some];rfl⟩
          · rw [if_neg hn]
            simp only [hn,decide_false,Option.bind_some]
            exact ⟨_,_,_,_,_,_,rfl⟩
      · simp only [h9,if_false,decide_false,cond_false]
        rw [DH]
        by_cases hg:c∈fz
        · rw [if_pos hg]
          exact ⟨i+1,by omega,by omega,h1,by simp only [hg,decide_true];rfl⟩
        · rw [if_neg hg]
          simp only [hg,decide_false]
          exact ⟨_,_,_,_,_,_,rfl⟩
    cases hd:digit c with
    |true=>
      simp only [cond_true,Option.bind_some,Bool.true_or,if_true]
      exact num (.inl hd)
    |false=>
      simp only [cond_false,Bool.false_or]
      by_cases h5:c=45
      · subst h5
        simp only [decide_true,cond_true,Option.bind_some,Bool.true_and]
        cases hh:gC r with
        |true=>
          simp only [cond_true,if_true]
          exact num (.inr ⟨rfl,hh⟩)
        |false=>
          simp only [cond_false,Bool.false_eq_true,if_false,w1,w2,w3,cond_true,Int.toNat_natCast,w4]
          exact sgn
      · simp only [h5,decide_false,cond_false,Option.bind_some,Bool.false_and,Bool.false_eq_true,if_false,w1,w2,w3,cond_true,Int.toNat_natCast,w4]
        exact sgn
theorem uN (l:List UInt8):jB (l.dropWhile (inK [5]))=jB l:=by
 rw [gW zP]
 induction l with
 |nil=>rfl
 |cons c l ih=>
  by_cases h:c=32
  ·subst h
   rw [List.dropWhile_cons,if_pos (by decide),ih,oh]
  ·rw [List.dropWhile_cons,if_neg (by simpa using h)]
theorem uO (l:List UInt8):(l.dropWhile (inK [5])).head?≠some 32:=by
 rw [gW zP]
 induction l with
 |nil=>simp
 |cons c l ih=>
  by_cases h:c=32
  ·subst h
   rw [List.dropWhile_cons,if_pos (by decide)]
   exact ih
  ·rw [List.dropWhile_cons,if_neg (by simpa using h)]
   simpa using h
def tJ (out:List Tok):Option (List Tok)→Int×List Tok×Unit
 |none=>(60,[],())
 |some l=>(0,out++l,())
theorem lex_s (s : ByteArray) : ea.F (s,()) = some (if 20000 < s.size then (60,[],()) else tJ [] (jB s.data.toList)) := by
  rw [ea.eq]
  unfold ea.B
  simp only []
  by_cases hb:20000<s.size
  · have:decide ((s.size:Int)>(20000:Int))=true:=by simp;omega
    simp only [this,cond_true,if_pos hb]
  · have:decide ((s.size:Int)>(20000:Int))=false:=by simp;omega
    simp only [this,cond_false,if_neg hb]
    have hs:s.size≤100000000:=by omega
    obtain ⟨j,g1,g2,g3,g4⟩:=zO [5] (by decide) s hs 0 (by omega)
    have g4':be.F ([(5:Int)],s,(0:Int),())=some (bs ((lst s 0).takeWhile (inK [5])),s,(j:Int),()):=g4
    rw [g4']
    simp only [Option.bind_some]
    rw [fb (m:=fun x=>s.size-x.2.2.1.toNat)
      (I:=fun x=>x.2.1=s∧∃k:Nat,x.2.2.1=(k:Int)∧k≤s.size∧x.1.length≤k∧(lst s k).head?≠some 32)
      (f:=fun x=>tJ x.1 (jB (lst s x.2.2.1.toNat))) ?_ _ ⟨rfl,j,rfl,g2,by simp,by rw [g3];exact uO _⟩]
    · simp only [Int.toNat_natCast]
      rw [g3,uN]
      rfl
    · rintro ⟨out,a,b,⟨⟩⟩ ⟨ha,k,hk,hle,hlen,hh⟩
      simp only at ha hk hlen
      subst ha
      subst hk
      simp only [Int.toNat_natCast]
      by_cases hlt:k<a.size
      · obtain ⟨c,r,e⟩:=mK hlt
        have d1:decide ((k:Int)<(a.size:Int))=true:=by simp;omega
        have hc:c≠32:=by rw [e] at hh;simpa using hh
        have ht:=Jn a hs k e
        simp only [d1,cond_true]
        rw [e,ny r hc]
        cases hx:jb (c::r) with
        |none=>
          rw [hx] at ht
          obtain ⟨_,_,_,_,_,_,g⟩:=ht
          right
          rw [g]
          rfl
        |some x=>
          rw [hx] at ht
          obtain ⟨m,t1,t2,t3,t4⟩:=ht
          left
          obtain ⟨n,r1,r2,r3,r4⟩:=zO [5] (by decide) a hs m t2
          rw [t4]
          have d2:Nat.ble (out.length+ [(x.1.1,(x.1.2.1,(x.1.2.2.1,(x.1.2.2.2.1,x.1.2.2.2.2))))].length) 2513169434916=true:=by
            rw [Nat.ble_eq];simp;omega
          simp only [Option.bind_some,Bool.not_true,cond_false]
          rw [d2]
          simp only [cond_true,r4,Option.bind_some]
          refine ⟨_,rfl,⟨rfl,n,rfl,r2,by simp;omega,by rw [r3];exact uO _⟩,by simp only [Int.toNat_natCast];omega,?_⟩
          simp only [Int.toNat_natCast,r3,t3,uN]
          cases jB x.2 with
          |none=>rfl
          |some l=>simp [tJ]
      · right
        have hd:decide ((k:Int)<(a.size:Int))=false:=by simp;omega
        have:lst a k=[]:=by
          have:=eO a k
          exact List.length_eq_zero_iff.1 (by omega)
        rw [this]
        simp only [hd,cond_false,xf,tJ,List.append_nil]
theorem xw {p:UInt8→Bool} (l:List UInt8):decide (l.takeWhile p=l)=l.all p:=by
 induction l with
 |nil=>simp
 |cons c l ih=>
  simp only [List.takeWhile_cons,List.all_cons]
  cases h:p c with
  |true=>simp [←ih]
  |false=>simp
theorem KN (b : ByteArray) : dz.F (b,()) = some (jC b,()) := by
  rw [dz.eq]
  unfold dz.B jC
  have hb:b=bs b.data.toList:=(oi b).symm
  generalize hl:b.data.toList=l at hb
  subst hb
  rw [jJ] at hl
  simp only [show (⟨#[]⟩:ByteArray)=bs [] from rfl,rG,cQ]
  cases l with
  |nil=>simp [gB]
  |cons c l=>
    simp only [gB]
    have e0:decide (c::l=([]:List UInt8))=false:=by simp
    simp only [e0,cond_false]
    by_cases h30:(c::l).length≤30
    · have e1:decide ((((c::l).length:Nat):Int)>(30:Int))=false:=by rw [decide_eq_false_iff_not];omega
      have e2:(decide (0≤(0:Int))&&decide ((0:Int)<(((c::l).length:Nat):Int)))=true:=by simp
      have hst:lst (bs (c::l)) 0=c::l:=rfl
      have e3:eK (bs (c::l)) 0=(c.toNat:Int):=(eu hst).2.2
      simp only [e1,cond_false,e2,cond_true,e3,HK,Option.bind_some,bne,xv]
      cases hc:fm c with
      |false=>simp
      |true=>
        simp only [Bool.not_true,cond_false,Option.bind_some]
        obtain ⟨j,g1,g2,g3,g4⟩:=zO [1,2,3] (by decide) (bs (c::l)) (by rw [cQ];omega) 0 (by omega)
        have g4':be.F ([(1:Int),(2:Int),(3:Int)],bs (c::l),(0:Int),())=some (bs ((lst (bs (c::l)) 0).takeWhile (inK [1,2,3])),bs (c::l),(j:Int),()):=g4
        rw [g4',hst,iW xp]
        simp only [Option.bind_some,rG,xw,Bool.true_and]
        simp only [h30,decide_true,Bool.and_true]
    · have e1:decide ((((c::l).length:Nat):Int)>(30:Int))=true:=by rw [decide_eq_true_eq];omega
      simp only [e1,cond_true,Option.bind_some,h30,decide_false,Bool.and_false]
def nF (b:ByteArray):Int→List ByteArray→Int
 |_,[]=>-1
 |i,k::l=>if b=k then i else nF b (i+1) l
theorem F0 (b:ByteArray):∀(l:List ByteArray) (i:Int),0≤i→decide (nF b i l≥0)=l.any fun k=>decide (k=b):=by
 intro l
 induction l with
 |nil=>intro i _;rfl
 |cons k l ih=>
  intro i hi
  rw [List.any_cons]
  by_cases h:b=k
  ·have:nF b i (k::l)=i:=by simp [nF,h]
   rw [show decide (nF b i (k::l)≥0)=decide (i≥0) by rw [this]]
   simp [h,hi]
  ·have:¬k=b:=fun e=>h e.symm
   have e:nF b i (k::l)=nF b (i+1) l:=by simp [nF,h]
   rw [show decide (nF b i (k::l)≥0)=decide (nF b (i+1) l≥0) by rw [e],ih _ (by omega)];simp [this]
theorem Jo (l : List ByteArray) (hl : l.length < 1000) (b : ByteArray) : aq.F (l,b,()) = some (nF b 0 l,()) := by
  rw [aq.eq]
  unfold aq.B
  simp only []
  rw [fb (m:=fun x=>l.length-x.1.toNat) (I:=fun x=>∃k:Nat,x.1=(k:Int)∧k≤l.length) (f:=fun x=>(nF b x.1 (l.drop x.1.toNat),())) ?_ _ ⟨0,rfl,by omega⟩]
  · simp
  · rintro ⟨x,⟨⟩⟩ ⟨k,hk,hle⟩
    simp only at hk
    subst hk
    simp only [Int.toNat_natCast]
    by_cases hlt:k<l.length
    · have d1:decide ((k:Int)<(l.length:Int))=true:=by simp;omega
      have d0:decide (0≤(k:Int))=true:=by simp
      simp only [d1,d0,Bool.and_self,cond_true,bU hlt,dY,cw hlt (show l.length<9223372036854775808 by omega)]
      rw [List.drop_eq_getElem_cons hlt,nF]
      by_cases he:b=l[k]
      · right
        simp only [he,decide_true,cond_true,if_true]
      · left
        simp only [he,decide_false,cond_false,if_false]
        refine ⟨_,rfl,⟨k+1,rfl,by omega⟩,by simp only [Int.toNat_natCast];omega,?_⟩
        simp only [Int.toNat_natCast]
        rfl
    · right
      have d1:decide ((k:Int)<(l.length:Int))=false:=by simp;omega
      simp only [d1,cond_false]
      rw [List.drop_eq_nil_of_le (by omega)]
      rfl
theorem KO (b:ByteArray):dG.F (b,())=some (isName b,()):=by
 rw [dG.eq]
 unfold dG.B isName
 simp only [KN,Option.bind_some]
 cases jC b with
 |false=>rfl
 |true=>
  have hk:ci.F ()=some (ka,()):=by rw [ci.eq];rfl
  have h1:=Jo ka (by decide) b
  have h2:=F0 b ka 0 (by decide)
  have hc:aj.F (ka,b,())=some (ka.any fun k=>decide (k=b),()):=by
   rw [aj.eq]
   unfold aj.B
   simp only [h1,Option.bind_some,h2]
  simp only [cond_true,hk,Option.bind_some,hc,Bool.true_and]
end Go.Proofs.Ytleadolkcmagfaa
end
section
namespace Go.Proofs.Ytleadolkcmagfaa
open Go Lv Go.Proofs Go.RowKit Go.Shelf Dl
def res {α β:Type} (f:α→List Tok→β):Option (α×List Tok)→β⊕Int
 |some x=> .inl (f x.1 x.2)
 |none=> .inr 70
@[simp] theorem ey {α β : Type} (f : α → List Tok → β) (x : α × List Tok) : res f (some x) = .inl (f x.1 x.2) := rfl
@[simp] theorem sX {α β : Type} (f : α → List Tok → β) : res f none = (.inr 70 : β ⊕ Int) := rfl
theorem lq (b:Bool):cg.F (b,())=some (bif b then .inl () else .inr 70):=by
 rw [cg.eq]
 cases b<;>rfl
theorem Kj (ws : List ByteArray) (hw : ws.length < 1000) (l : List Tok) (hl : l.length ≤ 100000000) : bG.F (ws,l,()) = some ((tkL ws l).isSome,l,()) := by
  rw [bG.eq]
  unfold bG.B
  simp only []
  rw [fb (m:=fun x=>ws.length-x.1.toNat) (I:=fun x=>∃k:Nat,x.1=(k:Int)∧k≤ws.length) (f:=fun x=>((tkL (ws.drop x.1.toNat) (l.drop x.1.toNat)).isSome,l,())) ?_ _ ⟨0,rfl,by omega⟩]
  · simp
  · rintro ⟨x,⟨⟩⟩ ⟨k,hk,hle⟩
    simp only at hk
    subst hk
    simp only [Int.toNat_natCast]
    by_cases hlt:k<ws.length
    · have d1:decide ((k:Int)<(ws.length:Int))=true:=by simp;omega
      have d0:decide (0≤(k:Int))=true:=by simp
      simp only [d1,d0,Bool.and_self,cond_true,bU hlt]
      rw [List.drop_eq_getElem_cons hlt]
      by_cases hkl:k<l.length
      · have d2:decide ((k:Int)≥(l.length:Int))=false:=by simp;omega
        have d3:decide ((k:Int)<(l.length:Int))=true:=by simp;omega
        simp only [d2,d3,cond_false,Bool.true_and,cond_true,bU hkl,dY]
        rw [List.drop_eq_getElem_cons hkl]
        simp only [tkL,tk]
        by_cases h1:l[k].1=1
        · right
          have:(l[k].1==(1:Int))=true:=by simp [h1]
          simp only [this,cond_true]
          simp [h1]
        · have e1:(l[k].1==(1:Int))=false:=by simp [h1]
          by_cases h2:l[k].2.1=ws[k]
          · left
            simp only [e1,h2,decide_true,Bool.not_true,cond_false,cw hlt (show ws.length<9223372036854775808 by omega)]
            refine ⟨_,rfl,⟨k+1,rfl,by omega⟩,by simp only [Int.toNat_natCast];omega,?_⟩
            simp [h1]
          · right
            simp only [e1,h2,decide_false,Bool.not_false,cond_false,cond_true]
            simp
      · right
        have d2:decide ((k:Int)≥(l.length:Int))=true:=by simp;omega
        simp only [d2,cond_true]
        rw [List.drop_eq_nil_of_le (show l.length≤k by omega)]
        rfl
    · right
      have d1:decide ((k:Int)<(ws.length:Int))=false:=by simp;omega
      simp only [d1,cond_false]
      rw [List.drop_eq_nil_of_le (by omega)]
      rfl
theorem EF:∀(ws:List ByteArray) (l r:List Tok),tkL ws l=some r→r=l.drop ws.length∧ws.length≤l.length:=by
 intro ws
 induction ws with
 |nil=>intro l r h;cases h;simp
 |cons w ws ih=>
  intro l r h
  simp only [tkL,Option.bind_eq_some_iff] at h
  obtain ⟨m,hm,h⟩:=h
  obtain ⟨e,hl⟩:=ih m r h
  cases l with
  |nil=>cases hm
  |cons t l=>
   simp only [tk] at hm
   split at hm
   ·cases hm;exact ⟨by simpa using e,by simp;omega⟩
   ·cases hm
theorem EG (ws:List ByteArray) (hw:ws.length<1000) (l:List Tok) (hl:l.length≤100000000):aA.F (ws,l,())=some ((tkL ws l).isSome,(tkL ws l).getD l,()):=by
 rw [aA.eq]
 unfold aA.B
 simp only [Kj ws hw l hl,Option.bind_some]
 cases h:tkL ws l with
 |none=>simp
 |some r=>
  obtain ⟨e,h2⟩:=EF ws l r h
  have d:(decide (0≤(ws.length:Int))&&(decide ((ws.length:Int)≤(l.length:Int))&&decide ((l.length:Int)≤(l.length:Int))))=true:=by simp;omega
  simp only [Option.isSome_some,Bool.not_true,cond_false,d,cond_true,Int.toNat_natCast,List.take_length]
  rw [←e]
  rfl
theorem EH (s:ByteArray) (l:List Tok):tkL [s] l=tk s l:=by
 simp only [tkL]
 cases tk s l<;>rfl
theorem eS (s:ByteArray) (l:List Tok) (hl:l.length≤100000000):aA.F ([s],l,())=some ((tk s l).isSome,(tk s l).getD l,()):=by
 rw [EG [s] (by simp) l hl,EH]
theorem is_s (s:ByteArray) (l:List Tok) (hl:l.length≤100000000):bG.F ([s],l,())=some ((tk s l).isSome,l,()):=by
 rw [Kj [s] (by simp) l hl,EH]
theorem zR (ws : List ByteArray) (hw : ws.length < 1000) (l : List Tok) (hl : l.length ≤ 100000000) : bu.F (ws,l,()) = some (res (fun i r => (i,r,())) (gH 0 ws l)) := by
  rw [bu.eq]
  unfold bu.B
  simp only []
  rw [fb (S:=Int×(List bH)×Unit) (m:=fun x=>ws.length-x.1.toNat) (I:=fun x=>x.2.1=l∧∃k:Nat,x.1=(k:Int)∧k≤ws.length)
    (f:=fun x=>match gH x.1 (ws.drop x.1.toNat) l with|some y=> .inr (.inl (y.1,y.2,()))|none=> .inl (l,())) ?_ _ ⟨rfl,0,rfl,by omega⟩]
  · simp only [Option.bind_some,Int.toNat_zero,List.drop_zero]
    cases gH 0 ws l with
    |none=>simp only [lq];rfl
    |some y=>rfl
  · rintro ⟨x,a,⟨⟩⟩ ⟨ha,k,hk,hle⟩
    simp only at hk ha
    subst hk
    subst ha
    simp only [Int.toNat_natCast]
    by_cases hlt:k<ws.length
    · have d1:decide ((k:Int)<(ws.length:Int))=true:=by simp;omega
      have d0:decide (0≤(k:Int))=true:=by simp
      simp only [d1,d0,Bool.and_self,cond_true,bU hlt,eS _ a hl,Option.bind_some]
      rw [List.drop_eq_getElem_cons hlt]
      simp only [gH]
      cases h:tk ws[k] a with
      |some r=>right;simp
      |none=>
        left
        simp only [Option.isSome_none,cond_false,Option.getD_none,cw hlt (show ws.length<9223372036854775808 by omega)]
        refine ⟨_,rfl,⟨rfl,k+1,rfl,by omega⟩,by simp only [Int.toNat_natCast];omega,?_⟩
        simp only [Int.toNat_natCast]
        rfl
    · right
      have d1:decide ((k:Int)<(ws.length:Int))=false:=by simp;omega
      simp only [d1,cond_false]
      rw [List.drop_eq_nil_of_le (by omega)]
      rfl
theorem xx:bh.F ([],())=some (.inr 70):=by
 rw [bh.eq]
 unfold bh.B
 simp only [lq]
 rfl
theorem tK (t:Tok) (l:List Tok) (hl:(t::l).length≤100000000):bh.F (t::l,())=some (.inl (t.1,t.2.1,t.2.2.1,t.2.2.2.1,t.2.2.2.2,l,())):=by
 rw [bh.eq]
 unfold bh.B
 have d1:decide (((t::l).length:Int)>(0:Int))=true:=by rw [decide_eq_true_eq];simp only [List.length_cons];omega
 have d2:(decide (0≤(0:Int))&&decide ((0:Int)<((t::l).length:Int)))=true:=by simp only [Bool.and_eq_true,decide_eq_true_eq,List.length_cons];omega
 have d3:(decide (0≤(1:Int))&&(decide ((1:Int)≤((t::l).length:Int))&&decide (((t::l).length:Int)≤((t::l).length:Int))))=true:=by simp only [Bool.and_eq_true,decide_eq_true_eq,List.length_cons];omega
 simp only [d1,lq,cond_true,Option.bind_some,d2,d3,Int.toNat_natCast,List.take_length]
 rfl
theorem tL (l:List Tok) (hl:l.length≤100000000):bi.F (l,())=some (res (fun a r=>(a,r,())) (ii l)):=by
 rw [bi.eq]
 unfold bi.B
 cases l with
 |nil=>simp only [xx];rfl
 |cons t l=>
  simp only [tK t l hl,Option.bind_some,KO,lq,ii]
  by_cases h:t.1=0
  ·have:(t.1==(0:Int))=true:=by simp [h]
   simp only [this,cond_true,h,true_and]
   cases hn:isName t.2.1<;>simp
  ·have:(t.1==(0:Int))=false:=by simp [h]
   simp only [this,cond_false,h,false_and,if_false]
   rfl
theorem uP (l : List Tok) (hl : l.length ≤ 100000000) : aP.F (l,()) = some (res (fun a r => (a,r,())) (kc l)) := by
  rw [aP.eq]
  unfold aP.B
  cases l with
  |nil=>simp only [xx];rfl
  |cons t l=>
    simp only [tK t l hl,Option.bind_some,lq,kc]
    by_cases h1:t.1=1
    · have b1:(t.1==(1:Int))=true:=by simp [h1]
      by_cases h2:t.2.2.1=2
      · have b2:(t.2.2.1==(2:Int))=true:=by simp [h2]
        by_cases h3:0≤t.2.2.2.1
        · have b3:decide (t.2.2.2.1≥(0:Int))=true:=by simp;exact h3
          by_cases h4:t.2.2.2.1≤99
          · simp [b1,b2,b3,h1,h2,h3,h4]
          · simp [b1,b2,b3,h1,h2,h3,h4]
        · have b3:decide (t.2.2.2.1≥(0:Int))=false:=by simp;omega
          simp only [b1,b2,b3,cond_true,cond_false,Option.bind_some]
          simp [h3]
      · have b2:(t.2.2.1==(2:Int))=false:=by simp [h2]
        simp only [b1,b2,cond_true,cond_false,Option.bind_some]
        simp [h2]
    · have b1:(t.1==(1:Int))=false:=by simp [h1]
      simp only [b1,cond_false,Option.bind_some]
      simp [h1]
theorem zS {α : Type} (k a : ByteArray) (x : α) : ∀ m : List (ByteArray × α),eh k (bT a x m) = if k = a then some x else eh k m := by
  intro m
  induction m with
  |nil=>
    simp only [bT,eh]
    by_cases h:a=k
    · simp [h]
    · have:¬k=a:=fun e=>h e.symm
      simp [h,this]
  |cons y m ih=>
    obtain ⟨b,z⟩:=y
    simp only [bT]
    by_cases h:b=a
    · subst h
      simp only [if_true,eh]
      by_cases h2:b=k
      · simp [h2]
      · have:¬k=b:=fun e=>h2 e.symm
        simp [h2,this]
    · simp only [if_neg h,eh,ih]
      by_cases h2:b=k
      · subst h2;simp [h]
      · simp [h2]
theorem zU {α:Type} (k:ByteArray):eh k ([]:List (ByteArray×α))=none:=rfl
def HM:List UInt8→ByteArray×Bool×Unit
 | []=>(bs [],false,())
 |c::d=>if c=99 then (bs d,true,()) else (bs (c::d),false,())
theorem cut_s (l : List UInt8) (hl : l.length ≤ 100000000) : bj.F (bs l,(⟨#[99]⟩ : ByteArray),()) = some (HM l) := by
  have hp:am.F (bs l,(⟨#[99]⟩:ByteArray),())=some (decide (l.head?=some 99),()):=by
    rw [am.eq]
    unfold am.B
    have hc:(⟨#[99]⟩:ByteArray).size=1:=rfl
    simp only [cQ,hc]
    cases l with
    |nil=>rfl
    |cons c d=>
      have d1:decide ((((c::d).length:Nat):Int)≥((1:Nat):Int))=true:=by rw [decide_eq_true_eq];simp only [List.length_cons];omega
      have d2:(decide (0≤(0:Int))&&(decide ((0:Int)≤((1:Nat):Int))&&decide (((1:Nat):Int)≤(((c::d).length:Nat):Int))))=true:=by simp only [Bool.and_eq_true,decide_eq_true_eq,List.length_cons];omega
      simp only [d1,d2,cond_true,Int.toNat_natCast]
      rw [show (bs (c::d)).extract (Int.toNat 0) 1=bs [c] by rw [show Int.toNat 0=0 from rfl,oj _ 0 1 (by omega)];simp [lst],show (⟨#[99]⟩:ByteArray)=bs [99] from rfl,rG]
      simp
  have hq:ao.F (bs l,(⟨#[99]⟩:ByteArray),())=some (HM l):=by
    rw [ao.eq]
    unfold ao.B
    simp only [hp,Option.bind_some]
    cases l with
    |nil=>rfl
    |cons c d=>
      by_cases h:c=99
      · subst h
        have hc:(⟨#[99]⟩:ByteArray).size=1:=rfl
        have d2:(decide (0≤((1:Nat):Int))&&(decide (((1:Nat):Int)≤(((99::d).length:Nat):Int))&&decide ((((99::d).length:Nat):Int)≤(((99::d).length:Nat):Int))))=true:=by simp only [Bool.and_eq_true,decide_eq_true_eq,List.length_cons];omega
        simp only [List.head?_cons,decide_true,Bool.not_true,cond_false,hc,cQ,d2,cond_true,Int.toNat_natCast,if_true]
        rw [oj _ 1 _ (by simp only [List.length_cons];omega)]
        simp [lst,HM]
      · simp [h,HM]
  rw [bj.eq]
  unfold bj.B
  simp only [hq,Option.bind_some]
theorem HN (l : List UInt8) (hl : l.length ≤ 100000000) : ∃ n,cM.F (bs l,()) = some (n,(tE l).isSome,()) ∧ ∀ m,tE l = some m → n = m := by
  rw [cM.eq]
  unfold cM.B
  simp only [cut_s l hl,Option.bind_some]
  have at_s:∀w:List UInt8,w.length≤100000000→bV.F (bs w,())=some ((iE (bs w)).1,(iE (bs w)).2,()):=fun w hw=>by
    rw [bV.eq]
    show zM (bs w,())=_
    unfold zM
    simp only
    rw [if_pos (by rw [cQ];omega)]
  cases l with
  |nil=>
    show ∃n,Option.bind (bV.F (bs [],())) _=_∧_
    rw [AP [] (by simp)]
    exact ⟨_,rfl,fun m h=>by cases h⟩
  |cons c d=>
    simp only [tE,HM]
    by_cases h:c=99
    · subst h
      simp only [if_true]
      rw [AP d (by simp only [List.length_cons] at hl;omega)]
      simp only [cond_true]
      unfold iE
      simp only [jJ]
      cases ha:Lib.atoiAll d with
      |ok v=>
        obtain ⟨b1,b2⟩:=xq ha
        simp only [cond_true]
        by_cases h99:v≤99
        · have:decide (v≤(99:Int))=true:=by simp [h99]
          simp only [this,cond_true]
          rw [AQ v b1 b2]
          simp only [rG]
          by_cases hi:Lib.itoa v=d
          · refine ⟨v,?_,?_⟩
            · simp [hi,h99]
            · intro m hm;simp [hi,h99] at hm;exact hm
          · exact ⟨v,by simp [hi,h99],fun m hm=>by simp [hi] at hm⟩
        · have:decide (v≤(99:Int))=false:=by simp;omega
          simp only [this,cond_false]
          exact ⟨v,by simp [h99],fun m hm=>by simp [h99] at hm⟩
      |_=>exact ⟨_,rfl,fun m hm=>by cases hm⟩
    · simp only [if_neg h]
      rw [AP (c::d) (by omega)]
      exact ⟨_,rfl,fun m hm=>by cases hm⟩
end Go.Proofs.Ytleadolkcmagfaa
end
section
namespace Go.Proofs.Ytleadolkcmagfaa
open Go Lv Go.Proofs Go.RowKit Go.Shelf Dl
abbrev kA (l:List Tok):Prop:=l.length≤100000000∧∀t∈l,t.2.1.size≤100000000
theorem Jp (b:ByteArray):eh b (bT (⟨#[110,111,116]⟩:ByteArray) (9:Int) (bT (⟨#[111,114]⟩:ByteArray) (8:Int) (bT (⟨#[97,110,100]⟩:ByteArray) (7:Int) (bT (⟨#[60]⟩:ByteArray) (6:Int) (bT (⟨#[61]⟩:ByteArray) (5:Int) (bT (⟨#[42]⟩:ByteArray) (4:Int) (bT (⟨#[45]⟩:ByteArray) (3:Int) (bT (⟨#[43]⟩:ByteArray) (2:Int) ([]:List (ByteArray×Int))))))))))=yi b:=by
 simp only [yi,zS,zU]
theorem Jq (b:ByteArray):eh b (bT (⟨#[116,114,117,101]⟩:ByteArray) ((1:Int),((1:Int),(⟨#[]⟩:ByteArray))) (bT (⟨#[102,97,108,115,101]⟩:ByteArray) ((1:Int),((0:Int),(⟨#[]⟩:ByteArray))) (bT (⟨#[110,117,108,108]⟩:ByteArray) ((0:Int),((0:Int),(⟨#[]⟩:ByteArray))) ([]:List (ByteArray×dn)))))=jm b:=by
 simp only [jm,zS,zU]
theorem KP (l : List Tok) (hl : kA l) : aR.F (l,()) = some (res (fun x r => (x.1,x.2.1,x.2.2.1,x.2.2.2.1,x.2.2.2.2,r,())) (iG l)) := by
  rw [aR.eq]
  unfold aR.B
  simp only [rj,rz,og,EG [(⟨#[110,117,108,108]⟩:ByteArray),(⟨#[63]⟩:ByteArray)] (by decide) l hl.1,Option.bind_some,iG]
  cases h:tkL [(⟨#[110,117,108,108]⟩:ByteArray),(⟨#[63]⟩:ByteArray)] l with
  |some r=>rfl
  |none=>
    simp only [Option.isSome_none,cond_false,Option.getD_none]
    cases l with
    |nil=>simp only [xx];rfl
    |cons t l=>
      simp only [tK t l hl.1,Option.bind_some]
      by_cases h1:t.1=1
      · have b1:(t.1==(1:Int))=true:=by simp [h1]
        simp only [b1,cond_true,h1,if_true]
        rfl
      · have b1:(t.1==(1:Int))=false:=by simp [h1]
        simp only [b1,cond_false,if_neg h1]
        simp only [Jp,Jq]
        cases ho:yi t.2.1 with
        |some op=>rfl
        |none=>
          simp only [Option.isSome_none,cond_false]
          cases hc:jm t.2.1 with
          |some v=>rfl
          |none=>
            simp only [Option.isSome_none,cond_false]
            obtain ⟨n,e1,e2⟩:=HN t.2.1.data.toList (hl.2 t (by simp))
            rw [oi] at e1
            simp only [e1,Option.bind_some,lq]
            cases hp:tE t.2.1.data.toList with
            |none=>rfl
            |some m=>
              rw [e2 m hp]
              rfl
theorem kA.suf {l r:List Tok} (h:kA l) (hs:r<:+l):kA r:=⟨Nat.le_trans hs.length_le h.1,fun x hx=>h.2 x (hs.subset hx)⟩
theorem eL {s:ByteArray} {l r:List Tok} (h:tk s l=some r):r<:+l:=by
 cases l with
 |nil=>cases h
 |cons t l=>
  simp only [tk] at h
  split at h
  ·cases h;exact List.suffix_cons _ _
  ·cases h
theorem Jr:∀{ws:List ByteArray} {l r:List Tok},tkL ws l=some r→r<:+l:=by
 intro ws l r h
 rw [(EF ws l r h).1]
 exact List.drop_suffix _ _
theorem iR:∀{ws:List ByteArray} {i:Int} {l:List Tok} {x},gH i ws l=some x→x.2<:+l:=by
 intro ws
 induction ws with
 |nil=>intro i l x h;cases h
 |cons w ws ih=>
  intro i l x h
  simp only [gH] at h
  split at h
  ·rename_i r hr;cases h;exact eL hr
  ·exact ih h
theorem iy {l:List Tok} {x} (h:ii l=some x):x.2<:+l:=by
 cases l with
 |nil=>cases h
 |cons t l=>
  simp only [ii] at h
  split at h
  ·cases h;exact List.suffix_cons _ _
  ·cases h
theorem lr {l:List Tok} {x} (h:kc l=some x):x.2<:+l:=by
 cases l with
 |nil=>cases h
 |cons t l=>
  simp only [kc] at h
  split at h
  ·cases h;exact List.suffix_cons _ _
  ·cases h
theorem zV {l : List Tok} {x} (h : iG l = some x) : x.2 <:+ l := by
  simp only [iG] at h
  split at h
  · rename_i r hr;cases h;exact Jr hr
  · cases l with
    |nil=>cases h
    |cons t l=>
      simp only at h
      split at h
      · cases h;exact List.suffix_cons _ _
      · split at h
        · cases h;exact List.suffix_cons _ _
        · split at h
          · cases h;exact List.suffix_cons _ _
          · simp only [Option.map_eq_some_iff] at h
            obtain ⟨n,_,rfl⟩:=h
            exact List.suffix_cons _ _
theorem jF (n:Nat) (l:List Tok):ip n l=match tk (⟨#[93]⟩:ByteArray) l with
 |some r=>some ([],r)
 |none=>match n with
  |0=>none
  |n+1=>(iG l).bind fun x=>(ip n x.2).map fun y=>(x.1::y.1,y.2):=by rw [ip.eq_def];try (cases n<;>rfl)
theorem DI:∀{n:Nat} {l:List Tok} {x},ip n l=some x→x.2<:+l:=by
 intro n
 induction n with
 |zero=>
  intro l x h
  rw [jF] at h
  split at h
  ·rename_i r hr;cases h;exact eL hr
  ·cases h
 |succ n ih=>
  intro l x h
  rw [jF] at h
  split at h
  ·rename_i r hr;cases h;exact eL hr
  ·simp only [Option.bind_eq_some_iff,Option.map_eq_some_iff] at h
   obtain ⟨y,hy,z,hz,rfl⟩:=h
   exact (ih hz).trans (zV hy)
theorem zW {l:List Tok} {x} (h:jy l=some x):x.2<:+l:=by
 simp only [jy,Option.bind_eq_some_iff] at h
 obtain ⟨r,hr,h⟩:=h
 exact (DI h).trans (eL hr)
theorem HO (l : List Tok) (hl : kA l) : bf.F (l,()) = some (res (fun x r => (r,x,())) (jy l)) := by
  rw [bf.eq]
  unfold bf.B
  simp only [eS _ l hl.1,Option.bind_some,lq,jy]
  cases h:tk (⟨#[91]⟩:ByteArray) l with
  |none=>rfl
  |some r=>
    simp only [Option.isSome_some,cond_true,Option.getD_some,Option.bind_some]
    have hr:=hl.suf (eL h)
    rw [fb (S:=(List ae)×(List bH)×Unit) (m:=fun x=>200-x.1.length) (I:=fun x=>x.1.length≤100∧kA x.2.1)
      (f:=fun x=>match ip (100-x.1.length) x.2.1 with|some y=> .inl (y.2,x.1++y.1,())|none=> .inr 70) ?_ _ ⟨by simp,hr⟩]
    · cases ip 100 r<;>rfl
    · rintro ⟨out,q,⟨⟩⟩ ⟨ho,hq⟩
      simp only at ho hq
      simp only [eS _ q hq.1,Option.bind_some]
      cases h1:tk (⟨#[93]⟩:ByteArray) q with
      |some r1=>
        right
        simp only [Option.isSome_some,Bool.not_true,cond_false,Option.getD_some]
        rw [jF,h1]
        simp
      |none=>
        simp only [Option.isSome_none,Bool.not_false,cond_true,Option.getD_none,KP q hq]
        rw [jF,h1]
        cases h2:iG q with
        |none=>
          right
          simp only [sX,Option.bind_some]
          cases h3:100-out.length with
          |zero=>rfl
          |succ n=>rfl
        |some x=>
          have d1:Nat.ble (out.length+ [(x.1.1,(x.1.2.1,(x.1.2.2.1,(x.1.2.2.2.1,x.1.2.2.2.2))))].length) 2932031007402=true:=by rw [Nat.ble_eq];simp;omega
          simp only [ey,Option.bind_some]
          rw [d1]
          simp only [cond_true,lq,Option.bind_some]
          cases h3:100-out.length with
          |zero=>
            right
            have:decide (((out++ [(x.1.1,(x.1.2.1,(x.1.2.2.1,(x.1.2.2.2.1,x.1.2.2.2.2))))]).length:Int)≤(100:Int))=false:=by simp;omega
            simp only [this,cond_false]
          |succ n=>
            left
            have:decide (((out++ [(x.1.1,(x.1.2.1,(x.1.2.2.1,(x.1.2.2.2.1,x.1.2.2.2.2))))]).length:Int)≤(100:Int))=true:=by simp;omega
            simp only [this,cond_true]
            refine ⟨_,rfl,⟨by simp;omega,hq.suf (zV h2)⟩,by simp;omega,?_⟩
            simp only [List.length_append,List.length_singleton]
            rw [show 100-(out.length+1)=n by omega]
            cases ip n x.2<;>simp
theorem sY (s:ByteArray) (l:List Tok):(iQ s l).2<:+l:=by
 unfold iQ
 cases h:tk s l with
 |none=>exact List.suffix_refl _
 |some r=>exact eL h
theorem HP {l:List Tok} {x} (h:Ch l=some x):x.2<:+l:=by
 unfold Ch at h
 split at h
 ·cases h;exact List.suffix_refl _
 ·rename_i r hr
  simp only [Option.bind_eq_some_iff,Option.map_eq_some_iff] at h
  obtain ⟨y,hy,z,hz,rfl⟩:=h
  exact ((iR hz).trans (iy hy)).trans (eL hr)
theorem uQ {l:List Tok} {x} (h:gQ l=some x):x.2<:+l:=by
 simp only [gQ,Option.bind_eq_some_iff,Option.map_eq_some_iff] at h
 obtain ⟨y,hy,z,hz,u,hu,rfl⟩:=h
 exact ((((HP hu).trans (sY _ _)).trans (sY _ _)).trans (iR hz)).trans (iy hy)
theorem EI:∀{ws:List ByteArray} {i:Int} {l:List Tok} {x},gH i ws l=some x→i≤x.1∧x.1<i+ws.length:=by
 intro ws
 induction ws with
 |nil=>intro i l x h;cases h
 |cons w ws ih=>
  intro i l x h
  simp only [gH] at h
  split at h
  ·cases h;simp;omega
  ·have:=ih h
   simp;omega
theorem Js (s:ByteArray) (l:List Tok):((tk s l).isSome,(tk s l).getD l,())=((iQ s l).1,(iQ s l).2,()):=by
 unfold iQ
 cases tk s l<;>rfl
theorem zX {s:ByteArray} {l:List Tok} (h:tk s l=none):iQ s l=(false,l):=by unfold iQ;rw [h]
theorem zY {s:ByteArray} {l r:List Tok} (h:tk s l=some r):iQ s l=(true,r):=by unfold iQ;rw [h]
theorem rI (l : List Tok) (hl : kA l) : aw.F (l,()) = some (res (fun x r => (x.1,x.2.1,x.2.2.1,x.2.2.2.1,x.2.2.2.2.1,x.2.2.2.2.2,r,())) (gQ l)) := by
  rw [aw.eq]
  unfold aw.B
  simp only [tL l hl.1,Option.bind_some,gQ]
  cases h1:ii l with
  |none=>rfl
  |some y=>
    have hy:=hl.suf (iy h1)
    simp only [ey,Option.bind_some,zR _ (show [(⟨#[98,111,111,108]⟩:ByteArray),(⟨#[105,110,116]⟩:ByteArray),(⟨#[116,101,120,116]⟩:ByteArray)].length<1000 by decide) y.2 hy.1]
    cases h2:gH 0 kinds y.2 with
    |none=>rfl
    |some z=>
      have hz:=hy.suf (iR h2)
      have hb:=EI h2
      have hb2:z.1<0+3:=hb.2
      have hw:IntKind.i64.wrap ((1:Int)+z.1)=1+z.1:=by rw [dl]<;>omega
      have hu:=hz.suf (sY (⟨#[110,117,108,108]⟩:ByteArray) z.2)
      have hv:=hu.suf (sY (⟨#[117,110,105,113,117,101]⟩:ByteArray) (iQ (⟨#[110,117,108,108]⟩:ByteArray) z.2).2)
      simp only [ey,hw,eS _ z.2 hz.1,Js,Option.bind_some,eS _ _ hu.1,eS _ _ hv.1]
      unfold Ch
      cases h3:tk (⟨#[114,101,102]⟩:ByteArray) (iQ (⟨#[117,110,105,113,117,101]⟩:ByteArray) (iQ (⟨#[110,117,108,108]⟩:ByteArray) z.2).2).2 with
      |none=>
        have hf:iQ (⟨#[114,101,102]⟩:ByteArray) (iQ (⟨#[117,110,105,113,117,101]⟩:ByteArray) (iQ (⟨#[110,117,108,108]⟩:ByteArray) z.2).2).2=(false,(iQ (⟨#[117,110,105,113,117,101]⟩:ByteArray) (iQ (⟨#[110,117,108,108]⟩:ByteArray) z.2).2).2):=by
          exact zX h3
        simp only [hf]
        rfl
      |some r=>
        have hr:=hv.suf (eL h3)
        have hf:iQ (⟨#[114,101,102]⟩:ByteArray) (iQ (⟨#[117,110,105,113,117,101]⟩:ByteArray) (iQ (⟨#[110,117,108,108]⟩:ByteArray) z.2).2).2=(true,r):=by
          exact zY h3
        simp only [hf,cond_true,tL r hr.1,Option.bind_some]
        cases h4:ii r with
        |none=>rfl
        |some a=>
          have ha:=hr.suf (iy h4)
          simp only [ey,zR _ (show [(⟨#[114,101,115,116,114,105,99,116]⟩:ByteArray),(⟨#[99,97,115,99,97,100,101]⟩:ByteArray),(⟨#[115,101,116,110,117,108,108]⟩:ByteArray)].length<1000 by decide) a.2 ha.1,Option.bind_some]
          cases gH 0 yj a.2<;>rfl
def nG {α : Type} (p : List Tok → Option (α × List Tok)) (n : Nat) (l : List Tok) : Option (List α × List Tok) := match tk (⟨#[44]⟩ : ByteArray) l with
  |none=>some ([],l)
  |some r=>match n with
    |0=>none
    |n+1=>lA p n r
theorem qq {α:Type} (p:List Tok→Option (α×List Tok)) (n:Nat) (l:List Tok):lA p n l=(p l).bind fun x=>(nG p n x.2).map fun y=>(x.1::y.1,y.2):=by
 cases n with
 |zero=>
  rw [lA]
  cases p l with
  |none=>rfl
  |some x=>simp only [Option.bind_some,nG];cases tk (⟨#[44]⟩:ByteArray) x.2<;>rfl
 |succ n=>
  rw [lA]
  cases p l with
  |none=>rfl
  |some x=>simp only [Option.bind_some,nG];cases tk (⟨#[44]⟩:ByteArray) x.2<;>rfl
theorem HQ {α:Type} {p:List Tok→Option (α×List Tok)} (hp:∀{l x},p l=some x→x.2<:+l):∀{n:Nat} {l:List Tok} {x},lA p n l=some x→x.2<:+l:=by
 intro n
 induction n with
 |zero=>
  intro l x h
  rw [lA] at h
  simp only [Option.bind_eq_some_iff] at h
  obtain ⟨y,hy,h⟩:=h
  split at h
  ·cases h;exact hp hy
  ·cases h
 |succ n ih=>
  intro l x h
  rw [lA] at h
  simp only [Option.bind_eq_some_iff] at h
  obtain ⟨y,hy,h⟩:=h
  split at h
  ·cases h;exact hp hy
  ·rename_i r hr
   simp only [Option.map_eq_some_iff] at h
   obtain ⟨z,hz,rfl⟩:=h
   exact ((ih hz).trans (eL hr)).trans (hp hy)
theorem rJ {α S R : Type} {body : S → Option (S ⊕ R)} (p : List Tok → Option (α × List Tok)) (hp : ∀ {l x},p l = some x → x.2 <:+ l) (mk : Int → List α → List Tok → S) (fin : List α → List Tok → Option R) (bad : R)
    (h0:∀(k:Nat) acc l,k≤40→acc.length≤k→kA l→tk (⟨#[44]⟩:ByteArray) l=none→body (mk k acc l)=Option.map Sum.inr (fin acc l))
    (h1:∀acc l r,acc.length≤40→kA l→tk (⟨#[44]⟩:ByteArray) l=some r→body (mk 40 acc l)=some (.inr bad))
    (h2:∀(k:Nat) acc l r,k<40→acc.length≤k→kA l→tk (⟨#[44]⟩:ByteArray) l=some r→p r=none→body (mk k acc l)=some (.inr bad))
    (h3:∀(k:Nat) acc l r x,k<40→acc.length≤k→kA l→tk (⟨#[44]⟩:ByteArray) l=some r→p r=some x→body (mk k acc l)=some (.inl (mk (k+1:Nat) (acc++ [x.1]) x.2))):
    ∀ (n k : Nat),n + k = 40 → ∀ acc l,acc.length ≤ k → kA l → bE body (mk k acc l) = match nG p n l with
      |some y=>fin (acc++y.1) y.2
      |none=>some bad:=by
  intro n
  induction n with
  |zero=>
    intro k hk acc l ha hl
    have:k=40:=by omega
    subst this
    rw [ej]
    unfold nG
    cases h:tk (⟨#[44]⟩:ByteArray) l with
    |none=>
      rw [h0 40 acc l (by omega) ha hl h]
      simp only [List.append_nil]
      cases fin acc l<;>rfl
    |some r=>
      have:=h1 acc l r ha hl h
      rw [show ((40:Nat):Int)=40 from rfl,this]
  |succ n ih=>
    intro k hk acc l ha hl
    rw [ej]
    unfold nG
    cases h:tk (⟨#[44]⟩:ByteArray) l with
    |none=>
      rw [h0 k acc l (by omega) ha hl h]
      simp only [List.append_nil]
      cases fin acc l<;>rfl
    |some r=>
      simp only
      rw [qq]
      cases hx:p r with
      |none=>rw [h2 k acc l r (by omega) ha hl h hx];rfl
      |some x=>
        rw [h3 k acc l r x (by omega) ha hl h hx]
        simp only [Option.bind_some]
        rw [ih (k+1) (by omega) _ _ (by simp;omega) (hl.suf ((hp hx).trans (eL h)))]
        cases nG p n x.2 with
        |none=>rfl
        |some y=>simp
theorem rK (n:Nat) (l:List Tok):ij n l=match tk (⟨#[99,104,101,99,107]⟩:ByteArray) l with
 |none=>some ([],l)
 |some r=>match n with
  |0=>none
  |n+1=>(jy r).bind fun x=>(ij n x.2).map fun y=>(x.1::y.1,y.2):=by rw [ij.eq_def];try (cases n<;>rfl)
theorem Jt      (l : List Tok) (hl : kA l) : aM.F (l,()) = some (res (fun x r => (x.1,r,x.2.1,x.2.2,())) (ll l)) := by
  rw [aM.eq]
  unfold aM.B
  simp only [rj,rz,og,tL l hl.1,Option.bind_some,ll]
  cases h1:ii l with
  |none=>rfl
  |some y=>
    have hy:=hl.suf (iy h1)
    simp only [ey,Option.bind_some,eS _ y.2 hy.1,lq]
    cases h2:tk (⟨#[40]⟩:ByteArray) y.2 with
    |none=>rfl
    |some r=>
      have hr:=hy.suf (eL h2)
      simp only [Option.isSome_some,cond_true,Option.getD_some,Option.bind_some,rI r hr]
      rw [qq]
      cases h3:gQ r with
      |none=>rfl
      |some c=>
        have hc:=hr.suf (uQ h3)
        have d1:Nat.ble [(c.1.1,(c.1.2.1,(c.1.2.2.1,(c.1.2.2.2.1,(c.1.2.2.2.2.1,c.1.2.2.2.2.2)))))].length 2513169434916=true:=by rw [Nat.ble_eq];simp
        simp only [ey,Option.bind_some]
        rw [d1]
        simp only [cond_true,Option.bind_some]
        refine (rJ gQ uQ (mk:=fun n acc l=>(n,y.1,acc,[],l,())) (fin:=fun acc l=>some (res (fun x r=>(y.1,r,acc,x,())) ((tk (⟨#[41]⟩:ByteArray) l).bind fun l=>ij 40 l))) (bad:=.inr 70) ?_ ?_ ?_ ?_ 39 1 rfl [c.1] c.2 (by simp) hc).trans ?_
        · intro k acc q hk ha hq hn
          simp only [eS _ q hq.1,Option.bind_some,hn,Option.isSome_none,cond_false,Option.getD_none]
          cases h5:tk (⟨#[41]⟩:ByteArray) q with
          |none=>rfl
          |some v=>
            have hv:=hq.suf (eL h5)
            simp only [Option.isSome_some,cond_true,Option.getD_some,Option.bind_some]
            rw [fb (S:=(List bH)×ByteArray×(List ba)×(List (List ae))×Unit) (m:=fun x=>200-x.2.2.2.1.length) (I:=fun x=>x.2.1=y.1∧x.2.2.1=acc∧x.2.2.2.1.length≤40∧kA x.1)
              (f:=fun x=>match ij (40-x.2.2.2.1.length) x.1 with|some z=> .inl (z.2,y.1,acc,x.2.2.2.1++z.1,())|none=> .inr (.inr 70)) ?_ _ ⟨rfl,rfl,by simp,hv⟩]
            · simp only [List.length_nil,Option.bind_some]
              cases ij 40 v<;>rfl
            · rintro ⟨q',n',c',out,⟨⟩⟩ ⟨hn',hc',ho,hq'⟩
              simp only at hn' hc' ho hq'
              subst hn'
              subst hc'
              simp only [eS _ q' hq'.1,Option.bind_some]
              rw [rK]
              cases h6:tk (⟨#[99,104,101,99,107]⟩:ByteArray) q' with
              |none=>
                right
                simp
              |some r'=>
                have hr':=hq'.suf (eL h6)
                simp only [Option.isSome_some,cond_true,Option.getD_some,HO r' hr',Option.bind_some]
                cases h7:jy r' with
                |none=>
                  right
                  simp only [sX,Option.bind_some]
                  cases h3:40-out.length with
                  |zero=>rfl
                  |succ n=>rfl
                |some e=>
                  have d2:Nat.ble (out.length+ [e.1].length) 5864062014805=true:=by rw [Nat.ble_eq];simp;omega
                  simp only [ey]
                  rw [d2]
                  simp only [cond_true,Option.bind_some]
                  cases h3:40-out.length with
                  |zero=>
                    right
                    have:decide (((out++ [e.1]).length:Int)≤(40:Int))=false:=by simp;omega
                    simp only [this,cond_false]
                  |succ n=>
                    left
                    have:decide (((out++ [e.1]).length:Int)≤(40:Int))=true:=by simp;omega
                    simp only [this,cond_true]
                    refine ⟨_,rfl,⟨rfl,rfl,by simp;omega,hr'.suf (zW h7)⟩,by simp;omega,?_⟩
                    simp only [List.length_append,List.length_singleton]
                    rw [show 40-(out.length+1)=n by omega]
                    cases ij n e.2<;>simp
        · intro acc q r hk ha hq
          simp only [eS _ q ha.1,Option.bind_some,hq,Option.isSome_some,cond_true]
          rfl
        · intro k acc q r hk ha hq hr hx
          have hq2:=hq.suf (eL hr)
          have d2:decide (((k+1:Nat):Int)≤(40:Int))=true:=by simp;omega
          simp only [eS _ q hq.1,Option.bind_some,hr,Option.isSome_some,cond_true,Option.getD_some,cw (show k<40 by omega) (by decide),d2,rI r hq2,hx,sX]
        · intro k acc q r x hk ha hq hr hx
          have hq2:=hq.suf (eL hr)
          have d2:decide (((k+1:Nat):Int)≤(40:Int))=true:=by simp;omega
          have d3:Nat.ble (acc.length+ [(x.1.1,(x.1.2.1,(x.1.2.2.1,(x.1.2.2.2.1,(x.1.2.2.2.2.1,x.1.2.2.2.2.2)))))].length) 2513169434916=true:=by rw [Nat.ble_eq];simp;omega
          simp only [eS _ q hq.1,Option.bind_some,hr,Option.isSome_some,cond_true,Option.getD_some,cw (show k<40 by omega) (by decide),d2,rI r hq2,hx,ey]
          rw [d3]
          rfl
        · cases nG gQ 39 c.2 with
          |none=>rfl
          |some u=>
            simp only [Option.map_some,Option.bind_some,List.cons_append,List.nil_append]
            cases tk (⟨#[41]⟩:ByteArray) u.2 with
            |none=>rfl
            |some v=>simp only [Option.bind_some];cases ij 40 v<;>rfl
end Go.Proofs.Ytleadolkcmagfaa
end
section
namespace Go.Proofs.Ytleadolkcmagfaa
open Go Lv Go.Proofs Go.RowKit Go.Shelf Dl
theorem cT {α β:Type} {x:Option α} {K:α→Option β} (v:α) (h:x=some v):x.bind K=K v:=by rw [h];rfl
theorem F1 {l:List Tok} {x} (h:mz l=some x):x.2<:+l:=by
 unfold mz at h
 split at h
 ·cases h;exact List.suffix_refl _
 ·rename_i r hr
  simp only [Option.bind_eq_some_iff,Option.map_eq_some_iff] at h
  obtain ⟨y,hy,r2,hr2,a,ha,r3,hr3,b,hb,rfl⟩:=h
  exact (((((lr hb).trans (eL hr3)).trans (lr ha)).trans (eL hr2)).trans (iy hy)).trans (eL hr)
theorem DJ {l:List Tok} {x} (h:jD l=some x):x.2<:+l:=by
 unfold jD at h
 split at h
 ·cases h;exact List.suffix_refl _
 ·rename_i r hr
  exact (zW h).trans (eL hr)
theorem F2 {l:List Tok} {x} (h:rf l=some x):x.2<:+l:=by
 unfold rf at h
 split at h
 ·cases h;exact List.suffix_refl _
 ·exact HQ lr h
theorem Cv {l:List Tok} {x} (h:mJ l=some x):x.2<:+l:=by
 simp only [mJ,Option.bind_eq_some_iff] at h
 obtain ⟨y,hy,h⟩:=h
 split at h
 ·cases h;exact iR hy
 ·simp only [Option.map_eq_some_iff] at h
  obtain ⟨z,hz,rfl⟩:=h
  exact (lr hz).trans (iR hy)
theorem KQ (    l : List Tok) (hl : kA l) : aU.F (l,()) = some (res (fun x r => (x.1,x.2.1,x.2.2.1,x.2.2.2.1.1,x.2.2.2.1.2,x.2.2.2.2.2.2.1,r,x.2.2.2.2.1,x.2.2.2.2.2.1,x.2.2.2.2.2.2.2,())) (nz l)) := by
  rw [aU.eq]
  unfold aU.B
  simp only [rj,rz,og,tL l hl.1,Option.bind_some,nz]
  cases h1:ii l with
  |none=>rfl
  |some y=>
    have hy:=hl.suf (iy h1)
    simp only [ey,Option.bind_some,eS _ y.2 hy.1,lq]
    cases h2:tk (⟨#[102,114,111,109]⟩:ByteArray) y.2 with
    |none=>rfl
    |some r=>
      have hr:=hy.suf (eL h2)
      simp only [Option.isSome_some,cond_true,Option.getD_some,Option.bind_some,tL r hr.1]
      cases h3:ii r with
      |none=>rfl
      |some f=>
        have hf:=hr.suf (iy h3)
        simp only [ey,Option.bind_some]
        refine (cT (match mz f.2 with|some j=> .inl (j.2,y.1,f.1,j.1.1,j.1.2.1,j.1.2.2,false,[],[],[],())|none=> .inr (.inr 70)) ?_).trans ?_
        · simp only [eS _ f.2 hf.1,Option.bind_some]
          unfold mz
          cases h4:tk (⟨#[106,111,105,110]⟩:ByteArray) f.2 with
          |none=>rfl
          |some q=>
            have hq:=hf.suf (eL h4)
            simp only [Option.isSome_some,cond_true,Option.getD_some,Option.bind_some,tL q hq.1]
            cases h5:ii q with
            |none=>rfl
            |some n=>
              have hn:=hq.suf (iy h5)
              simp only [ey,Option.bind_some,eS _ n.2 hn.1]
              cases h6:tk (⟨#[111,110]⟩:ByteArray) n.2 with
              |none=>rfl
              |some u=>
                have hu:=hn.suf (eL h6)
                simp only [Option.isSome_some,cond_true,Option.getD_some,Option.bind_some,uP u hu.1]
                cases h7:kc u with
                |none=>rfl
                |some a=>
                  have ha:=hu.suf (lr h7)
                  have d0:(decide (0≤(0:Int))&&decide ((0:Int)<(2:Int)))=true:=by decide
                  have d1:(decide (0≤(1:Int))&&decide ((1:Int)<(2:Int)))=true:=by decide
                  simp only [ey,Option.bind_some,eS _ a.2 ha.1,d0,cond_true]
                  cases h8:tk (⟨#[61]⟩:ByteArray) a.2 with
                  |none=>rfl
                  |some e=>
                    have he:=ha.suf (eL h8)
                    simp only [Option.isSome_some,cond_true,Option.getD_some,Option.bind_some,uP e he.1]
                    cases h9:kc e with
                    |none=>rfl
                    |some b=>simp only [ey,Option.bind_some,d1,cond_true,Option.map_some]
        cases h4:mz f.2 with
        |none=>rfl
        |some j=>
          have hj:=hf.suf (F1 h4)
          simp only [Option.bind_some]
          refine (cT (match jD j.2 with|some w=> .inl (w.2,y.1,f.1,j.1.1,j.1.2.1,j.1.2.2,false,w.1,[],[],())|none=> .inr (.inr 70)) ?_).trans ?_
          · simp only [eS _ j.2 hj.1,Option.bind_some]
            unfold jD
            cases h5:tk (⟨#[119,104,101,114,101]⟩:ByteArray) j.2 with
            |none=>rfl
            |some q=>
              have hq:=hj.suf (eL h5)
              simp only [Option.isSome_some,cond_true,Option.getD_some,Option.bind_some,HO q hq]
              cases jy q<;>rfl
          cases h5:jD j.2 with
          |none=>rfl
          |some w=>
            have hw:=hj.suf (DJ h5)
            simp only [Option.bind_some,eS _ w.2 hw.1]
            cases h6:tk (⟨#[112,105,99,107]⟩:ByteArray) w.2 with
            |none=>rfl
            |some q=>
              have hq:=hw.suf (eL h6)
              simp only [Option.isSome_some,cond_true,Option.getD_some,Option.bind_some]
              refine (cT (match rf q with|some p=> .inl (p.2,y.1,f.1,j.1.1,j.1.2.1,j.1.2.2,false,w.1,p.1,[],())|none=> .inr (.inr 70)) ?_).trans ?_
              · unfold rf
                cases q with
                |nil=>rfl
                |cons t q'=>
                  have d1:decide (((t::q').length:Int)>(0:Int))=true:=by rw [decide_eq_true_eq];simp only [List.length_cons];omega
                  simp only [d1,cond_true,is_s _ (t::q') hq.1,Option.bind_some]
                  cases h7:tk (⟨#[103,114,111,117,112]⟩:ByteArray) (t::q') with
                  |some u=>rfl
                  |none=>
                    rw [if_neg (by simp),qq]
                    simp only [Option.isSome_none,Bool.not_false,cond_true,uP (t::q') hq.1,Option.bind_some]
                    cases h8:kc (t::q') with
                    |none=>rfl
                    |some a=>
                      have ha:=hq.suf (lr h8)
                      have d2:Nat.ble (([]:List Int).length+ [a.1].length) 17592186044416=true:=by rw [Nat.ble_eq];simp
                      simp only [ey]
                      rw [d2]
                      simp only [cond_true,Option.bind_some,List.nil_append]
                      refine (rJ kc lr (mk:=fun n acc l=>(n,y.1,f.1,j.1.1,j.1.2.1,j.1.2.2,false,w.1,acc,[],l,())) (fin:=fun acc l=>some (.inl (l,y.1,f.1,j.1.1,j.1.2.1,j.1.2.2,false,w.1,acc,[],()))) (bad:=.inr (.inr 70)) ?_ ?_ ?_ ?_ 39 1 rfl [a.1] a.2 (by simp) ha).trans ?_
                      · intro k acc q hk ha hq hn
                        simp only [eS _ q hq.1,Option.bind_some,hn,Option.isSome_none,cond_false,Option.getD_none,Option.map_some]
                      · intro acc q r hk ha hq
                        simp only [eS _ q ha.1,Option.bind_some,hq,Option.isSome_some,cond_true]
                        rfl
                      · intro k acc q r hk ha hq hr hx
                        have hq2:=hq.suf (eL hr)
                        have d2:decide (((k+1:Nat):Int)≤(40:Int))=true:=by simp;omega
                        simp only [eS _ q hq.1,Option.bind_some,hr,Option.isSome_some,cond_true,Option.getD_some,cw (show k<40 by omega) (by decide),d2,uP r hq2.1,hx,sX]
                      · intro k acc q r x hk ha hq hr hx
                        have hq2:=hq.suf (eL hr)
                        have d2:decide (((k+1:Nat):Int)≤(40:Int))=true:=by simp;omega
                        have d3:Nat.ble (acc.length+ [x.1].length) 17592186044416=true:=by rw [Nat.ble_eq];simp;omega
                        simp only [eS _ q hq.1,Option.bind_some,hr,Option.isSome_some,cond_true,Option.getD_some,cw (show k<40 by omega) (by decide),d2,uP r hq2.1,hx,ey]
                        rw [d3]
                        rfl
                      · cases nG kc 39 a.2 with
                        |none=>rfl
                        |some u=>rfl
              cases h7:rf q with
              |none=>rfl
              |some p=>
                have hp:=hq.suf (F2 h7)
                simp only [Option.bind_some,eS _ p.2 hp.1]
                unfold tF
                cases h8:tk (⟨#[103,114,111,117,112]⟩:ByteArray) p.2 with
                |none=>rfl
                |some g=>
                  have hg:=hp.suf (eL h8)
                  simp only [Option.isSome_some,cond_true,Option.getD_some]
                  cases g with
                  |nil=>rfl
                  | cons t g' =>
                    have d1:decide (((t::g').length:Int)>(0:Int))=true:=by rw [decide_eq_true_eq];simp only [List.length_cons];omega
                    rw [if_neg (by simp),qq]
                    simp only [d1,cond_true]
                    refine (cT (match mJ (t::g') with|some a=> .inl (y.1,f.1,j.1.1,j.1.2.1,j.1.2.2,true,w.1,p.1,[a.1],a.2,())|none=> .inr (.inr 70)) ?_).trans ?_
                    · simp only [zR _ (show [(⟨#[99,111,117,110,116]⟩:ByteArray),(⟨#[115,117,109]⟩:ByteArray),(⟨#[109,105,110]⟩:ByteArray),(⟨#[109,97,120]⟩:ByteArray)].length<1000 by decide) (t::g') hg.1,Option.bind_some,mJ]
                      cases h9:gH 0 fns (t::g') with
                      |none=>rfl
                      |some a=>
                        have ha:=hg.suf (iR h9)
                        simp only [ey,Option.bind_some]
                        by_cases h0:a.1=0
                        · have b0:(a.1 !=(0:Int))=false:=by simp [h0]
                          simp only [b0,cond_false,h0,if_true]
                          rfl
                        · have b0:(a.1 !=(0:Int))=true:=by simp [h0]
                          simp only [b0,cond_true,if_neg h0,uP a.2 ha.1,Option.bind_some]
                          cases kc a.2<;>rfl
                    cases h9:mJ (t::g') with
                    |none=>rfl
                    |some a=>
                      have ha:=hg.suf (Cv h9)
                      simp only [Option.bind_some]
                      refine (rJ mJ Cv (mk:=fun n acc l=>(n,y.1,f.1,j.1.1,j.1.2.1,j.1.2.2,true,w.1,p.1,acc,l,())) (fin:=fun acc l=>some (.inl (y.1,f.1,j.1.1,j.1.2.1,j.1.2.2,true,l,w.1,p.1,acc,()))) (bad:=.inr 70) ?_ ?_ ?_ ?_ 39 1 rfl [a.1] a.2 (by simp) ha).trans ?_
                      · intro k acc q hk ha hq hn
                        simp only [eS _ q hq.1,Option.bind_some,hn,Option.isSome_none,cond_false,Option.getD_none,Option.map_some]
                      · intro acc q r hk ha hq
                        simp only [eS _ q ha.1,Option.bind_some,hq,Option.isSome_some,cond_true]
                        rfl
                      · intro k acc q r hk ha hq hr hx
                        have hq2:=hq.suf (eL hr)
                        have d2:decide (((k+1:Nat):Int)≤(40:Int))=true:=by simp;omega
                        simp only [eS _ q hq.1,Option.bind_some,hr,Option.isSome_some,cond_true,Option.getD_some,cw (show k<40 by omega) (by decide),d2,zR _ (show [(⟨#[99,111,117,110,116]⟩:ByteArray),(⟨#[115,117,109]⟩:ByteArray),(⟨#[109,105,110]⟩:ByteArray),(⟨#[109,97,120]⟩:ByteArray)].length<1000 by decide) r hq2.1]
                        unfold mJ at hx
                        cases h9:gH 0 fns r with
                        |none=>rfl
                        |some a=>
                          have ha:=hq2.suf (iR h9)
                          rw [h9] at hx
                          simp only [Option.bind_some] at hx
                          simp only [ey]
                          by_cases h0:a.1=0
                          · rw [if_pos h0] at hx;cases hx
                          · have b0:(a.1 !=(0:Int))=true:=by simp [h0]
                            rw [if_neg h0] at hx
                            simp only [b0,cond_true,uP a.2 ha.1,Option.bind_some]
                            cases h10:kc a.2 with
                            |none=>rfl
                            |some z=>rw [h10] at hx;cases hx
                      · intro k acc q r x hk ha' hq hr hx
                        have hq2:=hq.suf (eL hr)
                        have d2:decide (((k+1:Nat):Int)≤(40:Int))=true:=by simp;omega
                        have d3:∀z:Agg,Nat.ble (acc.length+ [z].length) 8796093022208=true:=fun z=>by rw [Nat.ble_eq];simp;omega
                        simp only [eS _ q hq.1,Option.bind_some,hr,Option.isSome_some,cond_true,Option.getD_some,cw (show k<40 by omega) (by decide),d2,zR _ (show [(⟨#[99,111,117,110,116]⟩:ByteArray),(⟨#[115,117,109]⟩:ByteArray),(⟨#[109,105,110]⟩:ByteArray),(⟨#[109,97,120]⟩:ByteArray)].length<1000 by decide) r hq2.1]
                        unfold mJ at hx
                        cases h9:gH 0 fns r with
                        |none=>rw [h9] at hx;cases hx
                        |some a=>
                          have ha:=hq2.suf (iR h9)
                          rw [h9] at hx
                          simp only [Option.bind_some] at hx
                          simp only [ey]
                          by_cases h0:a.1=0
                          · rw [if_pos h0] at hx;cases hx
                            have b0:(a.1 !=(0:Int))=false:=by simp [h0]
                            simp only [b0,cond_false]
                            rw [d3]
                            simp only [cond_true,h0]
                          · have b0:(a.1 !=(0:Int))=true:=by simp [h0]
                            rw [if_neg h0] at hx
                            simp only [b0,cond_true,uP a.2 ha.1,Option.bind_some]
                            cases h10:kc a.2 with
                            |none=>rw [h10] at hx;cases hx
                            |some z=>
                              rw [h10] at hx;cases hx
                              simp only [ey]
                              rw [d3]
                              simp only [cond_true]
                      · cases nG mJ 39 a.2 with
                        |none=>rfl
                        |some u=>rfl
def EJ (x:Dl.Def×Int):Int×ByteArray×ByteArray×ByteArray×ByteArray×Int×Int×Bool×Int×(List ba)×(List (List ae))×(List ae)×(List Int)×(List ct)×Unit:=
 (x.1.1,x.1.2.1.1,x.1.2.2.1,x.1.2.2.2.1,x.1.2.2.2.2.1,x.1.2.2.2.2.2.1.1,x.1.2.2.2.2.2.1.2,x.1.2.2.2.2.2.2.2.2.1,x.2,x.1.2.1.2.1,x.1.2.1.2.2,x.1.2.2.2.2.2.2.1,x.1.2.2.2.2.2.2.2.1,x.1.2.2.2.2.2.2.2.2.2,())
theorem Ju (x:List Tok):x.length≤xh x:=by
 induction x with
 |nil=>simp
 |cons t x ih=>simp only [xh,List.map_cons,List.sum_cons,List.length_cons] at ih ⊢;omega
theorem Cw {t:Tok} (h:i7 t):t.2.1.size≤30:=by
 cases h with
 |@word w h=>
  show (bs w).size≤30
  rw [cQ]
  cases w with
  |nil=>simp
  |cons c w=>simp only [gB,Bool.and_eq_true,decide_eq_true_eq] at h;exact h.2
 |@sign c h=>show (bs [c]).size≤30;rw [cQ];simp
 |num _ _=>show e0.size≤30;decide
 |text _=>show e0.size≤30;decide
theorem HR {s:List UInt8} (hs:s.length≤20000) {l:List Tok} (h:jB s=some l):kA l:=by
 obtain ⟨h1,h2⟩:=AM _ s (Nat.le_refl _) l h
 have:=Ju l
 exact ⟨by omega,fun t ht=>by have:=Cw (h1 t ht);omega⟩
theorem len0 {α:Type} (l:List α):((l.length:Int)==(0:Int))=decide (l=[]):=by
 cases l with
 |nil=>rfl
 |cons a l=>simp;omega
theorem Jv (s : ByteArray) : cj.F (s,()) = some (EJ (ke s.data.toList)) := by
  rw [cj.eq]
  unfold cj.B
  simp only [lex_s,Option.bind_some,ke]
  have hsz:s.data.toList.length=s.size:=rfl
  rw [hsz]
  by_cases hb:20000<s.size
  · rw [if_pos hb,if_pos hb];rfl
  · rw [if_neg hb,if_neg hb]
    cases h1:jB s.data.toList with
    |none=>rfl
    |some l=>
      have hl:=HR (s:=s.data.toList) (by rw [hsz];omega) h1
      simp only [tJ,List.nil_append,zR _ (show [(⟨#[116,97,98,108,101]⟩:ByteArray),(⟨#[118,105,101,119]⟩:ByteArray)].length<1000 by decide) l hl.1,lm,Dt]
      cases h2:gH 0 [(⟨#[116,97,98,108,101]⟩:ByteArray),(⟨#[118,105,101,119]⟩:ByteArray)] l with
      |none=>rfl
      |some y=>
        have hy:=hl.suf (iR h2)
        simp only [ey,Option.bind_some,lq,len0]
        by_cases h0:y.1=0
        · have b0:(y.1==(0:Int))=true:=by simp [h0]
          simp only [b0,cond_true,if_pos h0,Jt y.2 hy,Option.bind_some,bne_self_eq_false]
          cases h3:ll y.2 with
          |none=>rfl
          |some z=>
            simp only [ey,Option.map_some,Option.bind_some]
            by_cases h4:z.2=[]
            · simp only [h4,decide_true,cond_true,if_true,h0];rfl
            · simp only [h4,decide_false,cond_false,if_false];rfl
        · have b0:(y.1==(0:Int))=false:=by simp [h0]
          simp only [b0,cond_false,if_neg h0,KQ y.2 hy,Option.bind_some,bne_self_eq_false]
          cases h3:nz y.2 with
          |none=>rfl
          |some z=>
            simp only [ey,Option.map_some,Option.bind_some]
            by_cases h4:z.2=[]
            · simp only [h4,decide_true,cond_true,if_true];rfl
            · simp only [h4,decide_false,cond_false,if_false];rfl
end Go.Proofs.Ytleadolkcmagfaa
end
section
namespace Go.Proofs.Ytleadolkcmagfaa
open Go Lv Go.Proofs Go.RowKit Go.Shelf Dl
def eqF {α R:Type} [DecidableEq α] (tt ff:R) (x y:List α):R:=if x=y then tt else ff
theorem jq {α R : Type} [DecidableEq α] (a b : List α) (hl : a.length = b.length) (ha : a.length < 4611686018427387904) {body : Int × Unit → Option ((Int × Unit) ⊕ R)} (tt ff : R)
    (h1:∀(i:Nat) (hi:i<a.length),body ((i:Int),())=some (if a[i]=b[i]'(by omega) then .inl (((i+1:Nat):Int),()) else .inr ff))
    (h2:body ((a.length:Int),())=some (.inr tt)):bE body ((0:Int),())=some (if a=b then tt else ff):=by
  rw [fb (m:=fun x=>a.length-x.1.toNat) (I:=fun x=>∃k:Nat,x.1=(k:Int)∧k≤a.length) (f:=fun x=>eqF tt ff (a.drop x.1.toNat) (b.drop x.1.toNat)) ?_ _ ⟨0,rfl,by omega⟩]
  · simp [eqF]
  · rintro ⟨x,⟨⟩⟩ ⟨k,hk,hle⟩
    simp only at hk
    subst hk
    simp only [Int.toNat_natCast]
    by_cases hlt:k<a.length
    · rw [h1 k hlt,List.drop_eq_getElem_cons hlt,List.drop_eq_getElem_cons (show k<b.length by omega)]
      by_cases he:a[k]=b[k]'(by omega)
      · left
        rw [if_pos he]
        refine ⟨_,rfl,⟨k+1,rfl,by omega⟩,by simp only [Int.toNat_natCast];omega,?_⟩
        simp only [Int.toNat_natCast,eqF,List.cons.injEq,he,true_and]
      · right
        rw [if_neg he];unfold eqF;rw [if_neg (fun e=>he (List.cons.inj e).1)]
    · right
      have:k=a.length:=by omega
      subst this
      rw [h2,List.drop_length,List.drop_eq_nil_of_le (by omega)];unfold eqF;rw [if_pos rfl]
theorem mL {α:Type} (a b:List α):((a.length:Int) !=(b.length:Int))= !decide (a.length=b.length):=by
 by_cases h:a.length=b.length
 ·simp [h]
 ·have:¬(a.length:Int)=(b.length:Int):=by omega
  simp [h,this,bne]
theorem EK (t:Ty) (ht:t.plain=true) [DecidableEq t.T] (x y:t.T):t.eq x y=decide (x=y):=by
 have:=Ty.eq_dec t ht x y
 by_cases h:x=y
 ·rw [this.2 h];simp [h]
 ·have h2:¬t.eq x y=true:=fun e=>h (this.1 e)
  simp [h,h2]
theorem EL (x y:ae):Ty.eq bD x y=decide (x=y):=@EK bD rfl (inferInstanceAs (DecidableEq ae)) x y
theorem zZ (x y:Col):Ty.eq bR x y=decide (x=y):=@EK bR rfl (inferInstanceAs (DecidableEq Col)) x y
theorem AU (x y:Agg):Ty.eq ei x y=decide (x=y):=@EK ei rfl (inferInstanceAs (DecidableEq Agg)) x y
theorem AV (a b:Int):(a !=b)= !decide (a=b):=by by_cases h:a=b<;>simp [h]
abbrev Ln {α:Type} (l:List α):Prop:=l.length<1000000000000000
theorem ol {α:Type} [DecidableEq α] {a b:List α} (h:¬a.length=b.length):decide (a=b)=false:=by
 rw [decide_eq_false_iff_not];exact fun e=>h (by rw [e])
theorem kG {p:Prop} [Decidable p]:(if p then ((true:Bool),()) else (false,()))=(decide p,()):=by by_cases h:p<;>simp [h]
theorem Cy (a b:List ae) (ha:Ln a):ah.F (a,b,())=some (decide (a=b),()):=by
 rw [ah.eq]
 unfold ah.B
 simp only [mL]
 by_cases hl:a.length=b.length
 ·simp only [hl,decide_true,Bool.not_true,cond_false]
  rw [jq a b hl (by omega) (true,()) (false,()) ?_ ?_,kG]
  ·intro i hi
   have d1:decide ((i:Int)<(b.length:Int))=true:=by simp;omega
   have d0:decide (0≤(i:Int))=true:=by simp
   simp only [d1,d0,Bool.and_self,cond_true,Int.toNat_natCast,bU hi,bU (show i<b.length by omega),EL,cw hi (show a.length<9223372036854775808 by omega)]
   by_cases he:a[i]=b[i]'(by omega)<;>simp [he]
  ·have d1:decide ((a.length:Int)<(b.length:Int))=false:=by simp;omega
   simp only [d1,cond_false]
 ·simp only [hl,decide_false,Bool.not_false,cond_true,ol hl]
theorem Jw (a b:List Col) (ha:Ln a):ab.F (a,b,())=some (decide (a=b),()):=by
 rw [ab.eq]
 unfold ab.B
 simp only [mL]
 by_cases hl:a.length=b.length
 ·simp only [hl,decide_true,Bool.not_true,cond_false]
  rw [jq a b hl (by omega) (true,()) (false,()) ?_ ?_,kG]
  ·intro i hi
   have d1:decide ((i:Int)<(b.length:Int))=true:=by simp;omega
   have d0:decide (0≤(i:Int))=true:=by simp
   simp only [d1,d0,Bool.and_self,cond_true,Int.toNat_natCast,bU hi,bU (show i<b.length by omega),zZ,cw hi (show a.length<9223372036854775808 by omega)]
   by_cases he:a[i]=b[i]'(by omega)<;>simp [he]
  ·have d1:decide ((a.length:Int)<(b.length:Int))=false:=by simp;omega
   simp only [d1,cond_false]
 ·simp only [hl,decide_false,Bool.not_false,cond_true,ol hl]
theorem Jx (a b:List Agg) (ha:Ln a):af.F (a,b,())=some (decide (a=b),()):=by
 rw [af.eq]
 unfold af.B
 simp only [mL]
 by_cases hl:a.length=b.length
 ·simp only [hl,decide_true,Bool.not_true,cond_false]
  rw [jq a b hl (by omega) (true,()) (false,()) ?_ ?_,kG]
  ·intro i hi
   have d1:decide ((i:Int)<(b.length:Int))=true:=by simp;omega
   have d0:decide (0≤(i:Int))=true:=by simp
   simp only [d1,d0,Bool.and_self,cond_true,Int.toNat_natCast,bU hi,bU (show i<b.length by omega),AU,cw hi (show a.length<9223372036854775808 by omega)]
   by_cases he:a[i]=b[i]'(by omega)<;>simp [he]
  ·have d1:decide ((a.length:Int)<(b.length:Int))=false:=by simp;omega
   simp only [d1,cond_false]
 ·simp only [hl,decide_false,Bool.not_false,cond_true,ol hl]
theorem Jy (a b:List Int) (ha:Ln a):ay.F (a,b,())=some (decide (a=b),()):=by
 rw [ay.eq]
 unfold ay.B
 simp only [mL]
 by_cases hl:a.length=b.length
 ·simp only [hl,decide_true,Bool.not_true,cond_false]
  rw [jq a b hl (by omega) (true,()) (false,()) ?_ ?_,kG]
  ·intro i hi
   have d1:decide ((i:Int)<(b.length:Int))=true:=by simp;omega
   have d0:decide (0≤(i:Int))=true:=by simp
   simp only [d1,d0,Bool.and_self,cond_true,Int.toNat_natCast,bU hi,bU (show i<b.length by omega),AV,cw hi (show a.length<9223372036854775808 by omega)]
   by_cases he:a[i]=b[i]'(by omega)<;>simp [he]
  ·have d1:decide ((a.length:Int)<(b.length:Int))=false:=by simp;omega
   simp only [d1,cond_false]
 ·simp only [hl,decide_false,Bool.not_false,cond_true,ol hl]
theorem Cz (a b:List ae) (ha:Ln a):dv.F (a,b,())=some (decide (a=b),()):=by
 rw [dv.eq]
 unfold dv.B
 simp only [mL]
 by_cases hl:a.length=b.length
 ·simp only [hl,decide_true,Bool.not_true,cond_false]
  rw [jq a b hl (by omega) (true,()) (false,()) ?_ ?_,kG]
  ·intro i hi
   have d1:decide ((i:Int)<(b.length:Int))=true:=by simp;omega
   have d0:decide (0≤(i:Int))=true:=by simp
   simp only [d1,d0,Bool.and_self,cond_true,Int.toNat_natCast,bU hi,bU (show i<b.length by omega),EL,cw hi (show a.length<9223372036854775808 by omega)]
   by_cases he:a[i]=b[i]'(by omega)<;>simp [he]
  ·have d1:decide ((a.length:Int)<(b.length:Int))=false:=by simp;omega
   simp only [d1,cond_false]
 ·simp only [hl,decide_false,Bool.not_false,cond_true,ol hl]
theorem EM (a b:List Int) (ha:Ln a):dx.F (a,b,())=some (decide (a=b),()):=by
 rw [dx.eq]
 unfold dx.B
 simp only [mL]
 by_cases hl:a.length=b.length
 ·simp only [hl,decide_true,Bool.not_true,cond_false]
  rw [jq a b hl (by omega) (true,()) (false,()) ?_ ?_,kG]
  ·intro i hi
   have d1:decide ((i:Int)<(b.length:Int))=true:=by simp;omega
   have d0:decide (0≤(i:Int))=true:=by simp
   simp only [d1,d0,Bool.and_self,cond_true,Int.toNat_natCast,bU hi,bU (show i<b.length by omega),AV,cw hi (show a.length<9223372036854775808 by omega)]
   by_cases he:a[i]=b[i]'(by omega)<;>simp [he]
  ·have d1:decide ((a.length:Int)<(b.length:Int))=false:=by simp;omega
   simp only [d1,cond_false]
 ·simp only [hl,decide_false,Bool.not_false,cond_true,ol hl]
theorem AW (n : ByteArray) (c : List Col) (k : List (List ae)) (n' : ByteArray) (c' : List Col) (k' : List (List ae)) (hc : Ln c) (hk : Ln k) (hkk : ∀ e ∈ k,Ln e) :
    bO.F (n,c,k,n',c',k',())=some (decide (n=n')&&(decide (c=c')&&decide (k=k')),()):=by
  rw [bO.eq]
  unfold bO.B
  simp only [mL,dY]
  by_cases hn:n=n'
  · simp only [hn,decide_true,Bool.not_true,cond_false]
    by_cases hl:c.length=c'.length
    · simp only [hl,decide_true,Bool.not_true,cond_false]
      by_cases hl2:k.length=k'.length
      · simp only [hl2,decide_true,Bool.not_true,cond_false,Option.bind_some]
        rw [jq c c' hl (by omega) (.inl ()) (.inr (false,())) ?_ ?_]
        · by_cases hcc:c=c'
          · simp only [if_pos hcc,Option.bind_some]
            rw [jq k k' hl2 (by omega) (true,()) (false,()) ?_ ?_,kG]
            · simp [hcc]
            · intro i hi
              have d1:decide ((i:Int)<(k'.length:Int))=true:=by simp;omega
              have d0:decide (0≤(i:Int))=true:=by simp
              simp only [d1,d0,Bool.and_self,cond_true,Int.toNat_natCast,bU hi,bU (show i<k'.length by omega),Cz _ _ (hkk _ (List.getElem_mem hi)),Option.bind_some,cw hi (show k.length<9223372036854775808 by omega)]
              by_cases he:k[i]=k'[i]'(by omega)<;>simp [he]
            · have d1:decide ((k.length:Int)<(k'.length:Int))=false:=by simp;omega
              simp only [d1,cond_false]
          · simp only [if_neg hcc,Option.bind_some]
            simp [hcc]
        · intro i hi
          have d1:decide ((i:Int)<(c'.length:Int))=true:=by simp;omega
          have d0:decide (0≤(i:Int))=true:=by simp
          simp only [d1,d0,Bool.and_self,cond_true,Int.toNat_natCast,bU hi,bU (show i<c'.length by omega),zZ,cw hi (show c.length<9223372036854775808 by omega)]
          by_cases he:c[i]=c'[i]'(by omega)<;>simp [he]
        · have d1:decide ((c.length:Int)<(c'.length:Int))=false:=by simp;omega
          simp only [d1,cond_false]
      · simp only [hl2,decide_false,Bool.not_false,cond_true,Option.bind_some]
        have:¬k=k':=fun e=>hl2 (by rw [e])
        simp [this]
    · simp only [hl,decide_false,Bool.not_false,cond_true,Option.bind_some]
      have:¬c=c':=fun e=>hl (by rw [e])
      simp [this]
  · simp only [hn,decide_false,Bool.not_false,cond_true,Option.bind_some]
    simp [hn]
theorem CA (n f w:ByteArray) (o1 o2:Int) (wh:List ae) (p:List Int) (g:Bool) (a:List Agg) (n' f' w':ByteArray) (o1' o2':Int) (wh':List ae) (p':List Int) (g':Bool) (a':List Agg) (h1:Ln wh) (h2:Ln p) (h3:Ln a):
 ce.F (n,f,w,o1,o2,wh,p,g,a,n',f',w',o1',o2',wh',p',g',a',())=some (decide (n=n')&&(decide (f=f')&&(decide (w=w')&&(decide (((o1,o2):Agg)=(o1',o2'))&&(decide (wh=wh')&&(decide (p=p')&&(decide (g=g')&&decide (a=a'))))))),()):=by
 rw [ce.eq]
 unfold ce.B
 simp only [mL,dY,AU,Cz _ _ h1,EM _ _ h2,Option.bind_some]
 have hg:(g==g')=decide (g=g'):=by cases g<;>cases g'<;>rfl
 rw [hg]
 by_cases e1:n=n'
 case neg=>simp [e1]
 by_cases e2:f=f'
 case neg=>simp [e1,e2]
 by_cases e3:w=w'
 case neg=>simp [e1,e2,e3]
 by_cases e4:((o1,o2):Agg)=(o1',o2')
 case neg=>rw [show decide (((o1,o2):Agg)=(o1',o2'))=false from decide_eq_false e4];simp [e1,e2,e3]
 rw [show decide (((o1,o2):Agg)=(o1',o2'))=true from decide_eq_true e4]
 by_cases e5:wh=wh'
 case neg=>simp [e1,e2,e3,e5]
 by_cases e6:p=p'
 case neg=>simp [e1,e2,e3,e5,e6]
 by_cases e7:g=g'
 case neg=>simp [e1,e2,e3,e5,e6,e7]
 simp only [e1,e2,e3,e5,e6,e7,decide_true,Bool.not_true,cond_false,Option.bind_some,Bool.true_and]
 by_cases hl:a.length=a'.length
 ·simp only [hl,decide_true,Bool.not_true,cond_false]
  rw [jq a a' hl (by omega) (true,()) (false,()) ?_ ?_,kG]
  ·intro i hi
   have d1:decide ((i:Int)<(a'.length:Int))=true:=by simp;omega
   have d0:decide (0≤(i:Int))=true:=by simp
   simp only [d1,d0,Bool.and_self,cond_true,Int.toNat_natCast,bU hi,bU (show i<a'.length by omega),AU,cw hi (show a.length<9223372036854775808 by omega)]
   by_cases he:a[i]=a'[i]'(by omega)<;>simp [he]
  ·have d1:decide ((a.length:Int)<(a'.length:Int))=false:=by simp;omega
   simp only [d1,cond_false]
 ·simp only [hl,decide_false,Bool.not_false,cond_true,ol hl]
def oQ (x y:Dl.Def):Bool:=decide (x.1=y.1)&&((decide (x.2.1.1=y.2.1.1)&&(decide (x.2.1.2.1=y.2.1.2.1)&&decide (x.2.1.2.2=y.2.1.2.2)))&&
 (decide (x.2.2.1=y.2.2.1)&&(decide (x.2.2.2.1=y.2.2.2.1)&&(decide (x.2.2.2.2.1=y.2.2.2.2.1)&&(decide (x.2.2.2.2.2.1=y.2.2.2.2.2.1)&&(decide (x.2.2.2.2.2.2.1=y.2.2.2.2.2.2.1)&&(decide (x.2.2.2.2.2.2.2.1=y.2.2.2.2.2.2.2.1)&&(decide (x.2.2.2.2.2.2.2.2.1=y.2.2.2.2.2.2.2.2.1)&&decide (x.2.2.2.2.2.2.2.2.2=y.2.2.2.2.2.2.2.2.2)))))))))
theorem nH (x y:Dl.Def):oQ x y=true↔x=y:=by
 obtain ⟨a1,⟨a2,a3,a4⟩,a5,a6,a7,a8,a9,a10,a11,a12⟩:=x
 obtain ⟨b1,⟨b2,b3,b4⟩,b5,b6,b7,b8,b9,b10,b11,b12⟩:=y
 simp only [oQ,Bool.and_eq_true,decide_eq_true_eq,Prod.mk.injEq]
structure DLn (x:Dl.Def):Prop where
 cols:Ln x.2.1.2.1
 checks:Ln x.2.1.2.2
 each:∀e∈x.2.1.2.2,Ln e
 whr:Ln x.2.2.2.2.2.2.1
 pick:Ln x.2.2.2.2.2.2.2.1
 aggs:Ln x.2.2.2.2.2.2.2.2.2
theorem Jz (a1:Int) (a2:ByteArray) (a3:List Col) (a4:List (List ae)) (a5 a6 a7:ByteArray) (a8 a8':Int) (a9:List ae) (a10:List Int) (a11:Bool) (a12:List Agg) (b1:Int) (b2:ByteArray) (b3:List Col) (b4:List (List ae)) (b5 b6 b7:ByteArray) (b8 b8':Int) (b9:List ae) (b10:List Int) (b11:Bool) (b12:List Agg)
 (h:DLn (a1,((a2,(a3,a4)),(a5,(a6,(a7,((a8,a8'),(a9,(a10,(a11,a12)))))))))):
 dy.F (a1,a2,a3,a4,a5,a6,a7,a8,a8',a9,a10,a11,a12,b1,b2,b3,b4,b5,b6,b7,b8,b8',b9,b10,b11,b12,())=
  some (oQ (a1,((a2,(a3,a4)),(a5,(a6,(a7,((a8,a8'),(a9,(a10,(a11,a12))))))))) (b1,((b2,(b3,b4)),(b5,(b6,(b7,((b8,b8'),(b9,(b10,(b11,b12))))))))),()):=by
 rw [dy.eq]
 unfold dy.B
 simp only [AW a2 a3 a4 b2 b3 b4 h.cols h.checks h.each,CA a5 a6 a7 a8 a8' a9 a10 a11 a12 b5 b6 b7 b8 b8' b9 b10 b11 b12 h.whr h.pick h.aggs,Option.bind_some,oQ]
 have h0:(a1==b1)=decide (a1=b1):=by by_cases e:a1=b1<;>simp [e]
 rw [h0]
 cases decide (a1=b1)
 ·rfl
 ·simp only [cond_true,Bool.true_and]
  cases (decide (a2=b2)&&(decide (a3=b3)&&decide (a4=b4)))
  ·rfl
  ·simp only [cond_true,Bool.true_and]
theorem KR (a1 : Int) (a2 : ByteArray) (a3 : List Col) (a4 : List (List ae)) (a5 a6 a7 : ByteArray) (a8 a8' : Int) (a9 : List ae) (a10 : List Int) (a11 : Bool) (a12 : List Agg) (b1 : Int) (b2 : ByteArray) (b3 : List Col) (b4 : List (List ae)) (b5 b6 b7 : ByteArray) (b8 b8' : Int) (b9 : List ae) (b10 : List Int) (b11 : Bool) (b12 : List Agg)
    (h:DLn (a1,((a2,(a3,a4)),(a5,(a6,(a7,((a8,a8'),(a9,(a10,(a11,a12)))))))))):
    cP.F (a1,a2,a3,a4,a5,a6,a7,a8,a8',a9,a10,a11,a12,b1,b2,b3,b4,b5,b6,b7,b8,b8',b9,b10,b11,b12,())=
      some (oQ (a1,((a2,(a3,a4)),(a5,(a6,(a7,((a8,a8'),(a9,(a10,(a11,a12))))))))) (b1,((b2,(b3,b4)),(b5,(b6,(b7,((b8,b8'),(b9,(b10,(b11,b12))))))))),()):=by
  rw [cP.eq]
  unfold cP.B
  have h0:(a1==b1)=decide (a1=b1):=by by_cases e:a1=b1<;>simp [e]
  have hg:(a11==b11)=decide (a11=b11):=by cases a11<;>cases b11<;>rfl
  have tail:∀(c:Bool) {R:Type} (K:(Bool×Unit)⊕R→Option (Bool×Unit)),Option.bind (
      (bif decide (a5=b5) then (bif decide (a6=b6) then (bif decide (a7=b7) then (bif decide (((a8,a8'):Agg)=(b8,b8')) then
      (bif decide (a9=b9) then (bif decide (a10=b10) then (bif decide (a11=b11) then some (.inl (decide (a12=b12),())) else some (.inl (false,()))) else some (.inl (false,()))) else some (.inl (false,()))) else some (.inl (false,()))) else some (.inl (false,()))) else some (.inl (false,()))) else some (.inl (false,()))):Option ((Bool×Unit)⊕R)) K=
      K (.inl (decide (a5=b5)&&(decide (a6=b6)&&(decide (a7=b7)&&(decide (((a8,a8'):Agg)=(b8,b8'))&&(decide (a9=b9)&&(decide (a10=b10)&&(decide (a11=b11)&&decide (a12=b12))))))),())):=by
    intro c R K
    cases decide (a5=b5)<;>try rfl
    cases decide (a6=b6)<;>try rfl
    cases decide (a7=b7)<;>try rfl
    cases decide (((a8,a8'):Agg)=(b8,b8'))<;>try rfl
    cases decide (a9=b9)<;>try rfl
    cases decide (a10=b10)<;>try rfl
    cases decide (a11=b11)<;>rfl
  simp only [mL,dY,AU,Cy _ _ h.whr,Jy _ _ h.pick,Jx _ _ h.aggs,Jw _ _ h.cols,Option.bind_some,h0,hg]
  have col:∀(c:Bool) {R:Type} (K:(Bool×Unit)⊕R→Option (Bool×Unit)),Option.bind ((bif decide (a2=b2) then (bif decide (a3=b3) then some (.inl (c,())) else some (.inl (false,()))) else some (.inl (false,()))):Option ((Bool×Unit)⊕R)) K=
      K (.inl (decide (a2=b2)&&(decide (a3=b3)&&c),())):=by
    intro c R K
    cases decide (a2=b2)<;>try rfl
    cases decide (a3=b3)<;>rfl
  have fin:∀(x y:Bool),(bif decide (a1=b1) then (bif x then some (y,()) else some (false,())) else some (false,()):Option (Bool×Unit))=some (decide (a1=b1)&&(x&&y),()):=by
    intro x y
    cases decide (a1=b1)<;>cases x<;>rfl
  have hS:∀(a b:List ae),Ln a→cN.F (a,b,())=some (decide (a=b),()):=fun a b ha=>by
    rw [cN.eq]
    unfold cN.B
    simp only [Cy a b ha,Option.bind_some]
  by_cases hl:a4.length=b4.length
  · simp only [hl,decide_true,Bool.not_true,cond_false]
    rw [jq a4 b4 hl (by have:=h.checks;simp only at this;omega) (decide (a1=b1)&&((decide (a2=b2)&&(decide (a3=b3)&&true))&&(decide (a5=b5)&&(decide (a6=b6)&&(decide (a7=b7)&&(decide (((a8,a8'):Agg)=(b8,b8'))&&(decide (a9=b9)&&(decide (a10=b10)&&(decide (a11=b11)&&decide (a12=b12))))))))),()) (false,()) ?_ ?_]
    · simp only [oQ]
      by_cases he:a4=b4
      · simp [he]
      · simp [he]
    · intro i hi
      have hlen:=h.checks
      simp only at hlen
      have d1:decide ((i:Int)<(b4.length:Int))=true:=by simp;omega
      have d0:decide (0≤(i:Int))=true:=by simp
      simp only [d1,d0,Bool.and_self,cond_true,Int.toNat_natCast,bU hi,bU (show i<b4.length by omega),hS _ _ (h.each _ (List.getElem_mem hi)),Option.bind_some,cw hi (show a4.length<9223372036854775808 by omega)]
      by_cases he:a4[i]=b4[i]'(by omega)
      · simp only [he,decide_true,Bool.not_true,cond_false,if_true]
      · simp only [he,decide_false,Bool.not_false,cond_true,if_false]
        have cf:∀{R:Type} (K:(Bool×Unit)⊕R→Option (Bool×Unit)),Option.bind ((bif decide (a2=b2) then (bif decide (a3=b3) then some (.inl (false,())) else some (.inl (false,()))) else some (.inl (false,()))):Option ((Bool×Unit)⊕R)) K=K (.inl (false,())):=by
          intro R K
          rw [col]
          simp
        rw [cf]
        simp only []
        rw [tail false]
        simp only [cond_false]
        cases decide (a1=b1)<;>rfl
    · have d1:decide ((a4.length:Int)<(b4.length:Int))=false:=by simp;omega
      simp only [d1,cond_false]
      rw [col]
      simp only []
      rw [tail false]
      simp only [fin,Option.map_some]
  · simp only [hl,decide_false,Bool.not_false,cond_true,oQ,ol hl,Bool.and_false,Bool.false_and]
    have cf:∀{R:Type} (K:(Bool×Unit)⊕R→Option (Bool×Unit)),Option.bind ((bif decide (a2=b2) then (bif decide (a3=b3) then some (.inl (false,())) else some (.inl (false,()))) else some (.inl (false,()))):Option ((Bool×Unit)⊕R)) K=K (.inl (false,())):=by
      intro R K
      rw [col]
      simp
    rw [cf]
    simp only []
    rw [tail false]
    simp only [cond_false]
    cases decide (a1=b1)<;>rfl
end Go.Proofs.Ytleadolkcmagfaa
end
section
namespace Go.Proofs.Ytleadolkcmagfaa
open Go Lv Go.Proofs Go.RowKit Go.Shelf Dl
theorem tM (c:UInt8):cB.F ((c.toNat:Int),())=some (fm c,()):=by
 rw [cB.eq]
 unfold cB.B fm
 have i1:((c.toNat:Int)≥(97:Int))↔97≤c.toNat:=by omega
 have i2:((c.toNat:Int)≤(122:Int))↔c.toNat≤122:=by omega
 simp only [i1,i2]
 cases decide (97≤c.toNat)<;>rfl
theorem sZ (c:UInt8):cF.F ((c.toNat:Int),())=some (digit c,()):=by
 rw [cF.eq]
 unfold cF.B digit
 have i1:((c.toNat:Int)≥(48:Int))↔48≤c.toNat:=by omega
 have i2:((c.toNat:Int)≤(57:Int))↔c.toNat≤57:=by omega
 simp only [i1,i2]
 cases decide (48≤c.toNat)<;>rfl
theorem CB (c:UInt8):cR.F ((c.toNat:Int),())=some (cE c,()):=by
 rw [cR.eq]
 unfold cR.B cE
 simp only [tM,sZ,Option.bind_some]
 have e1:((c.toNat:Int)==(95:Int))=decide (c=95):=kz c 95 (by decide)
 rw [e1]
 cases fm c<;>cases digit c<;>rfl
theorem EN (b : ByteArray) (hb : b.size < 1000000000000000000) : du.F (b,()) = some (jC b,()) := by
  rw [du.eq]
  unfold du.B
  simp only []
  rw [fb (S:=Int×Unit) (m:=fun x=>b.size-x.1.toNat) (I:=fun x=>∃k:Nat,x.1=(k:Int)∧k≤b.size) (f:=fun x=>bif (lst b x.1.toNat).all cE then .inl () else .inr (false,())) ?_ _ ⟨0,rfl,by omega⟩]
  · have e0:lst b (0:Int).toNat=b.data.toList:=rfl
    rw [e0]
    unfold jC
    cases hl:b.data.toList with
    |nil=>
      have hz:b.size=0:=by show b.data.toList.length=0;rw [hl];rfl
      simp only [List.all_nil,cond_true,Option.bind_some,hz,gB]
      rfl
    |cons c l=>
      have hz:b.size=(c::l).length:=by show b.data.toList.length=_;rw [hl]
      have hst:lst b 0=c::l:=hl
      have e3:eK b 0=(c.toNat:Int):=(eu hst).2.2
      simp only [gB]
      cases ha:(c::l).all cE with
      |false=>simp
      |true=>
        have d1:decide ((b.size:Int)≥(1:Int))=true:=by rw [decide_eq_true_eq,hz];simp only [List.length_cons];omega
        have d2:(decide (0≤(0:Int))&&decide ((0:Int)<(b.size:Int)))=true:=by rw [hz];simp only [Bool.and_eq_true,decide_eq_true_eq,List.length_cons];omega
        have d3:decide ((b.size:Int)≤(30:Int))=decide ((c::l).length≤30):=by rw [hz];simp only [decide_eq_decide];omega
        simp only [cond_true,Option.bind_some,d1,d2,d3,e3,tM]
        cases decide ((c::l).length≤30)<;>simp
  · rintro ⟨x,⟨⟩⟩ ⟨k,hk,hle⟩
    simp only at hk
    subst hk
    simp only [Int.toNat_natCast]
    by_cases hlt:k<b.size
    · obtain ⟨c,r,e⟩:=mK hlt
      obtain ⟨_,e1,e2⟩:=eu e
      have d1:decide ((k:Int)<(b.size:Int))=true:=by simp;omega
      have d0:decide (0≤(k:Int))=true:=by simp
      simp only [d1,d0,Bool.and_self,cond_true,e2,CB,Option.bind_some]
      rw [e,List.all_cons]
      cases hc:cE c with
      |true=>
        left
        simp only [Bool.not_true,cond_false,cw hlt (show b.size<9223372036854775808 by omega)]
        refine ⟨_,rfl,⟨k+1,rfl,by omega⟩,by simp only [Int.toNat_natCast];omega,?_⟩
        simp only [Int.toNat_natCast,e1,Bool.true_and]
      |false=>
        right
        rfl
    · right
      have d1:decide ((k:Int)<(b.size:Int))=false:=by simp;omega
      have:lst b k=[]:=by
        have:=eO b k
        exact List.length_eq_zero_iff.1 (by omega)
      simp only [d1,cond_false,this,List.all_nil,cond_true]
theorem JA (K : List ByteArray) (hK : K.length < 1000) (b : ByteArray) : bE (S := Int × Unit) (R := Bool × Unit) (fun (x4,_) =>
  (bif (decide (x4<(K.length:Int))) then
  bif (decide (0≤x4)&&decide (x4<(K.length:Int))) then
  let e1:ByteArray:=(List.getD K (Int.toNat x4) (⟨#[]⟩:ByteArray))
  (bif (e1.toList==b.toList) then
  some (.inr (true,()))
  else
  let e2:Int:=(IntKind.i64.wrap (x4+(1:Int)))
  some (.inl (e2,())))
  else none
  else
  some (.inr (false,())))) ((0:Int),())=some (K.any fun k=>decide (k=b),()):=by
  rw [fb (S:=Int×Unit) (R:=Bool×Unit) (m:=fun x=>K.length-x.1.toNat) (I:=fun x=>∃k:Nat,x.1=(k:Int)∧k≤K.length) (f:=fun x=>((K.drop x.1.toNat).any fun k=>decide (k=b),())) ?_ _ ⟨0,rfl,by omega⟩]
  · simp
  · rintro ⟨x,⟨⟩⟩ ⟨k,hk,hle⟩
    simp only at hk
    subst hk
    simp only [Int.toNat_natCast]
    by_cases hlt:k<K.length
    · have d1:decide ((k:Int)<(K.length:Int))=true:=by simp;omega
      have d0:decide (0≤(k:Int))=true:=by simp
      simp only [d1,d0,Bool.and_self,cond_true,Int.toNat_natCast,bU hlt,dY,cw hlt (show K.length<9223372036854775808 by omega)]
      rw [List.drop_eq_getElem_cons hlt,List.any_cons]
      by_cases he:K[k]=b
      · right
        simp only [he,decide_true,cond_true,Bool.true_or]
      · left
        simp only [he,decide_false,cond_false,Bool.false_or]
        exact ⟨_,rfl,⟨k+1,rfl,by omega⟩,by simp only [Int.toNat_natCast];omega,rfl⟩
    · right
      have d1:decide ((k:Int)<(K.length:Int))=false:=by simp;omega
      simp only [d1,cond_false]
      rw [List.drop_eq_nil_of_le (by omega)]
      rfl
theorem DK (b:ByteArray):cz.F (b,())=some (ka.any fun k=>decide (k=b),()):=by
 rw [cz.eq]
 exact JA ka (by decide) b
theorem JB (b:ByteArray) (hb:b.size<1000000000000000000):dF.F (b,())=some (isName b,()):=by
 rw [dF.eq]
 unfold dF.B isName
 simp only [EN b hb,DK,Option.bind_some]
 cases jC b<;>rfl
def s5 (e:List ae):Bool:=e.any (fun x=>decide (1000<x.2.2.2.2.size))||decide (120<e.length)
theorem EO (e : List ae) (he : Ln e) : dV.F (e,()) = some (s5 e,()) := by
  rw [dV.eq]
  unfold dV.B
  simp only []
  rw [fb (S:=Int×Unit) (m:=fun x=>e.length-x.1.toNat) (I:=fun x=>∃k:Nat,x.1=(k:Int)∧k≤e.length) (f:=fun x=>bif (e.drop x.1.toNat).any (fun x=>decide (1000<x.2.2.2.2.size)) then .inr (true,()) else .inl ()) ?_ _ ⟨0,rfl,by omega⟩]
  · have:decide ((e.length:Int)>(120:Int))=decide (120<e.length):=by simp only [decide_eq_decide];omega
    simp only [this,Int.toNat_zero,List.drop_zero,s5,Option.bind_some]
    cases e.any (fun x=>decide (1000<x.2.2.2.2.size))<;>rfl
  · rintro ⟨x,⟨⟩⟩ ⟨k,hk,hle⟩
    simp only at hk
    subst hk
    simp only [Int.toNat_natCast]
    by_cases hlt:k<e.length
    · have d1:decide ((k:Int)<(e.length:Int))=true:=by simp;omega
      have d0:decide (0≤(k:Int))=true:=by simp
      have d2:decide ((e[k].2.2.2.2.size:Int)>(1000:Int))=decide (1000<e[k].2.2.2.2.size):=by simp only [decide_eq_decide];omega
      simp only [d1,d0,Bool.and_self,cond_true,bU hlt,d2,cw hlt (show e.length<9223372036854775808 by omega)]
      rw [List.drop_eq_getElem_cons hlt,List.any_cons]
      cases decide (1000<e[k].2.2.2.2.size) with
      |true=>right;rfl
      |false=>
        left
        simp only [cond_false,Bool.false_or]
        exact ⟨_,rfl,⟨k+1,rfl,by omega⟩,by simp only [Int.toNat_natCast];omega,rfl⟩
    · right
      have d1:decide ((k:Int)<(e.length:Int))=false:=by simp;omega
      simp only [d1,cond_false]
      rw [List.drop_eq_nil_of_le (by omega)]
      rfl
structure Sm (d:Dl.Def):Prop where
 cols:d.2.1.2.1.length≤400
 checks:d.2.1.2.2.length≤400
 each:∀e∈d.2.1.2.2,s5 e=false
 whr:s5 d.2.2.2.2.2.2.1=false
 pick:d.2.2.2.2.2.2.2.1.length≤400
 aggs:d.2.2.2.2.2.2.2.2.2.length≤400
 names:∀c∈d.2.1.2.1,c.1.size≤100∧c.2.2.2.2.1.size≤100
 n1:d.2.1.1.size≤100
 n2:d.2.2.1.size≤100
 n3:d.2.2.2.1.size≤100
 n4:d.2.2.2.2.1.size≤100
theorem big_s (a1 : Int) (a2 : ByteArray) (a3 : List Col) (a4 : List (List ae)) (a5 a6 a7 : ByteArray) (a8 a8' : Int) (a9 : List ae) (a10 : List Int) (a11 : Bool) (a12 : List Agg)
    (h:DLn (a1,((a2,(a3,a4)),(a5,(a6,(a7,((a8,a8'),(a9,(a10,(a11,a12)))))))))):
    ∃b,d9.F (a1,a2,a3,a4,a5,a6,a7,a8,a8',a9,a10,a11,a12,())=some (b,())∧(b=false→Sm (a1,((a2,(a3,a4)),(a5,(a6,(a7,((a8,a8'),(a9,(a10,(a11,a12)))))))))):=by
  have l1:a3.length<1000000000000000:=h.cols
  have l2:a4.length<1000000000000000:=h.checks
  have l3:a9.length<1000000000000000:=h.whr
  have l4:a10.length<1000000000000000:=h.pick
  have l5:a12.length<1000000000000000:=h.aggs
  rw [d9.eq]
  unfold d9.B
  simp only []
  have e1:IntKind.i64.wrap ((a3.length:Int)+(a4.length:Int))=((a3.length+a4.length:Nat):Int):=by rw [dl]<;>omega
  have e2:IntKind.i64.wrap (((a3.length+a4.length:Nat):Int)+(a10.length:Int))=((a3.length+a4.length+a10.length:Nat):Int):=by rw [dl]<;>omega
  have e3:IntKind.i64.wrap (((a3.length+a4.length+a10.length:Nat):Int)+(a12.length:Int))=((a3.length+a4.length+a10.length+a12.length:Nat):Int):=by rw [dl]<;>omega
  have e4:IntKind.i64.wrap (((a3.length+a4.length+a10.length+a12.length:Nat):Int)+(a9.length:Int))=((a3.length+a4.length+a10.length+a12.length+a9.length:Nat):Int):=by rw [dl]<;>omega
  simp only [e1,e2,e3,e4]
  rw [fb (S:=Int×Int×Unit) (m:=fun x=>a4.length-x.2.1.toNat) (I:=fun x=>∃k n:Nat,x.2.1=(k:Int)∧x.1=(n:Int)∧k≤a4.length∧n≤5000000000000000+120*k)
    (f:=fun x=>bif (a4.drop x.2.1.toNat).any s5 then .inr (true,()) else .inl (x.1+(((a4.drop x.2.1.toNat).map List.length).sum:Nat),())) ?_ _ ⟨0,_,rfl,rfl,by omega,by omega⟩]
  · simp only [Int.toNat_zero,List.drop_zero,Option.bind_some]
    cases hb:a4.any s5 with
    |true=>exact ⟨true,rfl,fun e=>by cases e⟩
    | false =>
      simp only [cond_false]
      rw [fb (S:=Int×Unit) (m:=fun x=>a3.length-x.1.toNat) (I:=fun x=>∃k:Nat,x.1=(k:Int)∧k≤a3.length)
        (f:=fun x=>bif (a3.drop x.1.toNat).any (fun c=>decide (100<c.1.size)||decide (100<c.2.2.2.2.1.size)) then .inr (true,()) else .inl ()) ?_ _ ⟨0,rfl,by omega⟩]
      · simp only [Int.toNat_zero,List.drop_zero,Option.bind_some]
        cases hc:a3.any (fun c=>decide (100<c.1.size)||decide (100<c.2.2.2.2.1.size)) with
        |true=>exact ⟨true,rfl,fun e=>by cases e⟩
        | false =>
          simp only [cond_false,EO a9 h.whr,Option.bind_some]
          generalize hm:((a4.map List.length).sum:Nat)=m
          have hz:∀b:ByteArray,decide ((b.size:Int)>(100:Int))=decide (100<b.size):=fun b=>by simp only [decide_eq_decide];omega
          simp only [hz]
          by_cases hn:(((a3.length+a4.length+a10.length+a12.length+a9.length:Nat):Int)+(m:Int)>(400:Int))
          · rw [decide_eq_true hn];exact ⟨true,rfl,fun e=>by cases e⟩
          · rw [decide_eq_false hn]
            cases hw:s5 a9 with
            |true=>exact ⟨true,rfl,fun e=>by cases e⟩
            |false=>
              by_cases s1:100<a2.size
              · rw [decide_eq_true s1];exact ⟨true,rfl,fun e=>by cases e⟩
              by_cases s2:100<a5.size
              · rw [decide_eq_false s1,decide_eq_true s2];exact ⟨true,rfl,fun e=>by cases e⟩
              by_cases s3:100<a6.size
              · rw [decide_eq_false s1,decide_eq_false s2,decide_eq_true s3];exact ⟨true,rfl,fun e=>by cases e⟩
              rw [decide_eq_false s1,decide_eq_false s2,decide_eq_false s3]
              refine ⟨_,rfl,fun e=>?_⟩
              rw [decide_eq_false_iff_not] at e
              rw [List.any_eq_false] at hb hc
              exact ⟨show a3.length≤400 by omega,show a4.length≤400 by omega,fun e he=>by simpa using hb e he,hw,show a10.length≤400 by omega,show a12.length≤400 by omega,
                fun c hcm=>by have:=hc c hcm;simp only [Bool.or_eq_true,decide_eq_true_eq] at this;omega,show a2.size≤100 by omega,show a5.size≤100 by omega,show a6.size≤100 by omega,show a7.size≤100 by omega⟩
      · rintro ⟨x,⟨⟩⟩ ⟨k,hk,hle⟩
        simp only at hk
        subst hk
        simp only [Int.toNat_natCast]
        by_cases hlt:k<a3.length
        · have d1:decide ((k:Int)<(a3.length:Int))=true:=by simp;omega
          have d0:decide (0≤(k:Int))=true:=by simp
          have hz:∀b:ByteArray,decide ((b.size:Int)>(100:Int))=decide (100<b.size):=fun b=>by simp only [decide_eq_decide];omega
          simp only [d1,d0,Bool.and_self,cond_true,bU hlt,hz,cw hlt (show a3.length<9223372036854775808 by omega)]
          rw [List.drop_eq_getElem_cons hlt,List.any_cons]
          cases decide (100<a3[k].1.size) with
          |true=>right;rfl
          |false=>
            cases decide (100<a3[k].2.2.2.2.1.size) with
            |true=>right;rfl
            |false=>
              left
              simp only [cond_false,Bool.false_or]
              exact ⟨_,rfl,⟨k+1,rfl,by omega⟩,by simp only [Int.toNat_natCast];omega,rfl⟩
        · right
          have d1:decide ((k:Int)<(a3.length:Int))=false:=by simp;omega
          simp only [d1,cond_false]
          rw [List.drop_eq_nil_of_le (by omega)]
          rfl
  · rintro ⟨n',x,⟨⟩⟩ ⟨k,n,hk,hn,hle,hb⟩
    simp only at hk hn
    subst hk
    subst hn
    simp only [Int.toNat_natCast]
    by_cases hlt:k<a4.length
    · have d1:decide ((k:Int)<(a4.length:Int))=true:=by simp;omega
      have d0:decide (0≤(k:Int))=true:=by simp
      have hL:a4[k].length<1000000000000000:=h.each _ (List.getElem_mem hlt)
      have ew:IntKind.i64.wrap ((n:Int)+(a4[k].length:Int))=((n+a4[k].length:Nat):Int):=by rw [dl]<;>omega
      simp only [d1,d0,Bool.and_self,cond_true,bU hlt,EO _ hL,Option.bind_some,ew,cw hlt (show a4.length<9223372036854775808 by omega)]
      rw [List.drop_eq_getElem_cons hlt,List.any_cons]
      cases hg:s5 a4[k] with
      |true=>right;rfl
      |false=>
        left
        have h120:a4[k].length≤120:=by
          simp only [s5,Bool.or_eq_false_iff,decide_eq_false_iff_not] at hg
          omega
        simp only [cond_false,Bool.false_or]
        refine ⟨_,rfl,⟨k+1,_,rfl,rfl,by omega,by omega⟩,by simp only [Int.toNat_natCast];omega,?_⟩
        simp only [Int.toNat_natCast,List.map_cons,List.sum_cons]
        have:((n+a4[k].length:Nat):Int)+((((a4.drop (k+1)).map List.length).sum:Nat):Int)=(n:Int)+((a4[k].length+((a4.drop (k+1)).map List.length).sum:Nat):Int):=by omega
        rw [this]
    · right
      have d1:decide ((k:Int)<(a4.length:Int))=false:=by simp;omega
      simp only [d1,cond_false]
      rw [List.drop_eq_nil_of_le (by omega)]
      simp
end Go.Proofs.Ytleadolkcmagfaa
end
section
namespace Go.Proofs.Ytleadolkcmagfaa
open Go Lv Go.Proofs Go.RowKit Go.Shelf Dl
abbrev I64 (n:Int):Prop:=-9223372036854775808≤n∧n≤9223372036854775807
theorem lu (p o:List ByteArray) (h:o.length+p.length≤1000000000):aK.F (p,o,())=some (o++p,()):=by
 rw [aK.eq]
 unfold aK.B
 have:Nat.ble (o.length+p.length) 8796093022208=true:=by rw [Nat.ble_eq];omega
 simp only [this,cond_true]
theorem kH (b:Bool) (p o:List ByteArray) (h:o.length+p.length≤1000000000):aJ.F (b,p,o,())=some (o++(if b then p else []),()):=by
 rw [aJ.eq]
 unfold aJ.B
 cases b
 ·simp
 ·simp only [cond_true,lu p o h,Option.bind_some,if_true]
theorem AX (n:Int) (ws:List ByteArray):dj.F (n,ws,())=some (fN n ws,()):=by
 rw [dj.eq]
 unfold dj.B fN
 simp only []
 by_cases h1:n<0
 ·simp [h1]
 ·by_cases h2:(ws.length:Int)≤n
  ·have d2:decide (n≥(ws.length:Int))=true:=by simp;omega
   simp [h1,h2,d2]
  ·have d2:decide (n≥(ws.length:Int))=false:=by simp;omega
   have d3:(decide (0≤n)&&decide (n<(ws.length:Int)))=true:=by simp;omega
   have d1:decide (n<0)=false:=by simp;omega
   simp only [d1,d2,d3,cond_false,cond_true]
   rw [if_neg (by omega)]
theorem KS (x y:Val):Ty.eq nN x y=decide (x=y):=@EK nN rfl (inferInstanceAs (DecidableEq Val)) x y
theorem b_eq (n m:Int):(n==m)=decide (n=m):=by by_cases h:n=m<;>simp [h]
theorem HS (a b:Int) (s:ByteArray):dP.F ((1:Int),e0,a,b,s,())=some (uY (a,(b,s)),()):=by
 rw [dP.eq]
 unfold dP.B
 simp only [dY]
 have e1:((1:Int)==(0:Int))=false:=by decide
 have e2:((1:Int)==(1:Int))=true:=by decide
 have e3:decide (e0=(⟨#[]⟩:ByteArray))=true:=by decide
 simp only [e1,e2,e3,cond_false,cond_true]
 rw [cy.eq]
 unfold cy.B uY
 simp only [dY,KS,b_eq]
 by_cases h0:a=0
 ·subst h0
  simp only [decide_true,cond_true,Option.bind_some]
  cases decide (((0:Int),(b,s))=((0:Int),((0:Int),(⟨#[]⟩:ByteArray))))<;>simp
 by_cases h1:a=1
 ·subst h1
  simp only [h0,decide_false,cond_false,decide_true,cond_true]
  cases hb0:decide (b=0)<;>cases hb1:decide (b=1)<;>cases hs:decide (s=(⟨#[]⟩:ByteArray))<;>simp
 by_cases h2:a=2
 ·subst h2
  simp only [h0,h1,decide_false,cond_false,decide_true,cond_true,Option.bind_some]
  cases hs:decide (s=(⟨#[]⟩:ByteArray)) with
  |true=>have:=of_decide_eq_true hs;subst this;simp
  |false=>have:=of_decide_eq_false hs;simp [this]
 by_cases h3:a=3
 ·subst h3
  simp only [h0,h1,h2,decide_false,cond_false,decide_true,cond_true]
  have d:decide ((s.size:Int)≤(1000:Int))=decide (s.size≤1000):=by simp only [decide_eq_decide];omega
  rw [d]
  cases hb:decide (b=0) with
  |false=>have:=of_decide_eq_false hb;simp [this]
  |true=>
   have:=of_decide_eq_true hb
   subst this
   cases hs:decide (s.size≤1000) with
   |true=>have:=of_decide_eq_true hs;simp [this]
   |false=>have:=of_decide_eq_false hs;simp [this]
 ·simp only [h0,h1,h2,h3,decide_false,cond_false,Option.bind_some]
  simp
theorem HT {Q:Type} (l:List ByteArray) (h1:l.length≤1000000000) (h2:(fA (l.map fun w=>w.data.toList)).length≤140737488355328) (K:TS strings_Join.so→Option Q):Option.bind (strings_Join.F (l,(⟨#[32]⟩:ByteArray),())) K=K (bs (fA (l.map fun w=>w.data.toList)),()):=by
 have e:j9 l (⟨#[32]⟩:ByteArray)=bs (fA (l.map fun w=>w.data.toList)):=by
  unfold j9
  show bs (Lib.join _ [32])=_
  rw [DD]
 have ha:strings_Join.F (l,(⟨#[32]⟩:ByteArray),())=some (bs (fA (l.map fun w=>w.data.toList)),()):=by
  rw [strings_Join.eq]
  show (if l.length≤140737488355328∧(j9 l (⟨#[32]⟩:ByteArray)).size≤140737488355328 then some (j9 l (⟨#[32]⟩:ByteArray),()) else none)=_
  rw [e,if_pos ⟨by omega,by rw [cQ];exact h2⟩]
 rw [ha];rfl
theorem rep_b {Q:Type} (w:List UInt8) (hw:w.length≤1000) (K:TS strings_ReplaceAll.so→Option Q):Option.bind (strings_ReplaceAll.F (bs w,(⟨#[39]⟩:ByteArray),(⟨#[39,39]⟩:ByteArray),())) K=K (bs (dbl w),()):=by
 have ha:strings_ReplaceAll.F (bs w,(⟨#[39]⟩:ByteArray),(⟨#[39,39]⟩:ByteArray),())=some (bs (dbl w),()):=by
  rw [strings_ReplaceAll.eq]
  show sS _=_
  unfold sS
  simp only
  have hc:Lib.countB (bs w) (⟨#[39]⟩:ByteArray)≤w.length:=HF w
  have h1:((⟨#[39,39]⟩:ByteArray)).size=2:=rfl
  have h2:((⟨#[39]⟩:ByteArray)).size=1:=rfl
  rw [if_pos ⟨by rw [cQ];omega,by rw [h2];decide,by rw [cQ,h1];omega⟩]
  have:sR (bs w) (⟨#[39]⟩:ByteArray) (⟨#[39,39]⟩:ByteArray)=bs (dbl w):=by
   unfold sR
   show bs (Lib.replaceAll w [39] [39,39])=_
   rw [xn]
  rw [this]
 rw [ha];rfl
theorem AY (w:List UInt8):(dbl w).length≤2*w.length:=by
 induction w with
 |nil=>simp [dbl]
 |cons c r ih=>simp only [dbl];split<;>simp<;>omega
theorem JC (v:Val) (hm:uY v=true) (hi:I64 v.2.1):cL.F (v.1,v.2.1,v.2.2,())=some (bs (eQ (1,(e0,v))),()):=by
 obtain ⟨a,b,s⟩:=v
 rw [cL.eq]
 unfold cL.B
 simp only [uY,Bool.or_eq_true,Bool.and_eq_true,decide_eq_true_eq] at hm
 simp only [b_eq]
 rcases hm with ⟨h1,h2⟩|⟨h1,h2,h3⟩
 ·subst h1;subst h2
  have e1:decide ((2:Int)=0)=false:=by decide
  have e2:decide ((2:Int)=1)=false:=by decide
  have e3:decide ((2:Int)=2)=true:=by decide
  simp only [e1,e2,e3,cond_false,cond_true]
  rw [AQ b hi.1 hi.2]
  rfl
 ·subst h1;subst h2
  have e1:decide ((3:Int)=0)=false:=by decide
  have e2:decide ((3:Int)=1)=false:=by decide
  have e3:decide ((3:Int)=2)=false:=by decide
  have e4:decide ((3:Int)=3)=true:=by decide
  simp only [e1,e2,e3,e4,cond_false,cond_true]
  have hs:s=bs s.data.toList:=(oi s).symm
  generalize s.data.toList=w at hs
  subst hs
  rw [cQ] at h3
  have h5:=AY w
  have hmax:IntKind.i64.max=9223372036854775807:=by decide
  rw [rep_b w h3]
  simp only [jE,cQ,hmax]
  have d1:(!decide (((([39]:List UInt8).length+(dbl w).length:Nat):Int)>9223372036854775807))=true:=by simp;omega
  have d2:(!decide (((([39]++dbl w:List UInt8).length+([39]:List UInt8).length:Nat):Int)>9223372036854775807))=true:=by simp;omega
  rw [d1]
  simp only [cond_true]
  rw [d2]
  rfl
theorem gX {n:Int} (h:I64 n):(Lib.itoa n).length≤21:=Lib.itoa_length_le n h.1 h.2
theorem CC {v:Val} (hm:uY v=true) (hi:I64 v.2.1):(eQ (1,(e0,v))).length≤2100:=by
 obtain ⟨a,b,s⟩:=v
 simp only [uY,Bool.or_eq_true,Bool.and_eq_true,decide_eq_true_eq] at hm
 rcases hm with ⟨h1,h2⟩|⟨h1,h2,h3⟩
 ·subst h1;subst h2
  have:eQ (1,(e0,(2,(b,e0))))=Lib.itoa b:=rfl
  rw [this]
  have hi:I64 b:=hi
  have:=gX hi
  omega
 ·subst h1;subst h2
  have:eQ (1,(e0,(3,(0,s))))=39::dbl s.data.toList++ [39]:=rfl
  rw [this]
  have h4:=AY s.data.toList
  have h5:s.data.toList.length=s.size:=rfl
  simp only [List.length_cons,List.length_append,List.length_nil]
  omega
theorem HU (v:Val) (hm:uY v=true) (hi:I64 v.2.1):cV.F ([((1:Int),(e0,v))],())=some (bs (eQ (1,(e0,v))),()):=by
 rw [cV.eq]
 unfold cV.B
 simp only []
 rw [ej]
 have c1:decide ((0:Int)<(([((1:Int),(e0,v))]:List bH).length:Int))=true:=rfl
 have c2:decide (0≤(0:Int))=true:=by decide
 have g:List.getD ([((1:Int),(e0,v))]:List bH) (Int.toNat 0) dA.z=((1:Int),(e0,v)):=rfl
 have hmay:dP.F ((1:Int),e0,v.1,v.2.1,v.2.2,())=some (true,()):=by rw [HS];rw [hm]
 have e2:((1:Int)==(1:Int))=true:=by decide
 have e3:IntKind.i64.wrap ((0:Int)+(1:Int))=1:=by decide
 simp only [c1,c2,Bool.and_self,g,cond_true,hmay,Option.bind_some,Bool.not_true,cond_false,e2,JC v hm hi]
 have d1:Nat.ble (([]:List ByteArray).length+ [bs (eQ (1,(e0,v)))].length) 8796093022208=true:=by rw [Nat.ble_eq];simp
 rw [d1]
 simp only [cond_true,e3]
 rw [ej]
 have c3:decide ((1:Int)<(([((1:Int),(e0,v))]:List bH).length:Int))=false:=rfl
 simp only [c3,cond_false,Option.bind_some,List.nil_append]
 rw [HT [bs (eQ (1,(e0,v)))] (by simp) (by have:=CC hm hi;simpa [fA] using (by omega:(eQ (1,(e0,v))).length≤140737488355328))]
 rfl
theorem DL (v:Val) (hi:I64 v.2.1):cD.F (v.1,v.2.1,v.2.2,())=some (rA v,()):=by
 obtain ⟨a,b,s⟩:=v
 rw [cD.eq]
 unfold cD.B rA
 simp only [bytes_beq,b_eq]
 by_cases h0:a=0∧b=0∧s=e0
 ·obtain ⟨rfl,rfl,rfl⟩:=h0
  simp
  rfl
 have n0:¬((a,(b,s)):Val)=(0,(0,e0)):=fun e=>by cases e;exact h0 ⟨rfl,rfl,rfl⟩
 have b0:(decide (a=0)&&decide (b=0)&&decide (s=e0))=false:=by
  cases h:(decide (a=0)&&decide (b=0)&&decide (s=e0)) with
  |false=>rfl
  |true=>simp only [Bool.and_eq_true,decide_eq_true_eq] at h;exact absurd ⟨h.1.1,h.1.2,h.2⟩ h0
 by_cases h1:a=1∧b=0∧s=e0
 ·obtain ⟨rfl,rfl,rfl⟩:=h1
  simp
  rfl
 have n1:¬((a,(b,s)):Val)=(1,(0,e0)):=fun e=>by cases e;exact h1 ⟨rfl,rfl,rfl⟩
 have b1:(decide (a=1)&&decide (b=0)&&decide (s=e0))=false:=by
  cases h:(decide (a=1)&&decide (b=0)&&decide (s=e0)) with
  |false=>rfl
  |true=>simp only [Bool.and_eq_true,decide_eq_true_eq] at h;exact absurd ⟨h.1.1,h.1.2,h.2⟩ h1
 by_cases h2:a=1∧b=1∧s=e0
 ·obtain ⟨rfl,rfl,rfl⟩:=h2
  simp
  rfl
 have n2:¬((a,(b,s)):Val)=(1,(1,e0)):=fun e=>by cases e;exact h2 ⟨rfl,rfl,rfl⟩
 have b2:(decide (a=1)&&decide (b=1)&&decide (s=e0))=false:=by
  cases h:(decide (a=1)&&decide (b=1)&&decide (s=e0)) with
  |false=>rfl
  |true=>simp only [Bool.and_eq_true,decide_eq_true_eq] at h;exact absurd ⟨h.1.1,h.1.2,h.2⟩ h2
 rw [if_neg n0,if_neg n1,if_neg n2]
 rw [b0,b1,b2]
 simp only [cond_false]
 rw [HS]
 simp only [Option.bind_some]
 cases hm:uY (a,(b,s)) with
 |false=>rfl
 |true=>
  simp only [Bool.not_true,cond_false,if_true]
  exact (cT _ (HU (a,(b,s)) hm hi)).trans rfl
theorem DM {Q:Type} (v:Val) (hi:I64 v.2.1) (K:TS cD.so→Option Q):Option.bind (cD.F (v.1,v.2.1,v.2.2,())) K=K (rA v,()):=by rw [DL v hi];rfl
def xy (e:List ae):Prop:=e.length≤120∧∀x∈e,I64 x.1∧I64 x.2.1∧I64 x.2.2.2.1
theorem xz {Q:Type} (n:Int) (h:I64 n) (K:TS strconv_Itoa.so→Option Q):Option.bind (strconv_Itoa.F (n,())) K=K (bs (Lib.itoa n),()):=AQ n h.1 h.2 K
theorem EP (e : List ae) (o : List ByteArray) (he : xy e) (ho : o.length ≤ 900000000) : bl.F (e,o,()) = some (o ++ nB e,()) := by
  rw [bl.eq]
  unfold bl.B
  have hl:=he.1
  simp only [lu [(⟨#[91]⟩:ByteArray)] o (by simp;omega),Option.bind_some]
  rw [fb (S:=Int×(List ByteArray)×Unit) (m:=fun x=>e.length-x.1.toNat) (I:=fun x=>∃k:Nat,x.1=(k:Int)∧k≤e.length∧x.2.1.length≤900000001+k)
    (f:=fun x=> .inl (x.2.1++(e.drop x.1.toNat).map mB,())) ?_ _ ⟨0,rfl,by omega,by simp;omega⟩]
  · simp only [Int.toNat_zero,List.drop_zero,Option.bind_some]
    rw [lu [(⟨#[93]⟩:ByteArray)] _ (by simp;omega)]
    simp only [Option.bind_some,nB]
    simp
  · rintro ⟨x,out,⟨⟩⟩ ⟨k,hk,hle,hlen⟩
    simp only at hk hlen
    subst hk
    simp only [Int.toNat_natCast]
    by_cases hlt:k<e.length
    · left
      obtain ⟨hx0,hx1,hx2⟩:=he.2 _ (List.getElem_mem hlt)
      have d1:decide ((k:Int)<(e.length:Int))=true:=by simp;omega
      have d0:decide (0≤(k:Int))=true:=by simp
      simp only [d1,d0,Bool.and_self,cond_true,bU hlt,b_eq,cw hlt (show e.length<9223372036854775808 by omega)]
      rw [List.drop_eq_getElem_cons hlt]
      have fin:∀w,w=mB e[k]→∃s':Int×(List ByteArray)×Unit,(some (.inl (((k+1:Nat):Int),out++ [w],())):Option ((Int×(List ByteArray)×Unit)⊕((List ByteArray)×Unit)⊕((List ByteArray)×Unit)))=some (.inl s')∧(∃k:Nat,s'.1=(k:Int)∧k≤e.length∧s'.2.1.length≤900000001+k)∧e.length-s'.1.toNat<e.length-k∧
          (Sum.inl (s'.2.1++(e.drop s'.1.toNat).map mB,()):((List ByteArray)×Unit)⊕((List ByteArray)×Unit))=.inl (out++(e[k]::e.drop (k+1)).map mB,()):=by
        rintro w rfl
        refine ⟨_,rfl,⟨k+1,rfl,by omega,by simp;omega⟩,by simp only [Int.toNat_natCast];omega,?_⟩
        simp only [Int.toNat_natCast,List.map_cons,List.append_assoc,List.cons_append,List.nil_append]
      by_cases h0:e[k].1=0
      · simp only [h0,decide_true,cond_true]
        rw [xz _ hx1]
        have hmax:IntKind.i64.max=9223372036854775807:=by decide
        have hi:=gX hx1
        have d2:(!decide ((((⟨#[99]⟩:ByteArray).size+(bs (Lib.itoa e[k].2.1)).size:Nat):Int)>IntKind.i64.max))=true:=by rw [cQ,cQ,hmax];simp;omega
        simp only []
        rw [d2]
        simp only [cond_true]
        rw [lu _ out (by simp;omega)]
        refine fin _ ?_
        unfold mB
        rw [if_pos h0]
        exact jE [99] (Lib.itoa e[k].2.1)
      · simp only [h0,decide_false,cond_false]
        by_cases h1:e[k].1=1
        · simp only [h1,decide_true,cond_true]
          rw [DM e[k].2.2 hx2]
          simp only []
          rw [lu _ out (by simp;omega)]
          refine fin _ ?_
          unfold mB
          rw [if_neg h0,if_pos h1]
        · simp only [h1,decide_false,cond_false,AX,Option.bind_some]
          rw [lu _ out (by simp;omega)]
          refine fin _ ?_
          unfold mB
          rw [if_neg h0,if_neg h1]
          rfl
    · right
      have d1:decide ((k:Int)<(e.length:Int))=false:=by simp;omega
      simp only [d1,cond_false]
      rw [List.drop_eq_nil_of_le (by omega)]
      simp
structure Fit (d:Dl.Def):Prop where
 cols:d.2.1.2.1.length≤400
 checks:d.2.1.2.2.length≤400
 pick:d.2.2.2.2.2.2.2.1.length≤400
 aggs:d.2.2.2.2.2.2.2.2.2.length≤400
 each:∀e∈d.2.1.2.2,xy e
 whr:xy d.2.2.2.2.2.2.1
 names:∀c∈d.2.1.2.1,c.1.size≤100∧c.2.2.2.2.1.size≤100∧I64 c.2.1
 n1:d.2.1.1.size≤100
 n2:d.2.2.1.size≤100
 n3:d.2.2.2.1.size≤100
 n4:d.2.2.2.2.1.size≤100
 o1:I64 d.2.2.2.2.2.1.1
 o2:I64 d.2.2.2.2.2.1.2
 pk:∀n∈d.2.2.2.2.2.2.2.1,I64 n
 ag:∀a∈d.2.2.2.2.2.2.2.2.2,I64 a.2
theorem tN {α R:Type} (l:List α) (hl:l.length≤400) (f:α→List ByteArray) (hf:∀x∈l,(f x).length≤8) (base:Nat) (hb:base≤100000000) (fin:List ByteArray→Option R) {body:Int×(List ByteArray)×Unit→Option ((Int×(List ByteArray)×Unit)⊕R)}
 (h1:∀(k:Nat) (hk:k<l.length) out,out.length≤base+9*k→body ((k:Int),out,())=some (.inl (((k+1:Nat):Int),out++((if 0<k then [(⟨#[44]⟩:ByteArray)] else [])++f l[k]),())))
 (h2:∀out,out.length≤base+9*l.length→body ((l.length:Int),out,())=Option.map Sum.inr (fin out)):
 ∀(n k:Nat),n+k=l.length→∀out,out.length≤base+9*k→bE body ((k:Int),out,())=fin (out++jt f (decide (0<k)) (l.drop k)):=by
 intro n
 induction n with
 |zero=>
  intro k hk out ho
  have:k=l.length:=by omega
  subst this
  rw [ej,h2 out ho,List.drop_length]
  simp only [jt,List.append_nil]
  cases fin out<;>rfl
 |succ n ih=>
  intro k hk out ho
  have hlt:k<l.length:=by omega
  rw [ej,h1 k hlt out ho]
  simp only
  have hfl:=hf _ (List.getElem_mem hlt)
  have hc:(if 0<k then [(⟨#[44]⟩:ByteArray)] else ([]:List ByteArray)).length≤1:=by split<;>simp
  rw [ih (k+1) (by omega) _ (by simp only [List.length_append];omega),List.drop_eq_getElem_cons hlt]
  have e1:decide (0<k+1)=true:=by simp
  rw [e1]
  simp only [jt,decide_eq_true_eq,List.append_assoc]
theorem xA (c:Col):(nC c).length≤8:=by
 unfold nC
 simp only [List.length_append,List.length_cons,List.length_nil]
 have h1:(if c.2.2.1 then [(⟨#[110,117,108,108]⟩:ByteArray)] else ([]:List ByteArray)).length≤1:=by split<;>simp
 have h2:(if c.2.2.2.1 then [(⟨#[117,110,105,113,117,101]⟩:ByteArray)] else ([]:List ByteArray)).length≤1:=by split<;>simp
 have h3:(if c.2.2.2.2.1=e0 then [] else [(⟨#[114,101,102]⟩:ByteArray),c.2.2.2.2.1,fN c.2.2.2.2.2 yj]).length≤3:=by split<;>simp
 omega
theorem xB {α:Type} (f:α→List ByteArray):∀(l:List α) (b:Bool),(∀x∈l,(f x).length≤8)→(jt f b l).length≤9*l.length:=by
 intro l
 induction l with
 |nil=>intro b _;simp [jt]
 |cons x l ih=>
  intro b h
  have h1:=ih true (fun y hy=>h y (List.mem_cons_of_mem _ hy))
  have h2:=h x (by simp)
  have h3:(if b then [(⟨#[44]⟩:ByteArray)] else ([]:List ByteArray)).length≤1:=by split<;>simp
  simp only [jt,List.length_append,List.length_cons]
  omega
theorem qr (e:List ae):(nB e).length=e.length+2:=by simp [nB]
theorem CD:∀(l:List (List ae)),(∀e∈l,xy e)→(l.flatMap p4).length≤123*l.length:=by
 intro l
 induction l with
 |nil=>intro _;simp
 |cons e l ih=>
  intro h
  have h1:=ih (fun y hy=>h y (List.mem_cons_of_mem _ hy))
  have h2:=(h e (by simp)).1
  rw [List.flatMap_cons]
  simp only [List.length_append,p4,List.length_cons,qr]
  omega
theorem HV (n : ByteArray) (c : List Col) (k : List (List ae)) (hc : c.length ≤ 400) (hk : k.length ≤ 400) (he : ∀ e ∈ k,xy e) : aG.F (n,c,k,[],()) = some (rD (n,(c,k)),()) := by
  rw [aG.eq]
  unfold aG.B
  simp only [lu [(⟨#[116,97,98,108,101]⟩:ByteArray),n,(⟨#[40]⟩:ByteArray)] [] (by simp),Option.bind_some,List.nil_append]
  refine (tN c hc nC (fun c _=>xA c) 10 (by decide) (fin:=fun out=>some (out++([(⟨#[41]⟩:ByteArray)]++k.flatMap p4),())) ?_ ?_ c.length 0 (by omega) [(⟨#[116,97,98,108,101]⟩:ByteArray),n,(⟨#[40]⟩:ByteArray)] (by simp)).trans ?_
  · intro i hi out ho
    have d1:decide ((i:Int)<(c.length:Int))=true:=by simp;omega
    have d0:decide (0≤(i:Int))=true:=by simp
    have dg:decide ((i:Int)>(0:Int))=decide (0<i):=by simp only [decide_eq_decide];omega
    simp only [d1,d0,dg,Bool.and_self,cond_true,Int.toNat_natCast,bU hi,dY,kH _ [(⟨#[44]⟩:ByteArray)] out (by simp;omega),Option.bind_some,AX,cw hi (show c.length<9223372036854775808 by omega)]
    have hcm:((if decide (0<i)=true then [(⟨#[44]⟩:ByteArray)] else ([]:List ByteArray))).length≤1:=by split<;>simp
    rw [lu _ _ (by simp only [List.length_append,List.length_cons,List.length_nil];omega)]
    simp only [Option.bind_some]
    rw [kH _ _ _ (by simp only [List.length_append,List.length_cons,List.length_nil];omega)]
    simp only [Option.bind_some]
    have hn:((if c[i].2.2.1=true then [(⟨#[110,117,108,108]⟩:ByteArray)] else ([]:List ByteArray))).length≤1:=by split<;>simp
    rw [kH _ _ _ (by simp only [List.length_append,List.length_cons,List.length_nil];omega)]
    simp only [Option.bind_some]
    have hu:((if c[i].2.2.2.1=true then [(⟨#[117,110,105,113,117,101]⟩:ByteArray)] else ([]:List ByteArray))).length≤1:=by split<;>simp
    rw [kH _ _ _ (by simp only [List.length_append,List.length_cons,List.length_nil];omega)]
    simp only [Option.bind_some,nC,decide_eq_true_eq,List.append_assoc,List.cons_append,List.nil_append]
    congr 6
    by_cases hr:c[i].2.2.2.2.1=e0
    · simp [hr]
    · simp [hr]
  · intro out ho
    have d1:decide ((c.length:Int)<(c.length:Int))=false:=by simp
    simp only [d1,cond_false,lu [(⟨#[41]⟩:ByteArray)] out (by simp;omega),Option.bind_some]
    rw [fb (S:=Int×(List ByteArray)×Unit) (m:=fun x=>k.length-x.1.toNat) (I:=fun x=>∃i:Nat,x.1=(i:Int)∧i≤k.length∧x.2.1.length≤100000+123*i)
      (f:=fun x=>(x.2.1++(k.drop x.1.toNat).flatMap p4,())) ?_ _ ⟨0,rfl,by omega,by simp;omega⟩]
    · simp
    · rintro ⟨x,out',⟨⟩⟩ ⟨i,hi',hle,hlen⟩
      simp only at hi' hlen
      subst hi'
      simp only [Int.toNat_natCast]
      by_cases hlt:i<k.length
      · left
        have hE:=he _ (List.getElem_mem hlt)
        have d1:decide ((i:Int)<(k.length:Int))=true:=by simp;omega
        have d0:decide (0≤(i:Int))=true:=by simp
        simp only [d1,d0,Bool.and_self,cond_true,bU hlt,lu [(⟨#[99,104,101,99,107]⟩:ByteArray)] out' (by simp;omega),Option.bind_some,EP _ (out'++ [(⟨#[99,104,101,99,107]⟩:ByteArray)]) hE (by simp;omega),cw hlt (show k.length<9223372036854775808 by omega)]
        have:=hE.1
        refine ⟨_,rfl,⟨i+1,rfl,by omega,by simp only [List.length_append,qr,List.length_cons,List.length_nil];omega⟩,by simp only [Int.toNat_natCast];omega,?_⟩
        simp only [Int.toNat_natCast]
        rw [List.drop_eq_getElem_cons hlt,List.flatMap_cons]
        simp [p4]
      · right
        have d1:decide ((i:Int)<(k.length:Int))=false:=by simp;omega
        simp only [d1,cond_false]
        rw [List.drop_eq_nil_of_le (by omega)]
        simp
  · simp [rD]
end Go.Proofs.Ytleadolkcmagfaa
end
section
namespace Go.Proofs.Ytleadolkcmagfaa
open Go Lv Go.Proofs Go.RowKit Go.Shelf Dl
theorem xC (a:Agg):(oU a).length≤8:=by
 unfold oU
 split<;>simp
theorem mC {p:Prop} [Decidable p] (a b:List ByteArray) (n:Nat) (ha:a.length≤n) (hb:b.length≤n):(if p then a else b).length≤n:=by split<;>assumption
theorem JD (vn vf vw : ByteArray) (o1 o2 : Int) (wh : List ae) (pk : List Int) (gr : Bool) (ag : List Agg) (h1 : I64 o1) (h2 : I64 o2) (hw : xy wh) (hp : pk.length ≤ 400) (hpi : ∀ n ∈ pk,I64 n) (ha : ag.length ≤ 400) (hai : ∀ a ∈ ag,I64 a.2) :
    aL.F (vn,vf,vw,o1,o2,wh,pk,gr,ag,[],())=some (xo (vn,(vf,(vw,((o1,o2),(wh,(pk,(gr,ag))))))),()):=by
  rw [aL.eq]
  unfold aL.B
  have d0:(decide (0≤(0:Int))&&decide ((0:Int)<(2:Int)))=true:=by decide
  have d1:(decide (0≤(1:Int))&&decide ((1:Int)<(2:Int)))=true:=by decide
  simp only [lu [(⟨#[118,105,101,119]⟩:ByteArray),vn,(⟨#[102,114,111,109]⟩:ByteArray),vf] [] (by simp),Option.bind_some,List.nil_append,d0,d1,cond_true]
  rw [xz o1 h1]
  simp only []
  rw [xz o2 h2]
  have hb:(!decide (vw=e0))=decide (¬vw=e0):=by by_cases h:vw=e0<;>simp [h]
  simp only [dY]
  rw [kH _ [(⟨#[106,111,105,110]⟩:ByteArray),vw,(⟨#[111,110]⟩:ByteArray),bs (Lib.itoa o1),(⟨#[61]⟩:ByteArray),bs (Lib.itoa o2)] [(⟨#[118,105,101,119]⟩:ByteArray),vn,(⟨#[102,114,111,109]⟩:ByteArray),vf] (by simp)]
  simp only [Option.bind_some]
  generalize hA:[(⟨#[118,105,101,119]⟩:ByteArray),vn,(⟨#[102,114,111,109]⟩:ByteArray),vf]++(if (!decide (vw=(⟨#[]⟩:ByteArray)))=true then [(⟨#[106,111,105,110]⟩:ByteArray),vw,(⟨#[111,110]⟩:ByteArray),bs (Lib.itoa o1),(⟨#[61]⟩:ByteArray),bs (Lib.itoa o2)] else [])=A
  have hAl:A.length≤10:=by rw [←hA,List.length_append];have:=mC (p:=(!decide (vw=(⟨#[]⟩:ByteArray)))=true) [(⟨#[106,111,105,110]⟩:ByteArray),vw,(⟨#[111,110]⟩:ByteArray),bs (Lib.itoa o1),(⟨#[61]⟩:ByteArray),bs (Lib.itoa o2)] [] 6 (by simp) (by simp);simp only [List.length_cons,List.length_nil] at this ⊢;omega
  have hA':A=[(⟨#[118,105,101,119]⟩:ByteArray),vn,(⟨#[102,114,111,109]⟩:ByteArray),vf]++(if vw=e0 then [] else [(⟨#[106,111,105,110]⟩:ByteArray),vw,(⟨#[111,110]⟩:ByteArray),bs (Lib.itoa o1),(⟨#[61]⟩:ByteArray),bs (Lib.itoa o2)]):=by
    rw [←hA]
    by_cases h:vw=e0<;>simp [h]
  refine (cT (.inl (A++(if wh=[] then [] else (⟨#[119,104,101,114,101]⟩:ByteArray)::nB wh),())) ?_).trans ?_
  · by_cases h:wh=[]
    · subst h;simp
    · have dw:decide ((wh.length:Int)>(0:Int))=true:=by
        cases wh with
        |nil=>exact absurd rfl h
        |cons a b=>rw [decide_eq_true_eq];simp only [List.length_cons];omega
      simp only [dw,cond_true,lu [(⟨#[119,104,101,114,101]⟩:ByteArray)] A (by simp;omega),Option.bind_some,EP wh (A++ [(⟨#[119,104,101,114,101]⟩:ByteArray)]) hw (by simp;omega),if_neg h]
      simp
  simp only []
  have hE:(if wh=[] then [] else (⟨#[119,104,101,114,101]⟩:ByteArray)::nB wh).length≤123:=mC _ _ _ (by simp) (by simp only [List.length_cons,qr];have:=hw.1;omega)
  generalize hB:A++(if wh=[] then [] else (⟨#[119,104,101,114,101]⟩:ByteArray)::nB wh)=B
  have hBl:B.length≤200:=by rw [←hB,List.length_append];omega
  rw [lu [(⟨#[112,105,99,107]⟩:ByteArray)] B (by simp;omega)]
  simp only [Option.bind_some]
  refine (tN pk hp kf (fun n _=>by simp [kf]) 300 (by decide) (fin:=fun out=>some (out++(if gr then [(⟨#[103,114,111,117,112]⟩:ByteArray)] else [])++jt oU false ag,())) ?_ ?_ pk.length 0 (by omega) (B++ [(⟨#[112,105,99,107]⟩:ByteArray)]) (by simp;omega)).trans ?_
  · intro i hi out ho
    have d1:decide ((i:Int)<(pk.length:Int))=true:=by simp;omega
    have d0:decide (0≤(i:Int))=true:=by simp
    have dg:decide ((i:Int)>(0:Int))=decide (0<i):=by simp only [decide_eq_decide];omega
    simp only [d1,d0,dg,Bool.and_self,cond_true,Int.toNat_natCast,bU hi,kH _ [(⟨#[44]⟩:ByteArray)] out (by simp;omega),Option.bind_some,cw hi (show pk.length<9223372036854775808 by omega)]
    rw [xz _ (hpi _ (List.getElem_mem hi))]
    simp only []
    have hcm:=mC (p:=decide (0<i)=true) [(⟨#[44]⟩:ByteArray)] [] 1 (by simp) (by simp)
    rw [lu _ _ (by simp only [List.length_append,List.length_cons,List.length_nil];omega)]
    simp only [Option.bind_some,kf,decide_eq_true_eq,List.append_assoc]
  · intro out ho
    have d1:decide ((pk.length:Int)<(pk.length:Int))=false:=by simp
    simp only [d1,cond_false,kH gr [(⟨#[103,114,111,117,112]⟩:ByteArray)] out (by simp;omega),Option.bind_some]
    have hg:=mC (p:=gr=true) [(⟨#[103,114,111,117,112]⟩:ByteArray)] [] 1 (by simp) (by simp)
    refine congrArg (Option.map Sum.inr) ?_
    refine (tN ag ha oU (fun a _=>xC a) 10000 (by decide) (fin:=fun out=>some (out,())) ?_ ?_ ag.length 0 (by omega) (out++(if gr=true then [(⟨#[103,114,111,117,112]⟩:ByteArray)] else [])) (by simp only [List.length_append];omega)).trans ?_
    · intro i hi out ho
      have d1:decide ((i:Int)<(ag.length:Int))=true:=by simp;omega
      have d0:decide (0≤(i:Int))=true:=by simp
      have dg:decide ((i:Int)>(0:Int))=decide (0<i):=by simp only [decide_eq_decide];omega
      simp only [d1,d0,dg,Bool.and_self,cond_true,Int.toNat_natCast,bU hi,kH _ [(⟨#[44]⟩:ByteArray)] out (by simp;omega),Option.bind_some,AX,cw hi (show ag.length<9223372036854775808 by omega)]
      have hcm:=mC (p:=decide (0<i)=true) [(⟨#[44]⟩:ByteArray)] [] 1 (by simp) (by simp)
      rw [lu _ _ (by simp only [List.length_append,List.length_cons,List.length_nil];omega)]
      simp only [Option.bind_some]
      rw [xz _ (hai _ (List.getElem_mem hi))]
      simp only []
      rw [kH _ _ _ (by simp only [List.length_append,List.length_cons,List.length_nil];omega)]
      simp only [Option.bind_some,oU,decide_eq_true_eq,List.append_assoc,AV]
      congr 6
      by_cases h0:ag[i].1=0<;>simp [h0]
    · intro out ho
      have d1:decide ((ag.length:Int)<(ag.length:Int))=false:=by simp
      simp only [d1,cond_false]
      rfl
    · simp only [List.drop_zero]
      rfl
  · rw [←hB,hA']
    simp only [List.drop_zero,xo]
    rfl
theorem gt {n:Int} {ws:List ByteArray} (h:∀w∈ws,w.size≤30):(fN n ws).size≤30:=by
 unfold fN
 split
 ·decide
 ·rw [List.getD_eq_getElem?_getD]
  cases hg:ws[n.toNat]? with
  |none=>decide
  |some w=>exact h w (List.mem_of_getElem? hg)
theorem DN {x:ae} (h:I64 x.2.1∧I64 x.2.2.2.1):(mB x).size≤2100:=by
 unfold mB
 split
 ·rw [cQ];have:=gX h.1;simp only [List.length_cons];omega
 ·split
  ·unfold rA
   split
   ·decide
   split
   ·decide
   split
   ·decide
   split
   ·rename_i hm;rw [cQ];exact CC hm h.2
   ·decide
  ·have:=@gt (IntKind.i64.wrap (x.1-2)) EE (by decide);omega
abbrev WB (l:List ByteArray):Prop:=∀w∈l,w.size≤2100
theorem WB.app {a b:List ByteArray} (h:WB a) (h':WB b):WB (a++b):=fun w hw=>by rcases List.mem_append.1 hw with hw|hw;exact h w hw;exact h' w hw
theorem WB.cons {a:ByteArray} {b:List ByteArray} (h:a.size≤2100) (h':WB b):WB (a::b):=fun w hw=>by rcases List.mem_cons.1 hw with rfl|hw;exact h;exact h' w hw
theorem WB.nil:WB []:=fun w hw=>by cases hw
theorem WB.ite {p:Prop} [Decidable p] {a b:List ByteArray} (h:WB a) (h':WB b):WB (if p then a else b):=by split<;>assumption
theorem WB.expr {e:List ae} (h:xy e):WB (nB e):=by
 unfold nB
 refine WB.app (.cons (by decide) fun w hw=>?_) (.cons (by decide) .nil)
 obtain ⟨x,hx,rfl⟩:=List.mem_map.1 hw
 exact DN (h.2 x hx).2
theorem WB.sep {α:Type} {f:α→List ByteArray}:∀(l:List α) (b:Bool),(∀x∈l,WB (f x))→WB (jt f b l):=by
 intro l
 induction l with
 |nil=>intro b _;exact .nil
 |cons x l ih=>
  intro b h
  exact ((WB.ite (.cons (by decide) .nil) .nil).app (h x (by simp))).app (ih true fun y hy=>h y (List.mem_cons_of_mem _ hy))
theorem WB.checks:∀(l:List (List ae)),(∀e∈l,xy e)→WB (l.flatMap p4):=by
 intro l
 induction l with
 |nil=>intro _;exact .nil
 |cons e l ih=>
  intro h
  rw [List.flatMap_cons]
  exact WB.app (.cons (by decide) (.expr (h e (by simp)))) (ih fun y hy=>h y (List.mem_cons_of_mem _ hy))
theorem F3 {d : Dl.Def} (h : Fit d) : WB (Cs d) ∧ (Cs d).length ≤ 1000000 := by
  obtain ⟨k,⟨tn,c,ck⟩,vn,vf,vw,⟨o1,o2⟩,wh,pk,gr,ag⟩:=d
  unfold Cs
  split
  · refine ⟨?_,?_⟩
    · unfold rD
      refine ((WB.app ?_ (.sep c false fun x hx=>?_)).app (.cons (by decide) .nil)).app (.checks _ h.each)
      · exact .cons (by decide) (.cons (Nat.le_trans h.n1 (by decide)) (.cons (by decide) .nil))
      · obtain ⟨n1,n2,_⟩:=h.names x hx
        unfold nC
        refine WB.app (.cons (by omega) (.cons (by have:=@gt (IntKind.i64.wrap (x.2.1-1)) kinds (by decide);omega) .nil)) (WB.app (.ite (.cons (by decide) .nil) .nil) (WB.app (.ite (.cons (by decide) .nil) .nil) (.ite .nil ?_)))
        exact .cons (by decide) (.cons (by omega) (.cons (by have:=@gt x.2.2.2.2.2 yj (by decide);omega) .nil))
    · unfold rD
      have l1:=xB nC c false (fun x _=>xA x)
      have l2:=CD ck h.each
      have l3:c.length≤400:=h.cols
      have l4:ck.length≤400:=h.checks
      simp only [List.length_append,List.length_cons,List.length_nil]
      omega
  · have i1:=gX h.o1
    have i2:=gX h.o2
    simp only at i1 i2
    refine ⟨?_,?_⟩
    · unfold xo
      refine ((((((WB.app ?_ (.ite .nil ?_)).app (.ite .nil (.cons (by decide) (.expr h.whr)))).app (.cons (by decide) .nil)).app (.sep pk false fun n hn=>?_)).app (.ite (.cons (by decide) .nil) .nil))).app (.sep ag false fun a ha=>?_)
      · exact .cons (by decide) (.cons (by have:vn.size≤100:=h.n2;simp only;omega) (.cons (by decide) (.cons (by have:vf.size≤100:=h.n3;simp only;omega) .nil)))
      · exact .cons (by decide) (.cons (by have:vw.size≤100:=h.n4;simp only;omega) (.cons (by decide) (.cons (by rw [cQ];simp only;omega) (.cons (by decide) (.cons (by rw [cQ];simp only;omega) .nil)))))
      · exact .cons (by rw [cQ];have:=gX (h.pk n hn);omega) .nil
      · unfold oU
        exact .cons (by have:=@gt a.1 fns (by decide);omega) (.ite .nil (.cons (by rw [cQ];have:=gX (h.ag a ha);omega) .nil))
    · unfold xo
      have l1:=xB kf pk false (fun n _=>by simp [kf])
      have l2:=xB oU ag false (fun a _=>xC a)
      have l3:pk.length≤400:=h.pick
      have l4:ag.length≤400:=h.aggs
      have l5:wh.length≤120:=h.whr.1
      have l6:=mC (p:=wh=[]) [] ((⟨#[119,104,101,114,101]⟩:ByteArray)::nB wh) 123 (by simp) (by simp only [List.length_cons,qr];omega)
      have l7:=mC (p:=vw=e0) [] [(⟨#[106,111,105,110]⟩:ByteArray),vw,(⟨#[111,110]⟩:ByteArray),bs (Lib.itoa o1),(⟨#[61]⟩:ByteArray),bs (Lib.itoa o2)] 6 (by simp) (by simp)
      have l8:=mC (p:=gr=true) [(⟨#[103,114,111,117,112]⟩:ByteArray)] [] 1 (by simp) (by simp)
      simp only [List.length_append,List.length_cons,List.length_nil] at l6 l7 l8 ⊢
      omega
theorem HW:∀(l:List ByteArray),WB l→(fA (l.map fun w=>w.data.toList)).length≤2101*l.length:=by
 intro l
 induction l with
 |nil=>intro _;simp [fA]
 |cons w l ih=>
  intro h
  have h1:=ih fun y hy=>h y (List.mem_cons_of_mem _ hy)
  have h2:w.data.toList.length≤2100:=h w (by simp)
  cases l with
  |nil=>simp only [List.map_cons,List.map_nil,fA,List.length_cons,List.length_nil];omega
  |cons v l=>
   rw [List.map_cons,gP _ (by simp)]
   simp only [List.length_append,List.length_cons] at h1 ⊢
   omega
theorem Fit.ln {d:Dl.Def} (h:Fit d):DLn d:=⟨by have:=h.cols;omega,by have:=h.checks;omega,fun e he=>by have:=(h.each e he).1;omega,by have:=h.whr.1;omega,by have:=h.pick;omega,by have:=h.aggs;omega⟩
theorem JE (k : Int) (tn : ByteArray) (c : List Col) (ck : List (List ae)) (vn vf vw : ByteArray) (o1 o2 : Int) (wh : List ae) (pk : List Int) (gr : Bool) (ag : List Agg)
    (h:Fit (k,((tn,(c,ck)),(vn,(vf,(vw,((o1,o2),(wh,(pk,(gr,ag)))))))))):
    c8.F (k,tn,c,ck,vn,vf,vw,o1,o2,wh,pk,gr,ag,())=some (bs (fo (k,((tn,(c,ck)),(vn,(vf,(vw,((o1,o2),(wh,(pk,(gr,ag)))))))))),()):=by
  have hln:=h.ln
  obtain ⟨w1,w2⟩:=F3 h
  have w3:=HW _ w1
  generalize hd:((k,((tn,(c,ck)),(vn,(vf,(vw,((o1,o2),(wh,(pk,(gr,ag))))))))):Dl.Def)=d at hln w1 w2 w3 h
  rw [c8.eq]
  unfold c8.B
  simp only []
  refine (cT (.inl (Cs d,())) ?_).trans ?_
  · subst hd
    unfold Cs
    by_cases h0:k=0
    · subst h0
      have:((0:Int)==(0:Int))=true:=by decide
      simp only [this,cond_true]
      rw [HV tn c ck h.cols h.checks h.each]
      rfl
    · have:(k==(0:Int))=false:=by simp [h0]
      simp only [this,cond_false,if_neg h0]
      rw [JD vn vf vw o1 o2 wh pk gr ag h.o1 h.o2 h.whr h.pick h.pk h.aggs h.ag]
      rfl
  simp only []
  rw [HT (Cs d) (by omega) (by omega)]
  simp only [cQ]
  have ht:fA ((Cs d).map fun w=>w.data.toList)=nD d:=rfl
  rw [ht]
  unfold fo
  by_cases hb:20000<(nD d).length
  · have:decide (((nD d).length:Int)>(20000:Int))=true:=by simp;omega
    rw [this,if_pos hb]
    rfl
  · have:decide (((nD d).length:Int)>(20000:Int))=false:=by simp;omega
    rw [this,if_neg hb]
    simp only [cond_false,Jv,jJ,Option.bind_some]
    generalize hr:ke (nD d)=r
    obtain ⟨q,e⟩:=r
    obtain ⟨q1,⟨q2,q3,q4⟩,q5,q6,q7,⟨q8,q8'⟩,q9,q10,q11,q12⟩:=q
    simp only [EJ]
    by_cases he:e=0
    · subst he
      have:((0:Int) !=(0:Int))=false:=by decide
      simp only [this,cond_false]
      have hsm:=KR k tn c ck vn vf vw o1 o2 wh pk gr ag q1 q2 q3 q4 q5 q6 q7 q8 q8' q9 q10 q11 q12 (hd▸hln)
      rw [hsm,hd]
      simp only [Option.bind_some]
      by_cases hq:d=(q1,((q2,(q3,q4)),(q5,(q6,(q7,((q8,q8'),(q9,(q10,(q11,q12)))))))))
      · rw [(nH _ _).2 hq,←hq,if_pos rfl]
        rfl
      · have:oQ d (q1,((q2,(q3,q4)),(q5,(q6,(q7,((q8,q8'),(q9,(q10,(q11,q12)))))))))=false:=by
          cases hs:oQ d (q1,((q2,(q3,q4)),(q5,(q6,(q7,((q8,q8'),(q9,(q10,(q11,q12))))))))) with
          |false=>rfl
          |true=>exact absurd ((nH _ _).1 hs) hq
        rw [this,if_neg (fun e=>hq (Prod.mk.inj e).1.symm)]
        rfl
    · have:(e !=(0:Int))=true:=by simp [he]
      simp only [this,cond_true]
      rw [if_neg (fun e'=>he (Prod.mk.inj e').2)]
theorem May_s (k:Int) (tn:ByteArray) (c:List Col) (ck:List (List ae)) (vn vf vw:ByteArray) (o1 o2:Int) (wh:List ae) (pk:List Int) (gr:Bool) (ag:List Agg)
 (h:Fit (k,((tn,(c,ck)),(vn,(vf,(vw,((o1,o2),(wh,(pk,(gr,ag)))))))))):
 eb.F (k,tn,c,ck,vn,vf,vw,o1,o2,wh,pk,gr,ag,())=some (!decide (fo (k,((tn,(c,ck)),(vn,(vf,(vw,((o1,o2),(wh,(pk,(gr,ag)))))))))=[]),()):=by
 rw [eb.eq]
 unfold eb.B
 simp only [JE k tn c ck vn vf vw o1 o2 wh pk gr ag h,Option.bind_some]
 rw [show (⟨#[]⟩:ByteArray)=bs [] from rfl,rG]
end Go.Proofs.Ytleadolkcmagfaa
end
