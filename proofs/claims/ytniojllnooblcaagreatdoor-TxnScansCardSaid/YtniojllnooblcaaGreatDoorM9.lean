import Derived.Test.YtniojllnooblcaaGreatDoorM8
import Derived.Lib.AtoiAll
import Derived.Lib.ItoaNum
import Derived.Lib.Replace
import Derived.Lib.Join
import Derived.Test.YtniojllnooblcaaGreatDoorM4
import Derived.Lib.ItoaLen
set_option linter.all false
set_option linter.unusedVariables false
set_option linter.unusedSimpArgs false
set_option linter.unusedSectionVars false
section
section
/-the plain lexer:texts as lists of bytes -/
namespace Dl
open Go
abbrev Val:=Int×(Int×ByteArray)
abbrev Tok:=Int×(ByteArray×Val)
abbrev bs (l:List UInt8):ByteArray:=⟨l.toArray⟩
abbrev e0:ByteArray:=(⟨#[]⟩:ByteArray)
def letter (c:UInt8):Bool:=decide (97≤c.toNat)&&decide (c.toNat≤122)
def digit (c:UInt8):Bool:=decide (48≤c.toNat)&&decide (c.toNat≤57)
def inner (c:UInt8):Bool:=letter c||digit c||decide (c=95)
def signs:List UInt8:=([40,41,91,93,44,61,60,43,45,42,63]:List UInt8)
def isWordL (w:List UInt8):Bool:=match w with
  | []=>false
  |c::_=>letter c&&w.all inner&&decide (w.length≤30)
def numS (w:List UInt8):Option Int:=match Lib.atoiAll w with
  | .ok v=>if Lib.itoa v=w then some v else none
  |_=>none
/--behind the opening quote:what is quoted,and what stands behind -/
def textS : List UInt8 → Option (List UInt8 × List UInt8)
  | []=>none
  | c :: r => if c = 39 then (match r with
      | []=>some ([],[])
      |d::r'=>if d=39 then (textS r').map fun x=>(39::x.1,x.2) else some ([],d::r'))
    else (textS r).map fun x=>(c::x.1,x.2)
def hdDigit:List UInt8→Bool
  | []=>false
  |d::_=>digit d
def wordT (w:List UInt8):Tok:=(0,(bs w,(0,(0,e0))))
def signT (c:UInt8):Tok:=(2,(bs [c],(0,(0,e0))))
def numT (n:Int):Tok:=(1,(e0,(2,(n,e0))))
def textT (w:List UInt8):Tok:=(1,(e0,(3,(0,bs w))))
def tokS : List UInt8 → Option (Tok × List UInt8)
  | []=>none
  |c::r=>
    if letter c then (if (c::r.takeWhile inner).length≤30 then some (wordT (c::r.takeWhile inner),r.dropWhile inner) else none)
    else if digit c||(decide (c=45)&&hdDigit r) then (numS (c::r.takeWhile digit)).map fun n=>(numT n,r.dropWhile digit)
    else if c=39 then (textS r).bind fun x=>if x.1.length≤1000 then some (textT x.1,x.2) else none
    else if c∈signs then some (signT c,r) else none
def lexN:Nat→List UInt8→Option (List Tok)
  |_,[]=>some []
  |0,_::_=>none
  |n+1,c::r=>if c=32 then lexN n r else (tokS (c::r)).bind fun x=>(lexN n x.2).map (x.1:: ·)
def lexS (l:List UInt8):Option (List Tok):=lexN l.length l
theorem textS_cons (c:UInt8) (r:List UInt8):textS (c::r)=if c=39 then (match r with
      | []=>some ([],[])
      |d::r'=>if d=39 then (textS r').map fun x=>(39::x.1,x.2) else some ([],d::r'))
    else (textS r).map fun x=>(c::x.1,x.2):=by rw [textS.eq_def]
theorem dropWhile_len {p:UInt8→Bool} (l:List UInt8):(l.dropWhile p).length≤l.length:=by
  induction l with
  |nil=>simp
  |cons a l ih=>simp only [List.dropWhile];split<;>simp<;>omega
theorem textS_len : ∀ (n : Nat) (l : List UInt8),l.length ≤ n → ∀ x,textS l = some x → x.2.length < l.length ∧ x.1.length + x.2.length < l.length + 0 := by
  intro n
  induction n with
  |zero=>intro l hl x h;cases l<;>simp [textS] at h hl
  |succ n ih=>
    intro l hl x h
    match l,hl,h with
    | c :: r,hl,h =>
      rw [textS_cons] at h
      split at h
      · match r,hl,h with
        | [],hl,h=>cases h;simp
        | d :: r',hl,h =>
          simp only at h
          split at h
          · simp only [Option.map_eq_some_iff] at h
            obtain ⟨y,hy,rfl⟩:=h
            have:=ih r' (by simp at hl;omega) y hy
            simp;omega
          · cases h;simp
      · simp only [Option.map_eq_some_iff] at h
        obtain ⟨y,hy,rfl⟩:=h
        have:=ih r (by simp at hl;omega) y hy
        simp;omega
theorem tokS_len {l : List UInt8} {x : Tok × List UInt8} (h : tokS l = some x) : x.2.length < l.length := by
  cases l with
  |nil=>cases h
  |cons c r=>
    simp only [tokS] at h
    split at h
    · split at h
      · cases h;have:=dropWhile_len (p:=inner) r;simp;omega
      · cases h
    · split at h
      · simp only [Option.map_eq_some_iff] at h
        obtain ⟨y,hy,rfl⟩:=h
        have:=dropWhile_len (p:=digit) r;simp;omega
      · split at h
        · simp only [Option.bind_eq_some_iff] at h
          obtain ⟨y,hy,h⟩:=h
          split at h
          · cases h;have:=(textS_len _ r (Nat.le_refl _) y hy).1;simp;omega
          · cases h
        · split at h
          · cases h;simp
          · cases h
/--more steps than bytes change nothing -/
theorem lexN_more : ∀ (n m : Nat) (l : List UInt8),l.length ≤ n → l.length ≤ m → lexN n l = lexN m l := by
  intro n
  induction n with
  |zero=>
    intro m l h1 h2
    cases l with
    |nil=>cases m<;>rfl
    |cons c r=>simp at h1
  |succ n ih=>
    intro m l h1 h2
    cases l with
    |nil=>cases m<;>rfl
    |cons c r=>
      cases m with
      |zero=>simp at h2
      |succ m=>
        simp only [lexN]
        split
        · exact ih m r (by simp at h1;omega) (by simp at h2;omega)
        · cases h:tokS (c::r) with
          |none=>rfl
          |some x=>
            have:=tokS_len h
            simp only [Option.bind_some]
            rw [ih m x.2 (by simp at h1 this;omega) (by simp at h2 this;omega)]
theorem lexS_nil:lexS []=some []:=rfl
theorem lexS_blank (r:List UInt8):lexS (32::r)=lexS r:=by
  show lexN (r.length+1) (32::r)=_
  simp [lexN,lexS]
theorem lexS_cons {c:UInt8} (r:List UInt8) (hc:c≠32):lexS (c::r)=(tokS (c::r)).bind fun x=>(lexS x.2).map (x.1:: ·):=by
  show lexN (r.length+1) (c::r)=_
  simp only [lexN,if_neg hc]
  cases h:tokS (c::r) with
  |none=>rfl
  |some x=>
    have:=tokS_len h
    simp only [Option.bind_some,lexS]
    rw [lexN_more r.length x.2.length x.2 (by simp at this;omega) (Nat.le_refl _)]
def dbl:List UInt8→List UInt8
  | []=> []
  |c::r=>if c=39 then 39::39::dbl r else c::dbl r
def showT (t:Tok):List UInt8:=if t.1=1 then (if t.2.2.1=2 then Lib.itoa t.2.2.2.1 else 39::dbl t.2.2.2.2.data.toList++ [39]) else t.2.1.data.toList
inductive TokOk:Tok→Prop
  |word {w:List UInt8}:isWordL w=true→TokOk (wordT w)
  |sign {c:UInt8}:c∈signs→TokOk (signT c)
  |num {n:Int}:numS (Lib.itoa n)=some n→(∃c r,Lib.itoa n=c::r∧(digit c=true∨(c=45∧∃d r',r=d::r'∧digit d=true))∧∀x∈r,digit x=true)→TokOk (numT n)
  |text {w:List UInt8}:w.length≤1000→TokOk (textT w)
theorem showT_text (w:List UInt8):showT (textT w)=39::dbl w++ [39]:=rfl
theorem takeWhile_all {p:UInt8→Bool} (l:List UInt8):∀x∈l.takeWhile p,p x=true:=by
  induction l with
  |nil=>simp
  |cons a l ih=>simp only [List.takeWhile];split<;>simp_all
theorem takeWhile_drop {p:UInt8→Bool} (l:List UInt8):(l.takeWhile p).length+(l.dropWhile p).length=l.length:=by
  have h:=congrArg List.length (List.takeWhile_append_dropWhile (p:=p) (l:=l))
  rw [List.length_append] at h
  exact h
theorem numS_itoa {w:List UInt8} {n:Int} (h:numS w=some n):Lib.itoa n=w:=by
  unfold numS at h
  cases h1:Lib.atoiAll w with
  |ok v=>rw [h1] at h;simp only at h;split at h<;>rename_i h2<;>cases h;exact h2
  |_=>rw [h1] at h;cases h
/--the quoted text as it stands -/
theorem textS_src : ∀ (n : Nat) (l : List UInt8),l.length ≤ n → ∀ x,textS l = some x → l = dbl x.1 ++ 39 :: x.2 ∧ x.2.head? ≠ some 39 := by
  intro n
  induction n with
  |zero=>intro l hl x h;cases l<;>simp [textS] at h hl
  |succ n ih=>
    intro l hl x h
    match l,hl,h with
    | c :: r,hl,h =>
      rw [textS_cons] at h
      split at h
      · rename_i hc
        subst hc
        match r,hl,h with
        | [],hl,h=>cases h;simp [dbl]
        | d :: r',hl,h =>
          simp only at h
          split at h
          · rename_i hd
            subst hd
            simp only [Option.map_eq_some_iff] at h
            obtain ⟨y,hy,rfl⟩:=h
            have:=ih r' (by simp at hl;omega) y hy
            simp only [dbl,if_true]
            rw [this.1]
            exact ⟨by simp,this.2⟩
          · rename_i hd
            cases h;simp [dbl,hd]
      · rename_i hc
        simp only [Option.map_eq_some_iff] at h
        obtain ⟨y,hy,rfl⟩:=h
        have:=ih r (by simp at hl;omega) y hy
        simp only [dbl,if_neg hc]
        rw [this.1]
        exact ⟨by simp,this.2⟩
/--what is read is a token,and its text is what was read -/
theorem tokS_ok {l : List UInt8} {x : Tok × List UInt8} (h : tokS l = some x) : TokOk x.1 ∧ l = showT x.1 ++ x.2 := by
  cases l with
  |nil=>cases h
  |cons c r=>
    simp only [tokS] at h
    split at h
    · rename_i hc
      split at h
      · rename_i hl
        cases h
        refine ⟨.word ?_,?_⟩
        · simp only [isWordL,hc,Bool.true_and,Bool.and_eq_true,List.all_eq_true,decide_eq_true_eq]
          refine ⟨fun y hy=>?_,hl⟩
          rcases List.mem_cons.1 hy with rfl|hy
          · simp [inner,hc]
          · exact takeWhile_all _ _ hy
        · simp [showT,wordT,List.takeWhile_append_dropWhile]
      · cases h
    · split at h
      · rename_i hd
        simp only [Option.map_eq_some_iff] at h
        obtain ⟨y,hy,rfl⟩:=h
        have e:=numS_itoa hy
        refine ⟨.num (by rw [e];exact hy) ⟨c,r.takeWhile digit,e,?_,takeWhile_all _⟩,?_⟩
        · rw [Bool.or_eq_true] at hd
          rcases hd with hd|hd
          · exact .inl hd
          · rw [Bool.and_eq_true] at hd
            refine .inr ⟨by simpa using hd.1,?_⟩
            cases r with
            |nil=>simp [hdDigit] at hd
            |cons d r'=>exact ⟨d,r'.takeWhile digit,by simp [List.takeWhile,show digit d=true from hd.2],hd.2⟩
        · simp only [showT,numT,if_true]
          rw [e,List.cons_append,List.takeWhile_append_dropWhile]
      · split at h
        · rename_i hc
          subst hc
          simp only [Option.bind_eq_some_iff] at h
          obtain ⟨y,hy,h⟩:=h
          split at h
          · rename_i hl
            cases h
            refine ⟨.text hl,?_⟩
            have:=(textS_src _ r (Nat.le_refl _) y hy).1
            simp only [showT_text]
            rw [this]
            simp
          · cases h
        · split at h
          · rename_i hs
            cases h
            exact ⟨.sign hs,by simp [showT,signT]⟩
          · cases h
theorem showT_ne {t:Tok} (h:TokOk t):∃c r,showT t=c::r∧c≠32:=by
  cases h with
  |@word w hw=>
    cases w with
    |nil=>cases hw
    |cons c w=>
      refine ⟨c,w,rfl,fun e=>?_⟩
      subst e
      simp [isWordL,letter] at hw
  |@sign c hc=>exact ⟨c,[],rfl,fun e=>by subst e;revert hc;decide⟩
  |@num n hn hs=>
    obtain ⟨c,r,e,h1,h2⟩:=hs
    refine ⟨c,r,by simp [showT,numT,e],fun e=>?_⟩
    subst e
    rcases h1 with h1|⟨h1,_⟩
    · simp [digit] at h1
    · revert h1;decide
  |@text w hw=>exact ⟨39,_,rfl,by decide⟩
/--words parted by blanks -/
def joinL:List (List UInt8)→List UInt8
  | []=> []
  | [w]=>w
  |w::r=>w++32::joinL r
/--what was read:tokens;and their texts are no longer than twice what was read -/
def lenT (x:List Tok):Nat:=(x.map fun t=>(showT t).length+1).sum
theorem lexS_ok : ∀ (n : Nat) (l : List UInt8),l.length ≤ n → ∀ x,lexS l = some x → (∀ t ∈ x,TokOk t) ∧ lenT x ≤ 2 * l.length := by
  intro n
  induction n with
  |zero=>
    intro l hl x h
    cases l with
    |nil=>cases h;simp [lenT]
    |cons c r=>simp at hl
  |succ n ih=>
    intro l hl x h
    cases l with
    |nil=>cases h;simp [lenT]
    |cons c r=>
      by_cases hc:c=32
      · subst hc
        rw [lexS_blank] at h
        have:=ih r (by simp at hl;omega) x h
        refine ⟨this.1,?_⟩
        simp only [List.length_cons]
        omega
      · rw [lexS_cons _ hc] at h
        simp only [Option.bind_eq_some_iff,Option.map_eq_some_iff] at h
        obtain ⟨y,hy,z,hz,rfl⟩:=h
        obtain ⟨h1,h2⟩:=tokS_ok hy
        have h3:=tokS_len hy
        obtain ⟨h4,h5⟩:=ih y.2 (by simp at hl h3;omega) z hz
        refine ⟨fun t ht=>by rcases List.mem_cons.1 ht with rfl|ht;exact h1;exact h4 t ht,?_⟩
        obtain ⟨d,q,e,_⟩:=showT_ne h1
        have hp:1≤(showT y.1).length:=by rw [e];simp
        have hlen:(c::r).length=(showT y.1).length+y.2.length:=by rw [h2,List.length_append]
        simp only [lenT,List.map_cons,List.sum_cons] at h5 ⊢
        omega
end Dl
end
section
/-the plain parser:lists of tokens -/
namespace Dl
open Go
abbrev Node:=Int×(Int×Val)
abbrev Agg:=Int×Int
abbrev Col:=ByteArray×(Int×(Bool×(Bool×(ByteArray×Int))))
abbrev Tab:=ByteArray×(List Col×List (List Node))
abbrev View:=ByteArray×(ByteArray×(ByteArray×(Agg×(List Node×(List Int×(Bool×List Agg))))))
abbrev Def:=Int×(Tab×View)
abbrev v0:Val:=(0,(0,e0))
abbrev tab0:Tab:=(e0,([],[]))
abbrev view0:View:=(e0,(e0,(e0,((0,0),([],([],(false,[])))))))
abbrev keywords:List ByteArray:=[(⟨#[116,97,98,108,101]⟩:ByteArray),(⟨#[99,104,101,99,107]⟩:ByteArray),(⟨#[118,105,101,119]⟩:ByteArray),(⟨#[102,114,111,109]⟩:ByteArray),(⟨#[106,111,105,110]⟩:ByteArray),(⟨#[111,110]⟩:ByteArray),(⟨#[119,104,101,114,101]⟩:ByteArray),(⟨#[112,105,99,107]⟩:ByteArray),(⟨#[103,114,111,117,112]⟩:ByteArray),(⟨#[98,111,111,108]⟩:ByteArray),(⟨#[105,110,116]⟩:ByteArray),(⟨#[116,101,120,116]⟩:ByteArray),(⟨#[110,117,108,108]⟩:ByteArray),(⟨#[117,110,105,113,117,101]⟩:ByteArray),(⟨#[114,101,102]⟩:ByteArray),(⟨#[114,101,115,116,114,105,99,116]⟩:ByteArray),(⟨#[99,97,115,99,97,100,101]⟩:ByteArray),(⟨#[115,101,116,110,117,108,108]⟩:ByteArray),(⟨#[99,111,117,110,116]⟩:ByteArray),(⟨#[115,117,109]⟩:ByteArray),(⟨#[109,105,110]⟩:ByteArray),(⟨#[109,97,120]⟩:ByteArray),(⟨#[116,114,117,101]⟩:ByteArray),(⟨#[102,97,108,115,101]⟩:ByteArray),(⟨#[97,110,100]⟩:ByteArray),(⟨#[111,114]⟩:ByteArray),(⟨#[110,111,116]⟩:ByteArray)]
def isWord (b:ByteArray):Bool:=isWordL b.data.toList
def isName (b:ByteArray):Bool:=isWord b&& !keywords.any fun k=>decide (k=b)
def tk (s:ByteArray):List Tok→Option (List Tok)
  | []=>none
  |t::r=>if t.1≠1∧t.2.1=s then some r else none
def tkL:List ByteArray→List Tok→Option (List Tok)
  | [],l=>some l
  |s::ss,l=>(tk s l).bind (tkL ss)
def oneS (i : Int) : List ByteArray → List Tok → Option (Int × List Tok)
  | [],_=>none
  |w::ws,l=>match tk w l with
    |some r=>some (i,r)
    |none=>oneS (i+1) ws l
def nameS:List Tok→Option (ByteArray×List Tok)
  | []=>none
  |t::r=>if t.1=0∧isName t.2.1=true then some (t.2.1,r) else none
def colS:List Tok→Option (Int×List Tok)
  | []=>none
  |t::r=>if t.1=1∧t.2.2.1=2∧0≤t.2.2.2.1∧t.2.2.2.1≤99 then some (t.2.2.2.1,r) else none
def opOf (b:ByteArray):Option Int:=
  if b=(⟨#[110,111,116]⟩:ByteArray) then some 9 else if b=(⟨#[111,114]⟩:ByteArray) then some 8 else if b=(⟨#[97,110,100]⟩:ByteArray) then some 7 else if b=(⟨#[60]⟩:ByteArray) then some 6 else if b=(⟨#[61]⟩:ByteArray) then some 5 else if b=(⟨#[42]⟩:ByteArray) then some 4 else if b=(⟨#[45]⟩:ByteArray) then some 3 else if b=(⟨#[43]⟩:ByteArray) then some 2 else none
def constOf (b:ByteArray):Option Val:=
  if b=(⟨#[116,114,117,101]⟩:ByteArray) then some (1,(1,e0)) else if b=(⟨#[102,97,108,115,101]⟩:ByteArray) then some (1,(0,e0)) else if b=(⟨#[110,117,108,108]⟩:ByteArray) then some (0,(0,e0)) else none
def colP (l : List UInt8) : Option Int := match l with
  | []=>none
  |c::d=>if c=99 then (match Lib.atoiAll d with
    | .ok n=>if n≤99∧Lib.itoa n=d then some n else none
    |_=>none) else none
def stepS (l : List Tok) : Option (Node × List Tok) := match tkL [(⟨#[110,117,108,108]⟩ : ByteArray),(⟨#[63]⟩ : ByteArray)] l with
  |some r=>some ((10,(0,v0)),r)
  |none=>match l with
    | []=>none
    | t :: r => if t.1 = 1 then some ((1,(0,t.2.2)),r) else
      match opOf t.2.1 with
      |some op=>some ((op,(0,v0)),r)
      |none=>match constOf t.2.1 with
        |some v=>some ((1,(0,v)),r)
        |none=>(colP t.2.1.data.toList).map fun n=>((0,(n,v0)),r)
def stepsS : Nat → List Tok → Option (List Node × List Tok)
  |n,l=>match tk (⟨#[93]⟩:ByteArray) l with
    |some r=>some ([],r)
    |none=>match n with
      |0=>none
      |n+1=>(stepS l).bind fun x=>(stepsS n x.2).map fun y=>(x.1::y.1,y.2)
def exprS (l:List Tok):Option (List Node×List Tok):=(tk (⟨#[91]⟩:ByteArray) l).bind (stepsS 100)
def flag (s:ByteArray) (l:List Tok):Bool×List Tok:=match tk s l with
  |some r=>(true,r)
  |none=>(false,l)
abbrev kinds:List ByteArray:=[(⟨#[98,111,111,108]⟩:ByteArray),(⟨#[105,110,116]⟩:ByteArray),(⟨#[116,101,120,116]⟩:ByteArray)]
abbrev acts:List ByteArray:=[(⟨#[114,101,115,116,114,105,99,116]⟩:ByteArray),(⟨#[99,97,115,99,97,100,101]⟩:ByteArray),(⟨#[115,101,116,110,117,108,108]⟩:ByteArray)]
abbrev fns:List ByteArray:=[(⟨#[99,111,117,110,116]⟩:ByteArray),(⟨#[115,117,109]⟩:ByteArray),(⟨#[109,105,110]⟩:ByteArray),(⟨#[109,97,120]⟩:ByteArray)]
def refS (l:List Tok):Option ((ByteArray×Int)×List Tok):=match tk (⟨#[114,101,102]⟩:ByteArray) l with
  |none=>some ((e0,0),l)
  |some r=>(nameS r).bind fun x=>(oneS 0 acts x.2).map fun y=>((x.1,y.1),y.2)
def columnS (l:List Tok):Option (Col×List Tok):=(nameS l).bind fun x=>(oneS 0 kinds x.2).bind fun y=>
  (refS (flag (⟨#[117,110,105,113,117,101]⟩:ByteArray) (flag (⟨#[110,117,108,108]⟩:ByteArray) y.2).2).2).map fun z=>((x.1,(1+y.1,((flag (⟨#[110,117,108,108]⟩:ByteArray) y.2).1,((flag (⟨#[117,110,105,113,117,101]⟩:ByteArray) (flag (⟨#[110,117,108,108]⟩:ByteArray) y.2).2).1,z.1)))),z.2)
/--what is parted by commas:n more at most -/
def sepS {α : Type} (p : List Tok → Option (α × List Tok)) : Nat → List Tok → Option (List α × List Tok)
  |n,l=>(p l).bind fun x=>match tk (⟨#[44]⟩:ByteArray) x.2 with
    |none=>some ([x.1],x.2)
    |some r=>match n with
      |0=>none
      |n+1=>(sepS p n r).map fun y=>(x.1::y.1,y.2)
def checksS : Nat → List Tok → Option (List (List Node) × List Tok)
  |n,l=>match tk (⟨#[99,104,101,99,107]⟩:ByteArray) l with
    |none=>some ([],l)
    |some r=>match n with
      |0=>none
      |n+1=>(exprS r).bind fun x=>(checksS n x.2).map fun y=>(x.1::y.1,y.2)
def tableS (l:List Tok):Option (Tab×List Tok):=(nameS l).bind fun x=>(tk (⟨#[40]⟩:ByteArray) x.2).bind fun l=>(sepS columnS 39 l).bind fun y=>(tk (⟨#[41]⟩:ByteArray) y.2).bind fun l=>(checksS 40 l).map fun z=>((x.1,(y.1,z.1)),z.2)
def aggS (l:List Tok):Option (Agg×List Tok):=(oneS 0 fns l).bind fun x=>if x.1=0 then some ((0,0),x.2) else (colS x.2).map fun y=>((x.1,y.1),y.2)
def joinS (l:List Tok):Option ((ByteArray×Agg)×List Tok):=match tk (⟨#[106,111,105,110]⟩:ByteArray) l with
  |none=>some ((e0,(0,0)),l)
  |some r=>(nameS r).bind fun x=>(tk (⟨#[111,110]⟩:ByteArray) x.2).bind fun l=>(colS l).bind fun a=>(tk (⟨#[61]⟩:ByteArray) a.2).bind fun l=>(colS l).map fun b=>((x.1,(a.1,b.1)),b.2)
def whereS (l:List Tok):Option (List Node×List Tok):=match tk (⟨#[119,104,101,114,101]⟩:ByteArray) l with
  |none=>some ([],l)
  |some r=>exprS r
def pickS (l:List Tok):Option (List Int×List Tok):=if l=[]∨(tk (⟨#[103,114,111,117,112]⟩:ByteArray) l).isSome then some ([],l) else sepS colS 39 l
def groupS (l:List Tok):Option ((Bool×List Agg)×List Tok):=match tk (⟨#[103,114,111,117,112]⟩:ByteArray) l with
  |none=>some ((false,[]),l)
  |some r=>if r=[] then some ((true,[]),r) else (sepS aggS 39 r).map fun x=>((true,x.1),x.2)
def viewS (l:List Tok):Option (View×List Tok):=(nameS l).bind fun x=>(tk (⟨#[102,114,111,109]⟩:ByteArray) x.2).bind fun l=>(nameS l).bind fun f=>(joinS f.2).bind fun j=>(whereS j.2).bind fun w=>(tk (⟨#[112,105,99,107]⟩:ByteArray) w.2).bind fun l=>(pickS l).bind fun p=>(groupS p.2).map fun g=>
  ((x.1,(f.1,(j.1.1,(j.1.2,(w.1,(p.1,g.1)))))),g.2)
def defS (l:List Tok):Option (Def×List Tok):=(oneS 0 [(⟨#[116,97,98,108,101]⟩:ByteArray),(⟨#[118,105,101,119]⟩:ByteArray)] l).bind fun x=>
  if x.1=0 then (tableS x.2).map fun y=>((0,(y.1,view0)),y.2) else (viewS x.2).map fun y=>((x.1,(tab0,y.1)),y.2)
def parseS (l:List Tok):Option Def:=(defS l).bind fun x=>if x.2=[] then some x.1 else none
abbrev def0:Def:=(0,(tab0,view0))
/--ddl.Parse,of a text of at most 20000 bytes -/
def readS (s : List UInt8) : Def × Int := if 20000 < s.length then (def0,60) else match lexS s with
  |none=>(def0,60)
  |some l=>match parseS l with
    |none=>(def0,70)
    |some d=>(d,0)
abbrev AllOk (l:List Tok):Prop:=∀t∈l,TokOk t
theorem bs_data (s:ByteArray):bs s.data.toList=s:=by cases s;rfl
theorem bs_list (l:List UInt8):(bs l).data.toList=l:=rfl
def ValOk (v:Val):Prop:=v=(0,(0,e0))∨v=(1,(0,e0))∨v=(1,(1,e0))∨TokOk (1,(e0,v))
def StepOk (x:Node):Prop:=(x.1=10∧x.2=(0,v0))∨(x.1=0∧0≤x.2.1∧x.2.1≤99∧x.2.2=v0)∨(x.1=1∧x.2.1=0∧ValOk x.2.2)∨(2≤x.1∧x.1≤9∧x.2=(0,v0))
theorem colP_spec {l : List UInt8} {n : Int} (h : colP l = some n) : l = 99 :: Lib.itoa n ∧ n ≤ 99 := by
  unfold colP at h
  split at h
  · cases h
  · split at h
    · rename_i c
      subst c
      split at h
      · split at h
        · rename_i hc
          cases h
          exact ⟨by rw [hc.2],hc.1⟩
        · cases h
      · cases h
    · cases h
def ExprOk (e:List Node):Prop:=(∀y∈e,StepOk y)∧e.length≤100
def ColOk (c:Col):Prop:=isName c.1=true∧1≤c.2.1∧c.2.1≤3∧((c.2.2.2.2.1=e0∧c.2.2.2.2.2=0)∨(isName c.2.2.2.2.1=true∧0≤c.2.2.2.2.2∧c.2.2.2.2.2<3))
structure TabOk (t:Tab):Prop where
  name:isName t.1=true
  cols:∀c∈t.2.1,ColOk c
  checks:∀e∈t.2.2,ExprOk e
  some:1≤t.2.1.length
  most:t.2.1.length≤40
  most2:t.2.2.length≤40
def AggOk (a:Agg):Prop:=0≤a.1∧a.1<4∧0≤a.2∧a.2≤99∧(a.1=0→a.2=0)
structure ViewOk (v:View):Prop where
  name:isName v.1=true
  fr:isName v.2.1=true
  join:(v.2.2.1=e0∧v.2.2.2.1=(0,0))∨(isName v.2.2.1=true∧0≤v.2.2.2.1.1∧v.2.2.2.1.1≤99∧0≤v.2.2.2.1.2∧v.2.2.2.1.2≤99)
  whr:ExprOk v.2.2.2.2.1
  pick:∀n∈v.2.2.2.2.2.1,0≤n∧n≤99
  most:v.2.2.2.2.2.1.length≤40
  aggs:∀a∈v.2.2.2.2.2.2.2,AggOk a
  most2:v.2.2.2.2.2.2.2.length≤40
  group:v.2.2.2.2.2.2.1=true∨v.2.2.2.2.2.2.2=[]
end Dl
end
section
/-the plain printer:words -/
namespace Dl
open Go
def wordW (n:Int) (ws:List ByteArray):ByteArray:=if n<0∨(ws.length:Int)≤n then (⟨#[33]⟩:ByteArray) else ws.getD n.toNat e0
def opWords:List ByteArray:=[(⟨#[43]⟩:ByteArray),(⟨#[45]⟩:ByteArray),(⟨#[42]⟩:ByteArray),(⟨#[61]⟩:ByteArray),(⟨#[60]⟩:ByteArray),(⟨#[97,110,100]⟩:ByteArray),(⟨#[111,114]⟩:ByteArray),(⟨#[110,111,116]⟩:ByteArray),(⟨#[110,117,108,108,32,63]⟩:ByteArray)]
def vMay (v:Val):Bool:=(decide (v.1=2)&&decide (v.2.2=e0))||(decide (v.1=3)&&(decide (v.2.1=0)&&decide (v.2.2.size≤1000)))
def constW (v:Val):ByteArray:=if v=(0,(0,e0)) then (⟨#[110,117,108,108]⟩:ByteArray) else if v=(1,(0,e0)) then (⟨#[102,97,108,115,101]⟩:ByteArray) else if v=(1,(1,e0)) then (⟨#[116,114,117,101]⟩:ByteArray) else if vMay v then bs (showT (1,(e0,v))) else (⟨#[33]⟩:ByteArray)
def stepW (x:Node):ByteArray:=if x.1=0 then bs (99::Lib.itoa x.2.1) else if x.1=1 then constW x.2.2 else wordW (IntKind.i64.wrap (x.1-2)) opWords
def exprW (e:List Node):List ByteArray:=(⟨#[91]⟩:ByteArray)::e.map stepW++ [(⟨#[93]⟩:ByteArray)]
/--parted by commas:b:is there one ahead? -/
def sepW {α:Type} (f:α→List ByteArray):Bool→List α→List ByteArray
  |_,[]=> []
  |b,x::r=>(if b then [(⟨#[44]⟩:ByteArray)] else [])++f x++sepW f true r
def colW (c:Col):List ByteArray:=[c.1,wordW (IntKind.i64.wrap (c.2.1-1)) kinds]++((if c.2.2.1 then [(⟨#[110,117,108,108]⟩:ByteArray)] else [])++((if c.2.2.2.1 then [(⟨#[117,110,105,113,117,101]⟩:ByteArray)] else [])++(if c.2.2.2.2.1=e0 then [] else [(⟨#[114,101,102]⟩:ByteArray),c.2.2.2.2.1,wordW c.2.2.2.2.2 acts])))
def checkW (e:List Node):List ByteArray:=(⟨#[99,104,101,99,107]⟩:ByteArray)::exprW e
def pickW (n:Int):List ByteArray:=[bs (Lib.itoa n)]
def aggW (a:Agg):List ByteArray:=wordW a.1 fns::(if a.1=0 then [] else [bs (Lib.itoa a.2)])
open Classical in
/--the same text,whatever stands around -/
def Sep (a:List ByteArray) (b:List Tok):Prop:=∀(p q:List (List UInt8)),joinL (p++a.map (fun w=>w.data.toList)++q)=joinL (p++b.map showT++q)
theorem Sep.of {a:List ByteArray} {b:List Tok} (h:a.map (fun w=>w.data.toList)=b.map showT):Sep a b:=fun p q=>by rw [h]
theorem Sep.app {a a':List ByteArray} {b b':List Tok} (h:Sep a b) (h':Sep a' b'):Sep (a++a') (b++b'):=fun p q=>by
  rw [List.map_append,List.map_append]
  have e1:=h p (a'.map (fun w=>w.data.toList)++q)
  have e2:=h' (p++b.map showT) q
  simp only [List.append_assoc] at e1 e2 ⊢
  rw [e1,e2]
theorem Sep.cons {w:ByteArray} {t:Tok} (h:w.data.toList=showT t) {a':List ByteArray} {b':List Tok} (h':Sep a' b'):Sep (w::a') (t::b'):=Sep.app (a:=[w]) (b:=[t]) (.of (by simp [h])) h'
theorem Sep.nil:Sep [] []:=.of rfl
end Dl
end
section
namespace Go.Proofs.Ytniojllnooblcaa
open Go Lv Go.Proofs Go.RowKit Go.Shelf Dl
abbrev lst (s:ByteArray) (i:Nat):List UInt8:=s.data.toList.drop i
theorem lst_len (s:ByteArray) (i:Nat):(lst s i).length=s.size-i:=by
  show (List.drop i s.data.toList).length=_
  rw [List.length_drop];rfl
theorem lst_cons {s:ByteArray} {i:Nat} {c:UInt8} {r:List UInt8} (h:lst s i=c::r):i<s.size∧lst s (i+1)=r∧byteAt s i=(c.toNat:Int):=by
  have hl:=lst_len s i
  rw [h] at hl
  simp at hl
  refine ⟨by omega,?_,?_⟩
  · show List.drop (i+1) s.data.toList=r
    have:List.drop 1 (List.drop i s.data.toList)=r:=by rw [show List.drop i s.data.toList=c::r from h];rfl
    rw [List.drop_drop] at this
    exact this
  · unfold byteAt
    rw [List.getD_eq_getElem?_getD]
    have:(List.drop i s.data.toList)[0]?=some c:=by rw [show List.drop i s.data.toList=c::r from h];rfl
    rw [List.getElem?_drop] at this
    rw [show i+0=i from rfl] at this
    rw [this];rfl
theorem lst_at {s:ByteArray} {i:Nat} (h:i<s.size):∃c r,lst s i=c::r:=by
  have hl:=lst_len s i
  cases e:lst s i with
  |nil=>rw [e] at hl;simp at hl;omega
  |cons c r=>exact ⟨c,r,rfl⟩
theorem ext_bs (s:ByteArray) (i j:Nat) (hij:i≤j):s.extract i j=bs ((lst s i).take (j-i)):=by
  apply Go.WideShapes.bytes_inj
  rw [ByteArray.data_extract]
  simp [lst,List.extract_eq_take_drop]
theorem u8_eq (c:UInt8) (n:Nat) (hn:n<256):((c.toNat:Int)==(n:Int))=decide (c=UInt8.ofNat n):=by
  by_cases h:c=UInt8.ofNat n
  · subst h;simp;omega
  · have:¬(c.toNat:Int)=(n:Int):=fun e=>h (by
      apply UInt8.toNat_inj.1
      simp;omega)
    rw [beq_eq_false_iff_ne.2 this];simp [h]
theorem dropWhile_eq_drop {p:UInt8→Bool} (l:List UInt8):l.dropWhile p=l.drop (l.takeWhile p).length:=by
  induction l with
  |nil=>rfl
  |cons a l ih=>simp only [List.takeWhile,List.dropWhile];split<;>simp [*]
theorem takeWhile_eq_take {p:UInt8→Bool} (l:List UInt8):l.takeWhile p=l.take (l.takeWhile p).length:=by
  induction l with
  |nil=>rfl
  |cons a l ih=>simp only [List.takeWhile];split<;>simp [←ih]
theorem bs_size (l:List UInt8):(bs l).size=l.length:=by simp [bs,ByteArray.size]
theorem bs_app (a b:List UInt8):bs a++bs b=bs (a++b):=by
  apply Go.WideShapes.bytes_inj
  simp [bs]
theorem beq_bs (a b:List UInt8):((bs a).toList==(bs b).toList)=decide (a=b):=by
  rw [beq_bytes]
  by_cases h:a=b
  · subst h;simp
  · have:bs a≠bs b:=fun e=>h (by have:=congrArg (fun x:ByteArray=>x.data.toList) e;simpa using this)
    simp [h,this]
theorem lst_of_len {s:ByteArray} {i:Nat} {r:List UInt8} {j:Nat} (h:∃p,lst s i=p++r) (hi:i≤s.size) (hj:j=s.size-r.length):lst s j=r∧i≤j∧j≤s.size:=by
  obtain ⟨p,h⟩:=h
  have hl:=lst_len s i
  rw [h] at hl
  simp at hl
  have hj':j=i+p.length:=by omega
  refine ⟨?_,by omega,by omega⟩
  rw [hj']
  show List.drop (i+p.length) s.data.toList=r
  rw [←List.drop_drop]
  show List.drop p.length (lst s i)=r
  rw [h]
  simp
def lexR (out:List Tok):Option (List Tok)→Int×List Tok×Unit
  |none=>(60,[],())
  |some l=>(0,out++l,())
end Go.Proofs.Ytniojllnooblcaa
end
section
namespace Go.Proofs.Ytniojllnooblcaa
open Go Lv Go.Proofs Go.RowKit Go.Shelf Dl
end Go.Proofs.Ytniojllnooblcaa
end
section
namespace Go.Proofs.Ytniojllnooblcaa
open Go Lv Go.Proofs Go.RowKit Go.Shelf Dl
abbrev TokSm (l:List Tok):Prop:=l.length≤100000000∧∀t∈l,t.2.1.size≤100000000
theorem tk_suf {s:ByteArray} {l r:List Tok} (h:tk s l=some r):r<:+l:=by
  cases l with
  |nil=>cases h
  |cons t l=>
    simp only [tk] at h
    split at h
    · cases h;exact List.suffix_cons _ _
    · cases h
theorem oneS_suf:∀{ws:List ByteArray} {i:Int} {l:List Tok} {x},oneS i ws l=some x→x.2<:+l:=by
  intro ws
  induction ws with
  |nil=>intro i l x h;cases h
  |cons w ws ih=>
    intro i l x h
    simp only [oneS] at h
    split at h
    · rename_i r hr;cases h;exact tk_suf hr
    · exact ih h
theorem stepsS_eq (n:Nat) (l:List Tok):stepsS n l=match tk (⟨#[93]⟩:ByteArray) l with
    |some r=>some ([],r)
    |none=>match n with
      |0=>none
      |n+1=>(stepS l).bind fun x=>(stepsS n x.2).map fun y=>(x.1::y.1,y.2):=by rw [stepsS.eq_def];try (cases n<;>rfl)
theorem oneS_le:∀{ws:List ByteArray} {i:Int} {l:List Tok} {x},oneS i ws l=some x→i≤x.1∧x.1<i+ws.length:=by
  intro ws
  induction ws with
  |nil=>intro i l x h;cases h
  |cons w ws ih=>
    intro i l x h
    simp only [oneS] at h
    split at h
    · cases h;simp;omega
    · have:=ih h
      simp;omega
theorem flag_none {s:ByteArray} {l:List Tok} (h:tk s l=none):flag s l=(false,l):=by unfold flag;rw [h]
theorem flag_some {s:ByteArray} {l r:List Tok} (h:tk s l=some r):flag s l=(true,r):=by unfold flag;rw [h]
/--behind the first one:what is parted by commas -/
def tailS {α : Type} (p : List Tok → Option (α × List Tok)) (n : Nat) (l : List Tok) : Option (List α × List Tok) := match tk (⟨#[44]⟩ : ByteArray) l with
  |none=>some ([],l)
  |some r=>match n with
    |0=>none
    |n+1=>sepS p n r
theorem sepS_eq {α:Type} (p:List Tok→Option (α×List Tok)) (n:Nat) (l:List Tok):sepS p n l=(p l).bind fun x=>(tailS p n x.2).map fun y=>(x.1::y.1,y.2):=by
  cases n with
  |zero=>
    rw [sepS]
    cases p l with
    |none=>rfl
    |some x=>simp only [Option.bind_some,tailS];cases tk (⟨#[44]⟩:ByteArray) x.2<;>rfl
  |succ n=>
    rw [sepS]
    cases p l with
    |none=>rfl
    |some x=>simp only [Option.bind_some,tailS];cases tk (⟨#[44]⟩:ByteArray) x.2<;>rfl
theorem checksS_eq (n:Nat) (l:List Tok):checksS n l=match tk (⟨#[99,104,101,99,107]⟩:ByteArray) l with
    |none=>some ([],l)
    |some r=>match n with
      |0=>none
      |n+1=>(exprS r).bind fun x=>(checksS n x.2).map fun y=>(x.1::y.1,y.2):=by rw [checksS.eq_def];try (cases n<;>rfl)
end Go.Proofs.Ytniojllnooblcaa
end
section
namespace Go.Proofs.Ytniojllnooblcaa
open Go Lv Go.Proofs Go.RowKit Go.Shelf Dl
theorem bind_is {α β:Type} {x:Option α} {K:α→Option β} (v:α) (h:x=some v):x.bind K=K v:=by rw [h];rfl
def flatP (x:Dl.Def×Int):Int×ByteArray×ByteArray×ByteArray×ByteArray×Int×Int×Bool×Int×(List tColumnT)×(List (List tNodeT))×(List tNodeT)×(List Int)×(List tAggT)×Unit:=
  (x.1.1,x.1.2.1.1,x.1.2.2.1,x.1.2.2.2.1,x.1.2.2.2.2.1,x.1.2.2.2.2.2.1.1,x.1.2.2.2.2.2.1.2,x.1.2.2.2.2.2.2.2.2.1,x.2,x.1.2.1.2.1,x.1.2.1.2.2,x.1.2.2.2.2.2.2.1,x.1.2.2.2.2.2.2.2.1,x.1.2.2.2.2.2.2.2.2.2,())
theorem lenT_ge (x:List Tok):x.length≤lenT x:=by
  induction x with
  |nil=>simp
  |cons t x ih=>simp only [lenT,List.map_cons,List.sum_cons,List.length_cons] at ih ⊢;omega
theorem tok_size {t:Tok} (h:TokOk t):t.2.1.size≤30:=by
  cases h with
  |@word w h=>
    show (bs w).size≤30
    rw [bs_size]
    cases w with
    |nil=>simp
    |cons c w=>simp only [isWordL,Bool.and_eq_true,decide_eq_true_eq] at h;exact h.2
  |@sign c h=>show (bs [c]).size≤30;rw [bs_size];simp
  |num _ _=>show e0.size≤30;decide
  |text _=>show e0.size≤30;decide
theorem lex_sm {s:List UInt8} (hs:s.length≤20000) {l:List Tok} (h:lexS s=some l):TokSm l:=by
  obtain ⟨h1,h2⟩:=lexS_ok _ s (Nat.le_refl _) l h
  have:=lenT_ge l
  exact ⟨by omega,fun t ht=>by have:=tok_size (h1 t ht);omega⟩
end Go.Proofs.Ytniojllnooblcaa
end
end
section
section
namespace Go.Proofs.Ytniojllnooblcaa
open Go Lv Go.Proofs Go.RowKit Go.Shelf Dl
def eqF {α R:Type} [DecidableEq α] (tt ff:R) (x y:List α):R:=if x=y then tt else ff
theorem eq_loop {α R : Type} [DecidableEq α] (a b : List α) (hl : a.length = b.length) (ha : a.length < 4611686018427387904) {body : Int × Unit → Option ((Int × Unit) ⊕ R)} (tt ff : R)
    (h1:∀(i:Nat) (hi:i<a.length),body ((i:Int),())=some (if a[i]=b[i]'(by omega) then .inl (((i+1:Nat):Int),()) else .inr ff))
    (h2:body ((a.length:Int),())=some (.inr tt)):loopM body ((0:Int),())=some (if a=b then tt else ff):=by
  rw [loop_f (m:=fun x=>a.length-x.1.toNat) (I:=fun x=>∃k:Nat,x.1=(k:Int)∧k≤a.length) (f:=fun x=>eqF tt ff (a.drop x.1.toNat) (b.drop x.1.toNat)) ?_ _ ⟨0,rfl,by omega⟩]
  · simp [eqF]
  · rintro ⟨x,⟨⟩⟩ ⟨k,hk,hle⟩
    simp only at hk
    subst hk
    simp only [Int.toNat_natCast]
    by_cases hlt:k<a.length
    · rw [h1 k hlt,List.drop_eq_getElem_cons hlt,List.drop_eq_getElem_cons (show k<b.length by omega)]
      by_cases he:a[k]=b[k]'(by omega)
      · left
        rw [if_pos he]
        refine ⟨_,rfl,⟨k+1,rfl,by omega⟩,by simp only [Int.toNat_natCast];omega,?_⟩
        simp only [Int.toNat_natCast,eqF,List.cons.injEq,he,true_and]
      · right
        rw [if_neg he];unfold eqF;rw [if_neg (fun e=>he (List.cons.inj e).1)]
    · right
      have:k=a.length:=by omega
      subst this
      rw [h2,List.drop_length,List.drop_eq_nil_of_le (by omega)];unfold eqF;rw [if_pos rfl]
theorem len_ne {α:Type} (a b:List α):((a.length:Int) !=(b.length:Int))= !decide (a.length=b.length):=by
  by_cases h:a.length=b.length
  · simp [h]
  · have:¬(a.length:Int)=(b.length:Int):=by omega
    simp [h,this,bne]
theorem ty_eq (t:Ty) (ht:t.plain=true) [DecidableEq t.T] (x y:t.T):t.eq x y=decide (x=y):=by
  have:=Ty.eq_dec t ht x y
  by_cases h:x=y
  · rw [this.2 h];simp [h]
  · have h2:¬t.eq x y=true:=fun e=>h (this.1 e)
    simp [h,h2]
theorem node_eq (x y:tNodeT):Ty.eq tNode x y=decide (x=y):=@ty_eq tNode rfl (inferInstanceAs (DecidableEq tNodeT)) x y
theorem column_eq (x y:Col):Ty.eq tColumn x y=decide (x=y):=@ty_eq tColumn rfl (inferInstanceAs (DecidableEq Col)) x y
theorem agg_eq (x y:Agg):Ty.eq tAgg x y=decide (x=y):=@ty_eq tAgg rfl (inferInstanceAs (DecidableEq Agg)) x y
theorem i_ne (a b:Int):(a !=b)= !decide (a=b):=by by_cases h:a=b<;>simp [h]
abbrev Ln {α:Type} (l:List α):Prop:=l.length<1000000000000000
theorem dec_ne {α:Type} [DecidableEq α] {a b:List α} (h:¬a.length=b.length):decide (a=b)=false:=by
  rw [decide_eq_false_iff_not];exact fun e=>h (by rw [e])
theorem ite_dec {p:Prop} [Decidable p]:(if p then ((true:Bool),()) else (false,()))=(decide p,()):=by by_cases h:p<;>simp [h]
theorem rSame3_s (a b:List tNodeT) (ha:Ln a):R03_Same.F (a,b,())=some (decide (a=b),()):=by
  rw [R03_Same.eq]
  unfold R03_Same.B
  simp only [len_ne]
  by_cases hl:a.length=b.length
  · simp only [hl,decide_true,Bool.not_true,cond_false]
    rw [eq_loop a b hl (by omega) (true,()) (false,()) ?_ ?_,ite_dec]
    · intro i hi
      have d1:decide ((i:Int)<(b.length:Int))=true:=by simp;omega
      have d0:decide (0≤(i:Int))=true:=by simp
      simp only [d1,d0,Bool.and_self,cond_true,Int.toNat_natCast,getD_at hi,getD_at (show i<b.length by omega),node_eq,wrap_s hi (show a.length<9223372036854775808 by omega)]
      by_cases he:a[i]=b[i]'(by omega)<;>simp [he]
    · have d1:decide ((a.length:Int)<(b.length:Int))=false:=by simp;omega
      simp only [d1,cond_false]
  · simp only [hl,decide_false,Bool.not_false,cond_true,dec_ne hl]
theorem rInts_s (a b:List Int) (ha:Ln a):R07_Ints.F (a,b,())=some (decide (a=b),()):=by
  rw [R07_Ints.eq]
  unfold R07_Ints.B
  simp only [len_ne]
  by_cases hl:a.length=b.length
  · simp only [hl,decide_true,Bool.not_true,cond_false]
    rw [eq_loop a b hl (by omega) (true,()) (false,()) ?_ ?_,ite_dec]
    · intro i hi
      have d1:decide ((i:Int)<(b.length:Int))=true:=by simp;omega
      have d0:decide (0≤(i:Int))=true:=by simp
      simp only [d1,d0,Bool.and_self,cond_true,Int.toNat_natCast,getD_at hi,getD_at (show i<b.length by omega),i_ne,wrap_s hi (show a.length<9223372036854775808 by omega)]
      by_cases he:a[i]=b[i]'(by omega)<;>simp [he]
    · have d1:decide ((a.length:Int)<(b.length:Int))=false:=by simp;omega
      simp only [d1,cond_false]
  · simp only [hl,decide_false,Bool.not_false,cond_true,dec_ne hl]
theorem rSameTable_s (n : ByteArray) (c : List Col) (k : List (List tNodeT)) (n' : ByteArray) (c' : List Col) (k' : List (List tNodeT)) (hc : Ln c) (hk : Ln k) (hkk : ∀ e ∈ k,Ln e) :
    R07_SameTable.F (n,c,k,n',c',k',())=some (decide (n=n')&&(decide (c=c')&&decide (k=k')),()):=by
  rw [R07_SameTable.eq]
  unfold R07_SameTable.B
  simp only [len_ne,beq_bytes]
  by_cases hn:n=n'
  · simp only [hn,decide_true,Bool.not_true,cond_false]
    by_cases hl:c.length=c'.length
    · simp only [hl,decide_true,Bool.not_true,cond_false]
      by_cases hl2:k.length=k'.length
      · simp only [hl2,decide_true,Bool.not_true,cond_false,Option.bind_some]
        rw [eq_loop c c' hl (by omega) (.inl ()) (.inr (false,())) ?_ ?_]
        · by_cases hcc:c=c'
          · simp only [if_pos hcc,Option.bind_some]
            rw [eq_loop k k' hl2 (by omega) (true,()) (false,()) ?_ ?_,ite_dec]
            · simp [hcc]
            · intro i hi
              have d1:decide ((i:Int)<(k'.length:Int))=true:=by simp;omega
              have d0:decide (0≤(i:Int))=true:=by simp
              simp only [d1,d0,Bool.and_self,cond_true,Int.toNat_natCast,getD_at hi,getD_at (show i<k'.length by omega),rSame3_s _ _ (hkk _ (List.getElem_mem hi)),Option.bind_some,wrap_s hi (show k.length<9223372036854775808 by omega)]
              by_cases he:k[i]=k'[i]'(by omega)<;>simp [he]
            · have d1:decide ((k.length:Int)<(k'.length:Int))=false:=by simp;omega
              simp only [d1,cond_false]
          · simp only [if_neg hcc,Option.bind_some]
            simp [hcc]
        · intro i hi
          have d1:decide ((i:Int)<(c'.length:Int))=true:=by simp;omega
          have d0:decide (0≤(i:Int))=true:=by simp
          simp only [d1,d0,Bool.and_self,cond_true,Int.toNat_natCast,getD_at hi,getD_at (show i<c'.length by omega),column_eq,wrap_s hi (show c.length<9223372036854775808 by omega)]
          by_cases he:c[i]=c'[i]'(by omega)<;>simp [he]
        · have d1:decide ((c.length:Int)<(c'.length:Int))=false:=by simp;omega
          simp only [d1,cond_false]
      · simp only [hl2,decide_false,Bool.not_false,cond_true,Option.bind_some]
        have:¬k=k':=fun e=>hl2 (by rw [e])
        simp [this]
    · simp only [hl,decide_false,Bool.not_false,cond_true,Option.bind_some]
      have:¬c=c':=fun e=>hl (by rw [e])
      simp [this]
  · simp only [hn,decide_false,Bool.not_false,cond_true,Option.bind_some]
    simp [hn]
theorem rSameView_s (n f w:ByteArray) (o1 o2:Int) (wh:List tNodeT) (p:List Int) (g:Bool) (a:List Agg) (n' f' w':ByteArray) (o1' o2':Int) (wh':List tNodeT) (p':List Int) (g':Bool) (a':List Agg) (h1:Ln wh) (h2:Ln p) (h3:Ln a):
    R07_SameView.F (n,f,w,o1,o2,wh,p,g,a,n',f',w',o1',o2',wh',p',g',a',())=some (decide (n=n')&&(decide (f=f')&&(decide (w=w')&&(decide (((o1,o2):Agg)=(o1',o2'))&&(decide (wh=wh')&&(decide (p=p')&&(decide (g=g')&&decide (a=a'))))))),()):=by
  rw [R07_SameView.eq]
  unfold R07_SameView.B
  simp only [len_ne,beq_bytes,agg_eq,rSame3_s _ _ h1,rInts_s _ _ h2,Option.bind_some]
  have hg:(g==g')=decide (g=g'):=by cases g<;>cases g'<;>rfl
  rw [hg]
  by_cases e1:n=n'
  case neg=>simp [e1]
  by_cases e2:f=f'
  case neg=>simp [e1,e2]
  by_cases e3:w=w'
  case neg=>simp [e1,e2,e3]
  by_cases e4:((o1,o2):Agg)=(o1',o2')
  case neg=>rw [show decide (((o1,o2):Agg)=(o1',o2'))=false from decide_eq_false e4];simp [e1,e2,e3]
  rw [show decide (((o1,o2):Agg)=(o1',o2'))=true from decide_eq_true e4]
  by_cases e5:wh=wh'
  case neg=>simp [e1,e2,e3,e5]
  by_cases e6:p=p'
  case neg=>simp [e1,e2,e3,e5,e6]
  by_cases e7:g=g'
  case neg=>simp [e1,e2,e3,e5,e6,e7]
  simp only [e1,e2,e3,e5,e6,e7,decide_true,Bool.not_true,cond_false,Option.bind_some,Bool.true_and]
  by_cases hl:a.length=a'.length
  · simp only [hl,decide_true,Bool.not_true,cond_false]
    rw [eq_loop a a' hl (by omega) (true,()) (false,()) ?_ ?_,ite_dec]
    · intro i hi
      have d1:decide ((i:Int)<(a'.length:Int))=true:=by simp;omega
      have d0:decide (0≤(i:Int))=true:=by simp
      simp only [d1,d0,Bool.and_self,cond_true,Int.toNat_natCast,getD_at hi,getD_at (show i<a'.length by omega),agg_eq,wrap_s hi (show a.length<9223372036854775808 by omega)]
      by_cases he:a[i]=a'[i]'(by omega)<;>simp [he]
    · have d1:decide ((a.length:Int)<(a'.length:Int))=false:=by simp;omega
      simp only [d1,cond_false]
  · simp only [hl,decide_false,Bool.not_false,cond_true,dec_ne hl]
def sameB (x y:Dl.Def):Bool:=decide (x.1=y.1)&&((decide (x.2.1.1=y.2.1.1)&&(decide (x.2.1.2.1=y.2.1.2.1)&&decide (x.2.1.2.2=y.2.1.2.2)))&&
  (decide (x.2.2.1=y.2.2.1)&&(decide (x.2.2.2.1=y.2.2.2.1)&&(decide (x.2.2.2.2.1=y.2.2.2.2.1)&&(decide (x.2.2.2.2.2.1=y.2.2.2.2.2.1)&&(decide (x.2.2.2.2.2.2.1=y.2.2.2.2.2.2.1)&&(decide (x.2.2.2.2.2.2.2.1=y.2.2.2.2.2.2.2.1)&&(decide (x.2.2.2.2.2.2.2.2.1=y.2.2.2.2.2.2.2.2.1)&&decide (x.2.2.2.2.2.2.2.2.2=y.2.2.2.2.2.2.2.2.2)))))))))
theorem sameB_iff (x y:Dl.Def):sameB x y=true↔x=y:=by
  obtain ⟨a1,⟨a2,a3,a4⟩,a5,a6,a7,a8,a9,a10,a11,a12⟩:=x
  obtain ⟨b1,⟨b2,b3,b4⟩,b5,b6,b7,b8,b9,b10,b11,b12⟩:=y
  simp only [sameB,Bool.and_eq_true,decide_eq_true_eq,Prod.mk.injEq]
/--the lists of a definition are no longer than can be -/
structure DLn (x:Dl.Def):Prop where
  cols:Ln x.2.1.2.1
  checks:Ln x.2.1.2.2
  each:∀e∈x.2.1.2.2,Ln e
  whr:Ln x.2.2.2.2.2.2.1
  pick:Ln x.2.2.2.2.2.2.2.1
  aggs:Ln x.2.2.2.2.2.2.2.2.2
theorem rSame_s (a1:Int) (a2:ByteArray) (a3:List Col) (a4:List (List tNodeT)) (a5 a6 a7:ByteArray) (a8 a8':Int) (a9:List tNodeT) (a10:List Int) (a11:Bool) (a12:List Agg) (b1:Int) (b2:ByteArray) (b3:List Col) (b4:List (List tNodeT)) (b5 b6 b7:ByteArray) (b8 b8':Int) (b9:List tNodeT) (b10:List Int) (b11:Bool) (b12:List Agg)
    (h:DLn (a1,((a2,(a3,a4)),(a5,(a6,(a7,((a8,a8'),(a9,(a10,(a11,a12)))))))))):
    R07_Same.F (a1,a2,a3,a4,a5,a6,a7,a8,a8',a9,a10,a11,a12,b1,b2,b3,b4,b5,b6,b7,b8,b8',b9,b10,b11,b12,())=
      some (sameB (a1,((a2,(a3,a4)),(a5,(a6,(a7,((a8,a8'),(a9,(a10,(a11,a12))))))))) (b1,((b2,(b3,b4)),(b5,(b6,(b7,((b8,b8'),(b9,(b10,(b11,b12))))))))),()):=by
  rw [R07_Same.eq]
  unfold R07_Same.B
  simp only [rSameTable_s a2 a3 a4 b2 b3 b4 h.cols h.checks h.each,rSameView_s a5 a6 a7 a8 a8' a9 a10 a11 a12 b5 b6 b7 b8 b8' b9 b10 b11 b12 h.whr h.pick h.aggs,Option.bind_some,sameB]
  have h0:(a1==b1)=decide (a1=b1):=by by_cases e:a1=b1<;>simp [e]
  rw [h0]
  cases decide (a1=b1)
  · rfl
  · simp only [cond_true,Bool.true_and]
    cases (decide (a2=b2)&&(decide (a3=b3)&&decide (a4=b4)))
    · rfl
    · simp only [cond_true,Bool.true_and]
end Go.Proofs.Ytniojllnooblcaa
end
section
namespace Go.Proofs.Ytniojllnooblcaa
open Go Lv Go.Proofs Go.RowKit Go.Shelf Dl
theorem rLetter_s (c:UInt8):R06_Letter.F ((c.toNat:Int),())=some (letter c,()):=by
  rw [R06_Letter.eq]
  unfold R06_Letter.B letter
  have i1:((c.toNat:Int)≥(97:Int))↔97≤c.toNat:=by omega
  have i2:((c.toNat:Int)≤(122:Int))↔c.toNat≤122:=by omega
  simp only [i1,i2]
  cases decide (97≤c.toNat)<;>rfl
theorem rDigit_s (c:UInt8):R06_Digit.F ((c.toNat:Int),())=some (digit c,()):=by
  rw [R06_Digit.eq]
  unfold R06_Digit.B digit
  have i1:((c.toNat:Int)≥(48:Int))↔48≤c.toNat:=by omega
  have i2:((c.toNat:Int)≤(57:Int))↔c.toNat≤57:=by omega
  simp only [i1,i2]
  cases decide (48≤c.toNat)<;>rfl
theorem rInner_s (c:UInt8):R06_Inner.F ((c.toNat:Int),())=some (inner c,()):=by
  rw [R06_Inner.eq]
  unfold R06_Inner.B inner
  simp only [rLetter_s,rDigit_s,Option.bind_some]
  have e1:((c.toNat:Int)==(95:Int))=decide (c=95):=u8_eq c 95 (by decide)
  rw [e1]
  cases letter c<;>cases digit c<;>rfl
theorem rWord_s (b : ByteArray) (hb : b.size < 1000000000000000000) : R06_Word.F (b,()) = some (isWord b,()) := by
  rw [R06_Word.eq]
  unfold R06_Word.B
  simp only []
  rw [loop_f (S:=Int×Unit) (m:=fun x=>b.size-x.1.toNat) (I:=fun x=>∃k:Nat,x.1=(k:Int)∧k≤b.size) (f:=fun x=>bif (lst b x.1.toNat).all inner then .inl () else .inr (false,())) ?_ _ ⟨0,rfl,by omega⟩]
  · have e0:lst b (0:Int).toNat=b.data.toList:=rfl
    rw [e0]
    unfold isWord
    cases hl:b.data.toList with
    |nil=>
      have hz:b.size=0:=by show b.data.toList.length=0;rw [hl];rfl
      simp only [List.all_nil,cond_true,Option.bind_some,hz,isWordL]
      rfl
    |cons c l=>
      have hz:b.size=(c::l).length:=by show b.data.toList.length=_;rw [hl]
      have hst:lst b 0=c::l:=hl
      have e3:byteAt b 0=(c.toNat:Int):=(lst_cons hst).2.2
      simp only [isWordL]
      cases ha:(c::l).all inner with
      |false=>simp
      |true=>
        have d1:decide ((b.size:Int)≥(1:Int))=true:=by rw [decide_eq_true_eq,hz];simp only [List.length_cons];omega
        have d2:(decide (0≤(0:Int))&&decide ((0:Int)<(b.size:Int)))=true:=by rw [hz];simp only [Bool.and_eq_true,decide_eq_true_eq,List.length_cons];omega
        have d3:decide ((b.size:Int)≤(30:Int))=decide ((c::l).length≤30):=by rw [hz];simp only [decide_eq_decide];omega
        simp only [cond_true,Option.bind_some,d1,d2,d3,e3,rLetter_s]
        cases decide ((c::l).length≤30)<;>simp
  · rintro ⟨x,⟨⟩⟩ ⟨k,hk,hle⟩
    simp only at hk
    subst hk
    simp only [Int.toNat_natCast]
    by_cases hlt:k<b.size
    · obtain ⟨c,r,e⟩:=lst_at hlt
      obtain ⟨_,e1,e2⟩:=lst_cons e
      have d1:decide ((k:Int)<(b.size:Int))=true:=by simp;omega
      have d0:decide (0≤(k:Int))=true:=by simp
      simp only [d1,d0,Bool.and_self,cond_true,e2,rInner_s,Option.bind_some]
      rw [e,List.all_cons]
      cases hc:inner c with
      |true=>
        left
        simp only [Bool.not_true,cond_false,wrap_s hlt (show b.size<9223372036854775808 by omega)]
        refine ⟨_,rfl,⟨k+1,rfl,by omega⟩,by simp only [Int.toNat_natCast];omega,?_⟩
        simp only [Int.toNat_natCast,e1,Bool.true_and]
      |false=>
        right
        rfl
    · right
      have d1:decide ((k:Int)<(b.size:Int))=false:=by simp;omega
      have:lst b k=[]:=by
        have:=lst_len b k
        exact List.length_eq_zero_iff.1 (by omega)
      simp only [d1,cond_false,this,List.all_nil,cond_true]
theorem kw_loop (K : List ByteArray) (hK : K.length < 1000) (b : ByteArray) : loopM (S := Int × Unit) (R := Bool × Unit) (fun (x4,_) =>
  (bif (decide (x4<(K.length:Int))) then
  bif (decide (0≤x4)&&decide (x4<(K.length:Int))) then
  let e1:ByteArray:=(List.getD K (Int.toNat x4) (⟨#[]⟩:ByteArray))
  (bif (e1.toList==b.toList) then
  some (.inr (true,()))
  else
  let e2:Int:=(IntKind.i64.wrap (x4+(1:Int)))
  some (.inl (e2,())))
  else none
  else
  some (.inr (false,())))) ((0:Int),())=some (K.any fun k=>decide (k=b),()):=by
  rw [loop_f (S:=Int×Unit) (R:=Bool×Unit) (m:=fun x=>K.length-x.1.toNat) (I:=fun x=>∃k:Nat,x.1=(k:Int)∧k≤K.length) (f:=fun x=>((K.drop x.1.toNat).any fun k=>decide (k=b),())) ?_ _ ⟨0,rfl,by omega⟩]
  · simp
  · rintro ⟨x,⟨⟩⟩ ⟨k,hk,hle⟩
    simp only at hk
    subst hk
    simp only [Int.toNat_natCast]
    by_cases hlt:k<K.length
    · have d1:decide ((k:Int)<(K.length:Int))=true:=by simp;omega
      have d0:decide (0≤(k:Int))=true:=by simp
      simp only [d1,d0,Bool.and_self,cond_true,Int.toNat_natCast,getD_at hlt,beq_bytes,wrap_s hlt (show K.length<9223372036854775808 by omega)]
      rw [List.drop_eq_getElem_cons hlt,List.any_cons]
      by_cases he:K[k]=b
      · right
        simp only [he,decide_true,cond_true,Bool.true_or]
      · left
        simp only [he,decide_false,cond_false,Bool.false_or]
        exact ⟨_,rfl,⟨k+1,rfl,by omega⟩,by simp only [Int.toNat_natCast];omega,rfl⟩
    · right
      have d1:decide ((k:Int)<(K.length:Int))=false:=by simp;omega
      simp only [d1,cond_false]
      rw [List.drop_eq_nil_of_le (by omega)]
      rfl
theorem rKeyword_s (b:ByteArray):R07_Keyword.F (b,())=some (keywords.any fun k=>decide (k=b),()):=by
  rw [R07_Keyword.eq]
  exact kw_loop keywords (by decide) b
theorem rName_s (b:ByteArray) (hb:b.size<1000000000000000000):R07_Name.F (b,())=some (isName b,()):=by
  rw [R07_Name.eq]
  unfold R07_Name.B isName
  simp only [rWord_s b hb,rKeyword_s,Option.bind_some]
  cases isWord b<;>rfl
def big3 (e:List tNodeT):Bool:=e.any (fun x=>decide (1000<x.2.2.2.2.size))||decide (120<e.length)
theorem rBig3_s (e : List tNodeT) (he : Ln e) : R03_Big.F (e,()) = some (big3 e,()) := by
  rw [R03_Big.eq]
  unfold R03_Big.B
  simp only []
  rw [loop_f (S:=Int×Unit) (m:=fun x=>e.length-x.1.toNat) (I:=fun x=>∃k:Nat,x.1=(k:Int)∧k≤e.length) (f:=fun x=>bif (e.drop x.1.toNat).any (fun x=>decide (1000<x.2.2.2.2.size)) then .inr (true,()) else .inl ()) ?_ _ ⟨0,rfl,by omega⟩]
  · have:decide ((e.length:Int)>(120:Int))=decide (120<e.length):=by simp only [decide_eq_decide];omega
    simp only [this,Int.toNat_zero,List.drop_zero,big3,Option.bind_some]
    cases e.any (fun x=>decide (1000<x.2.2.2.2.size))<;>rfl
  · rintro ⟨x,⟨⟩⟩ ⟨k,hk,hle⟩
    simp only at hk
    subst hk
    simp only [Int.toNat_natCast]
    by_cases hlt:k<e.length
    · have d1:decide ((k:Int)<(e.length:Int))=true:=by simp;omega
      have d0:decide (0≤(k:Int))=true:=by simp
      have d2:decide ((e[k].2.2.2.2.size:Int)>(1000:Int))=decide (1000<e[k].2.2.2.2.size):=by simp only [decide_eq_decide];omega
      simp only [d1,d0,Bool.and_self,cond_true,getD_at hlt,d2,wrap_s hlt (show e.length<9223372036854775808 by omega)]
      rw [List.drop_eq_getElem_cons hlt,List.any_cons]
      cases decide (1000<e[k].2.2.2.2.size) with
      |true=>right;rfl
      |false=>
        left
        simp only [cond_false,Bool.false_or]
        exact ⟨_,rfl,⟨k+1,rfl,by omega⟩,by simp only [Int.toNat_natCast];omega,rfl⟩
    · right
      have d1:decide ((k:Int)<(e.length:Int))=false:=by simp;omega
      simp only [d1,cond_false]
      rw [List.drop_eq_nil_of_le (by omega)]
      rfl
/--what is not too big -/
structure Sm (d:Dl.Def):Prop where
  cols:d.2.1.2.1.length≤400
  checks:d.2.1.2.2.length≤400
  each:∀e∈d.2.1.2.2,big3 e=false
  whr:big3 d.2.2.2.2.2.2.1=false
  pick:d.2.2.2.2.2.2.2.1.length≤400
  aggs:d.2.2.2.2.2.2.2.2.2.length≤400
  names:∀c∈d.2.1.2.1,c.1.size≤100∧c.2.2.2.2.1.size≤100
  n1:d.2.1.1.size≤100
  n2:d.2.2.1.size≤100
  n3:d.2.2.2.1.size≤100
  n4:d.2.2.2.2.1.size≤100
theorem big_s (a1 : Int) (a2 : ByteArray) (a3 : List Col) (a4 : List (List tNodeT)) (a5 a6 a7 : ByteArray) (a8 a8' : Int) (a9 : List tNodeT) (a10 : List Int) (a11 : Bool) (a12 : List Agg)
    (h:DLn (a1,((a2,(a3,a4)),(a5,(a6,(a7,((a8,a8'),(a9,(a10,(a11,a12)))))))))):
    ∃b,R07_Big.F (a1,a2,a3,a4,a5,a6,a7,a8,a8',a9,a10,a11,a12,())=some (b,())∧(b=false→Sm (a1,((a2,(a3,a4)),(a5,(a6,(a7,((a8,a8'),(a9,(a10,(a11,a12)))))))))):=by
  have l1:a3.length<1000000000000000:=h.cols
  have l2:a4.length<1000000000000000:=h.checks
  have l3:a9.length<1000000000000000:=h.whr
  have l4:a10.length<1000000000000000:=h.pick
  have l5:a12.length<1000000000000000:=h.aggs
  rw [R07_Big.eq]
  unfold R07_Big.B
  simp only []
  have e1:IntKind.i64.wrap ((a3.length:Int)+(a4.length:Int))=((a3.length+a4.length:Nat):Int):=by rw [i64_wrap]<;>omega
  have e2:IntKind.i64.wrap (((a3.length+a4.length:Nat):Int)+(a10.length:Int))=((a3.length+a4.length+a10.length:Nat):Int):=by rw [i64_wrap]<;>omega
  have e3:IntKind.i64.wrap (((a3.length+a4.length+a10.length:Nat):Int)+(a12.length:Int))=((a3.length+a4.length+a10.length+a12.length:Nat):Int):=by rw [i64_wrap]<;>omega
  have e4:IntKind.i64.wrap (((a3.length+a4.length+a10.length+a12.length:Nat):Int)+(a9.length:Int))=((a3.length+a4.length+a10.length+a12.length+a9.length:Nat):Int):=by rw [i64_wrap]<;>omega
  simp only [e1,e2,e3,e4]
  rw [loop_f (S:=Int×Int×Unit) (m:=fun x=>a4.length-x.2.1.toNat) (I:=fun x=>∃k n:Nat,x.2.1=(k:Int)∧x.1=(n:Int)∧k≤a4.length∧n≤5000000000000000+120*k)
    (f:=fun x=>bif (a4.drop x.2.1.toNat).any big3 then .inr (true,()) else .inl (x.1+(((a4.drop x.2.1.toNat).map List.length).sum:Nat),())) ?_ _ ⟨0,_,rfl,rfl,by omega,by omega⟩]
  · simp only [Int.toNat_zero,List.drop_zero,Option.bind_some]
    cases hb:a4.any big3 with
    |true=>exact ⟨true,rfl,fun e=>by cases e⟩
    | false =>
      simp only [cond_false]
      rw [loop_f (S:=Int×Unit) (m:=fun x=>a3.length-x.1.toNat) (I:=fun x=>∃k:Nat,x.1=(k:Int)∧k≤a3.length)
        (f:=fun x=>bif (a3.drop x.1.toNat).any (fun c=>decide (100<c.1.size)||decide (100<c.2.2.2.2.1.size)) then .inr (true,()) else .inl ()) ?_ _ ⟨0,rfl,by omega⟩]
      · simp only [Int.toNat_zero,List.drop_zero,Option.bind_some]
        cases hc:a3.any (fun c=>decide (100<c.1.size)||decide (100<c.2.2.2.2.1.size)) with
        |true=>exact ⟨true,rfl,fun e=>by cases e⟩
        | false =>
          simp only [cond_false,rBig3_s a9 h.whr,Option.bind_some]
          generalize hm:((a4.map List.length).sum:Nat)=m
          have hz:∀b:ByteArray,decide ((b.size:Int)>(100:Int))=decide (100<b.size):=fun b=>by simp only [decide_eq_decide];omega
          simp only [hz]
          by_cases hn:(((a3.length+a4.length+a10.length+a12.length+a9.length:Nat):Int)+(m:Int)>(400:Int))
          · rw [decide_eq_true hn];exact ⟨true,rfl,fun e=>by cases e⟩
          · rw [decide_eq_false hn]
            cases hw:big3 a9 with
            |true=>exact ⟨true,rfl,fun e=>by cases e⟩
            |false=>
              by_cases s1:100<a2.size
              · rw [decide_eq_true s1];exact ⟨true,rfl,fun e=>by cases e⟩
              by_cases s2:100<a5.size
              · rw [decide_eq_false s1,decide_eq_true s2];exact ⟨true,rfl,fun e=>by cases e⟩
              by_cases s3:100<a6.size
              · rw [decide_eq_false s1,decide_eq_false s2,decide_eq_true s3];exact ⟨true,rfl,fun e=>by cases e⟩
              rw [decide_eq_false s1,decide_eq_false s2,decide_eq_false s3]
              refine ⟨_,rfl,fun e=>?_⟩
              rw [decide_eq_false_iff_not] at e
              rw [List.any_eq_false] at hb hc
              exact ⟨show a3.length≤400 by omega,show a4.length≤400 by omega,fun e he=>by simpa using hb e he,hw,show a10.length≤400 by omega,show a12.length≤400 by omega,
                fun c hcm=>by have:=hc c hcm;simp only [Bool.or_eq_true,decide_eq_true_eq] at this;omega,show a2.size≤100 by omega,show a5.size≤100 by omega,show a6.size≤100 by omega,show a7.size≤100 by omega⟩
      · rintro ⟨x,⟨⟩⟩ ⟨k,hk,hle⟩
        simp only at hk
        subst hk
        simp only [Int.toNat_natCast]
        by_cases hlt:k<a3.length
        · have d1:decide ((k:Int)<(a3.length:Int))=true:=by simp;omega
          have d0:decide (0≤(k:Int))=true:=by simp
          have hz:∀b:ByteArray,decide ((b.size:Int)>(100:Int))=decide (100<b.size):=fun b=>by simp only [decide_eq_decide];omega
          simp only [d1,d0,Bool.and_self,cond_true,getD_at hlt,hz,wrap_s hlt (show a3.length<9223372036854775808 by omega)]
          rw [List.drop_eq_getElem_cons hlt,List.any_cons]
          cases decide (100<a3[k].1.size) with
          |true=>right;rfl
          |false=>
            cases decide (100<a3[k].2.2.2.2.1.size) with
            |true=>right;rfl
            |false=>
              left
              simp only [cond_false,Bool.false_or]
              exact ⟨_,rfl,⟨k+1,rfl,by omega⟩,by simp only [Int.toNat_natCast];omega,rfl⟩
        · right
          have d1:decide ((k:Int)<(a3.length:Int))=false:=by simp;omega
          simp only [d1,cond_false]
          rw [List.drop_eq_nil_of_le (by omega)]
          rfl
  · rintro ⟨n',x,⟨⟩⟩ ⟨k,n,hk,hn,hle,hb⟩
    simp only at hk hn
    subst hk
    subst hn
    simp only [Int.toNat_natCast]
    by_cases hlt:k<a4.length
    · have d1:decide ((k:Int)<(a4.length:Int))=true:=by simp;omega
      have d0:decide (0≤(k:Int))=true:=by simp
      have hL:a4[k].length<1000000000000000:=h.each _ (List.getElem_mem hlt)
      have ew:IntKind.i64.wrap ((n:Int)+(a4[k].length:Int))=((n+a4[k].length:Nat):Int):=by rw [i64_wrap]<;>omega
      simp only [d1,d0,Bool.and_self,cond_true,getD_at hlt,rBig3_s _ hL,Option.bind_some,ew,wrap_s hlt (show a4.length<9223372036854775808 by omega)]
      rw [List.drop_eq_getElem_cons hlt,List.any_cons]
      cases hg:big3 a4[k] with
      |true=>right;rfl
      |false=>
        left
        have h120:a4[k].length≤120:=by
          simp only [big3,Bool.or_eq_false_iff,decide_eq_false_iff_not] at hg
          omega
        simp only [cond_false,Bool.false_or]
        refine ⟨_,rfl,⟨k+1,_,rfl,rfl,by omega,by omega⟩,by simp only [Int.toNat_natCast];omega,?_⟩
        simp only [Int.toNat_natCast,List.map_cons,List.sum_cons]
        have:((n+a4[k].length:Nat):Int)+((((a4.drop (k+1)).map List.length).sum:Nat):Int)=(n:Int)+((a4[k].length+((a4.drop (k+1)).map List.length).sum:Nat):Int):=by omega
        rw [this]
    · right
      have d1:decide ((k:Int)<(a4.length:Int))=false:=by simp;omega
      simp only [d1,cond_false]
      rw [List.drop_eq_nil_of_le (by omega)]
      simp
end Go.Proofs.Ytniojllnooblcaa
end
section
namespace Go.Proofs.Ytniojllnooblcaa
open Go Lv Go.Proofs Go.RowKit Go.Shelf Dl
abbrev I64 (n:Int):Prop:=-9223372036854775808≤n∧n≤9223372036854775807
theorem b_eq (n m:Int):(n==m)=decide (n=m):=by by_cases h:n=m<;>simp [h]
theorem dbl_le (w:List UInt8):(dbl w).length≤2*w.length:=by
  induction w with
  |nil=>simp [dbl]
  |cons c r ih=>simp only [dbl];split<;>simp<;>omega
theorem itoa_len {n:Int} (h:I64 n):(Lib.itoa n).length≤21:=Lib.itoa_length_le n h.1 h.2
theorem showV_le {v:Val} (hm:vMay v=true) (hi:I64 v.2.1):(showT (1,(e0,v))).length≤2100:=by
  obtain ⟨a,b,s⟩:=v
  simp only [vMay,Bool.or_eq_true,Bool.and_eq_true,decide_eq_true_eq] at hm
  rcases hm with ⟨h1,h2⟩|⟨h1,h2,h3⟩
  · subst h1;subst h2
    have:showT (1,(e0,(2,(b,e0))))=Lib.itoa b:=rfl
    rw [this]
    have hi:I64 b:=hi
    have:=itoa_len hi
    omega
  · subst h1;subst h2
    have:showT (1,(e0,(3,(0,s))))=39::dbl s.data.toList++ [39]:=rfl
    rw [this]
    have h4:=dbl_le s.data.toList
    have h5:s.data.toList.length=s.size:=rfl
    simp only [List.length_cons,List.length_append,List.length_nil]
    omega
def EFit (e:List tNodeT):Prop:=e.length≤120∧∀x∈e,I64 x.1∧I64 x.2.1∧I64 x.2.2.2.1
/--what the printer can print -/
structure Fit (d:Dl.Def):Prop where
  cols:d.2.1.2.1.length≤400
  checks:d.2.1.2.2.length≤400
  pick:d.2.2.2.2.2.2.2.1.length≤400
  aggs:d.2.2.2.2.2.2.2.2.2.length≤400
  each:∀e∈d.2.1.2.2,EFit e
  whr:EFit d.2.2.2.2.2.2.1
  names:∀c∈d.2.1.2.1,c.1.size≤100∧c.2.2.2.2.1.size≤100∧I64 c.2.1
  n1:d.2.1.1.size≤100
  n2:d.2.2.1.size≤100
  n3:d.2.2.2.1.size≤100
  n4:d.2.2.2.2.1.size≤100
  o1:I64 d.2.2.2.2.2.1.1
  o2:I64 d.2.2.2.2.2.1.2
  pk:∀n∈d.2.2.2.2.2.2.2.1,I64 n
  ag:∀a∈d.2.2.2.2.2.2.2.2.2,I64 a.2
theorem colW_len (c:Col):(colW c).length≤8:=by
  unfold colW
  simp only [List.length_append,List.length_cons,List.length_nil]
  have h1:(if c.2.2.1 then [(⟨#[110,117,108,108]⟩:ByteArray)] else ([]:List ByteArray)).length≤1:=by split<;>simp
  have h2:(if c.2.2.2.1 then [(⟨#[117,110,105,113,117,101]⟩:ByteArray)] else ([]:List ByteArray)).length≤1:=by split<;>simp
  have h3:(if c.2.2.2.2.1=e0 then [] else [(⟨#[114,101,102]⟩:ByteArray),c.2.2.2.2.1,wordW c.2.2.2.2.2 acts]).length≤3:=by split<;>simp
  omega
end Go.Proofs.Ytniojllnooblcaa
end
section
namespace Go.Proofs.Ytniojllnooblcaa
open Go Lv Go.Proofs Go.RowKit Go.Shelf Dl
theorem aggW_len (a:Agg):(aggW a).length≤8:=by
  unfold aggW
  split<;>simp
theorem wordW_size {n:Int} {ws:List ByteArray} (h:∀w∈ws,w.size≤30):(wordW n ws).size≤30:=by
  unfold wordW
  split
  · decide
  · rw [List.getD_eq_getElem?_getD]
    cases hg:ws[n.toNat]? with
    |none=>decide
    |some w=>exact h w (List.mem_of_getElem? hg)
theorem stepW_size {x:tNodeT} (h:I64 x.2.1∧I64 x.2.2.2.1):(stepW x).size≤2100:=by
  unfold stepW
  split
  · rw [bs_size];have:=itoa_len h.1;simp only [List.length_cons];omega
  · split
    · unfold constW
      split
      · decide
      split
      · decide
      split
      · decide
      split
      · rename_i hm;rw [bs_size];exact showV_le hm h.2
      · decide
    · have:=@wordW_size (IntKind.i64.wrap (x.1-2)) opWords (by decide);omega
abbrev WB (l:List ByteArray):Prop:=∀w∈l,w.size≤2100
theorem WB.app {a b:List ByteArray} (h:WB a) (h':WB b):WB (a++b):=fun w hw=>by rcases List.mem_append.1 hw with hw|hw;exact h w hw;exact h' w hw
theorem WB.cons {a:ByteArray} {b:List ByteArray} (h:a.size≤2100) (h':WB b):WB (a::b):=fun w hw=>by rcases List.mem_cons.1 hw with rfl|hw;exact h;exact h' w hw
theorem WB.nil:WB []:=fun w hw=>by cases hw
theorem WB.ite {p:Prop} [Decidable p] {a b:List ByteArray} (h:WB a) (h':WB b):WB (if p then a else b):=by split<;>assumption
theorem WB.expr {e:List tNodeT} (h:EFit e):WB (exprW e):=by
  unfold exprW
  refine WB.app (.cons (by decide) fun w hw=>?_) (.cons (by decide) .nil)
  obtain ⟨x,hx,rfl⟩:=List.mem_map.1 hw
  exact stepW_size (h.2 x hx).2
theorem WB.checks:∀(l:List (List tNodeT)),(∀e∈l,EFit e)→WB (l.flatMap checkW):=by
  intro l
  induction l with
  |nil=>intro _;exact .nil
  |cons e l ih=>
    intro h
    rw [List.flatMap_cons]
    exact WB.app (.cons (by decide) (.expr (h e (by simp)))) (ih fun y hy=>h y (List.mem_cons_of_mem _ hy))
theorem Fit.ln {d:Dl.Def} (h:Fit d):DLn d:=⟨by have:=h.cols;omega,by have:=h.checks;omega,fun e he=>by have:=(h.each e he).1;omega,by have:=h.whr.1;omega,by have:=h.pick;omega,by have:=h.aggs;omega⟩
end Go.Proofs.Ytniojllnooblcaa
end
end
section
section
namespace Go.Proofs.Ytniojllnooblcaa
open Go Lv Go.Proofs Go.RowKit Go.Shelf Dl
end Go.Proofs.Ytniojllnooblcaa
end
section
set_option maxRecDepth 100000
namespace Go.Proofs.Ytniojllnooblcaa
open Go Lv Go.Proofs Go.RowKit Go.Shelf Dl
theorem len_of {t b n:Nat} (hb:PP.bytesOf t=b) (h0:0<b) (h:n*PP.bytesOf t≤reachBytes):n<1000000000000000:=by
  rw [hb] at h
  have:n*1≤n*b:=Nat.mul_le_mul_left n h0
  unfold reachBytes at h
  omega
theorem i64_in {n:Int} (h:(Lit.int .i64 n).wf=true):I64 n:=by
  simp only [Lit.wf,Bool.and_eq_true,decide_eq_true_eq] at h
  have hm:IntKind.i64.min=-9223372036854775808:=by decide
  have hM:IntKind.i64.max=9223372036854775807:=by decide
  constructor<;>omega
theorem in_ln {d:Dl.Def} (h:In PP tDef d):DLn d:=by
  simp only [In] at h
  obtain ⟨h1,⟨h2,⟨h3,_⟩,h4,h4'⟩,h5,h6,h7,h8,⟨h9,_⟩,⟨h10,_⟩,_,h12,_⟩:=h
  exact ⟨len_of (b:=56) (by kernel_rfl) (by decide) h3,len_of (b:=24) (by kernel_rfl) (by decide) h4,fun e he=>len_of (b:=48) (by kernel_rfl) (by decide) (h4' e he).1,len_of (b:=48) (by kernel_rfl) (by decide) h9,len_of (b:=8) (by kernel_rfl) (by decide) h10,len_of (b:=16) (by kernel_rfl) (by decide) h12⟩
theorem big3_len {e:List tNodeT} (h:big3 e=false):e.length≤120:=by
  simp only [big3,Bool.or_eq_false_iff,decide_eq_false_iff_not] at h
  omega
theorem in_fit {d:Dl.Def} (h:In PP tDef d) (hs:Sm d):Fit d:=by
  simp only [In] at h
  obtain ⟨h1,⟨h2,⟨h3,h3'⟩,h4,h4'⟩,h5,h6,h7,h8,⟨h9,h9'⟩,⟨h10,h10'⟩,_,h12,h12'⟩:=h
  have ef:∀e:List tNodeT,big3 e=false→(∀x∈e,(Lit.int .i64 x.1).wf=true∧(Lit.int .i64 x.2.1).wf=true∧(Lit.int .i64 x.2.2.1).wf=true∧(Lit.int .i64 x.2.2.2.1).wf=true∧x.2.2.2.2.size≤reachBytes)→EFit e:=fun e hb hx=>
    ⟨big3_len hb,fun x hm=>⟨i64_in (hx x hm).1,i64_in (hx x hm).2.1,i64_in (hx x hm).2.2.2.1⟩⟩
  exact ⟨hs.cols,hs.checks,hs.pick,hs.aggs,fun e he=>ef e (hs.each e he) (h4' e he).2,ef _ hs.whr h9',fun c hc=>⟨(hs.names c hc).1,(hs.names c hc).2,i64_in (h3' c hc).2.1⟩,hs.n1,hs.n2,hs.n3,hs.n4,i64_in h8.1,i64_in h8.2,fun n hn=>i64_in (h10' n hn),fun a ha=>i64_in (h12' a ha).2⟩
end Go.Proofs.Ytniojllnooblcaa
end
section
namespace Go.Proofs.Ytniojllnooblcaa
open Go Lv Go.Proofs Go.RowKit Go.Shelf Dl
theorem u64_wrap {i:Int} (h1:0≤i) (h2:i<18446744073709551616):IntKind.u64.wrap i=i:=by
  simp [IntKind.wrap,IntKind.bits,IntKind.signed];omega
theorem u8_wrap {i:Int} (h1:0≤i) (h2:i<256):IntKind.u8.wrap i=i:=by
  simp [IntKind.wrap,IntKind.bits,IntKind.signed];omega
theorem imax:IntKind.i64.max=9223372036854775807:=by decide
/--the leading digit,and what is behind it -/
def dT (n:Nat) (acc:List UInt8):Nat×List UInt8:=if h:n<10 then (n,acc) else dT (n/10) (UInt8.ofNat (48+n%10)::acc)
termination_by n
decreasing_by omega
theorem dT_eq (n:Nat) (acc:List UInt8):UInt8.ofNat (48+(dT n acc).1)::(dT n acc).2=Lib.decDigits n++acc∧(dT n acc).1<10∧(dT n acc).2.length≤acc.length+n:=by
  induction n using Nat.strongRecOn generalizing acc with
  |ind n ih=>
    rw [dT,Lib.decDigits]
    by_cases h:n<10
    · simp [h]
    · rw [dif_neg h,dif_neg h]
      obtain ⟨h1,h2,h3⟩:=ih (n/10) (by omega) (UInt8.ofNat (48+n%10)::acc)
      exact ⟨by rw [h1];simp,h2,by simp at h3 ⊢;omega⟩
theorem dig_bs (d:Nat) (hd:d<10):(⟨#[48,49,50,51,52,53,54,55,56,57]⟩:ByteArray).extract d (d+1)=bs [UInt8.ofNat (48+d)]:=by
  have:d=0∨d=1∨d=2∨d=3∨d=4∨d=5∨d=6∨d=7∨d=8∨d=9:=by omega
  rcases this with rfl|rfl|rfl|rfl|rfl|rfl|rfl|rfl|rfl|rfl<;>decide
theorem itoa_dec (n:Nat) (hn:n<18446744073709551616):(Lib.decDigits n).length≤30:=by
  have h:=Lib.decDigits_length n
  rw [h]
  have:=Lib.nDigits_le20 n hn
  omega
theorem digits_s (n : Nat) (hn : n < 18446744073709551616) : R01_Digits.F ((n : Int),()) = some (bs (Lib.decDigits n),()) := by
  rw [R01_Digits.eq]
  unfold R01_Digits.B
  simp only []
  have hsz:((⟨#[48,49,50,51,52,53,54,55,56,57]⟩:ByteArray).size:Int)=10:=by decide
  rw [hsz]
  have h10:(!decide ((10:Int)=0))=true:=by decide
  rw [loop_f (S:=Int×ByteArray×Unit) (m:=fun x=>x.1.toNat) (I:=fun x=>∃k:Nat,x.1=(k:Int)∧k*10^x.2.1.size≤18446744073709551615)
    (f:=fun x=> .inl (((dT x.1.toNat x.2.1.data.toList).1:Int),bs (dT x.1.toNat x.2.1.data.toList).2,())) ?_ _ ⟨n,rfl,by show n*10^0≤_;omega⟩]
  · simp only [Option.bind_some,Int.toNat_natCast]
    obtain ⟨h1,h2,h3⟩:=dT_eq n []
    generalize dT n []=r at h1 h2 h3
    have e8:IntKind.u64.wrap ((r.1:Int)+(1:Int))=((r.1+1:Nat):Int):=by rw [u64_wrap]<;>omega
    rw [e8]
    have d1:(decide (0≤(r.1:Int))&&(decide ((r.1:Int)≤((r.1+1:Nat):Int))&&decide (((r.1+1:Nat):Int)≤(10:Int))))=true:=by simp;omega
    rw [d1]
    simp only [cond_true,Int.toNat_natCast,dig_bs r.1 h2,bs_size,bs_app,List.cons_append,List.nil_append,imax]
    have d2:(!decide ((([UInt8.ofNat (48+r.1)].length+r.2.length:Nat):Int)>9223372036854775807))=true:=by
      rw [Bool.not_eq_true',decide_eq_false_iff_not]
      have hl:r.2.length+1=(Lib.decDigits n).length:=by
        have:=congrArg List.length h1
        simpa using this
      have hk:=itoa_dec n hn
      simp only [List.length_cons,List.length_nil]
      omega
    rw [d2]
    simp only [cond_true]
    rw [h1,List.append_nil]
  · rintro ⟨x,acc,⟨⟩⟩ ⟨k,hk,hp⟩
    simp only at hk hp
    subst hk
    simp only [Int.toNat_natCast]
    rw [dT]
    by_cases h9:k<10
    · right
      have d1:decide ((k:Int)>(9:Int))=false:=by simp;omega
      simp only [d1,cond_false]
      rw [dif_pos h9]
    · left
      have d1:decide ((k:Int)>(9:Int))=true:=by simp;omega
      have hsz2:acc.size<20:=by
        rcases Nat.lt_or_ge acc.size 20 with h|h
        · exact h
        · exfalso
          have:10^20≤10^acc.size:=Nat.pow_le_pow_right (by decide) h
          have h3:10*10^20≤k*10^acc.size:=Nat.mul_le_mul (by omega) this
          have:(10:Nat)*10^20=1000000000000000000000:=by decide
          omega
      have hm:Int.tmod (k:Int) (10:Int)=((k%10:Nat):Int):=by
        show Int.tmod (k:Int) ((10:Nat):Int)=_
        rw [←Int.ofNat_tmod]
      have hdv:Int.tdiv (k:Int) (10:Int)=((k/10:Nat):Int):=by
        show Int.tdiv (k:Int) ((10:Nat):Int)=_
        rw [←Int.ofNat_tdiv]
      have hlt:k<18446744073709551616:=by
        have:k*1≤k*10^acc.size:=Nat.mul_le_mul_left k (Nat.one_le_pow _ _ (by decide))
        omega
      have e3:IntKind.u64.wrap (((k%10:Nat):Int)+(1:Int))=((k%10+1:Nat):Int):=by rw [u64_wrap]<;>omega
      have e6:IntKind.u64.wrap ((k/10:Nat):Int)=((k/10:Nat):Int):=by rw [u64_wrap]<;>omega
      have d2:(decide (0≤((k%10:Nat):Int))&&(decide (((k%10:Nat):Int)≤((k%10+1:Nat):Int))&&decide (((k%10+1:Nat):Int)≤(10:Int))))=true:=by simp only [Bool.and_eq_true,decide_eq_true_eq];omega
      simp only [d1,h10,hm,hdv,e3,e6,cond_true]
      rw [d2]
      simp only [cond_true,Int.toNat_natCast,dig_bs _ (Nat.mod_lt k (by decide)),bs_size,imax]
      have d3:(!decide ((([UInt8.ofNat (48+k%10)].length+acc.size:Nat):Int)>9223372036854775807))=true:=by
        rw [Bool.not_eq_true',decide_eq_false_iff_not];simp only [List.length_cons,List.length_nil];omega
      rw [d3]
      simp only [cond_true]
      have ha:bs [UInt8.ofNat (48+k%10)]++acc=bs (UInt8.ofNat (48+k%10)::acc.data.toList):=by
        conv=>lhs;rw [←bs_data acc]
        rw [bs_app];rfl
      refine ⟨_,rfl,⟨k/10,rfl,?_⟩,by simp only [Int.toNat_natCast];omega,?_⟩
      · simp only
        rw [ha,bs_size,List.length_cons]
        have hl:acc.data.toList.length=acc.size:=rfl
        rw [hl,Nat.pow_succ,←Nat.mul_assoc,Nat.mul_right_comm]
        have:k/10*10≤k:=Nat.div_mul_le_self k 10
        exact Nat.le_trans (Nat.mul_le_mul_right _ this) hp
      · simp only [Int.toNat_natCast]
        rw [dif_neg h9,ha]
theorem signed_s (n:Int) (h:I64 n):R01_Signed.F (n,())=some (bs (Lib.itoa n),()):=by
  rw [R01_Signed.eq]
  unfold R01_Signed.B
  simp only []
  unfold Lib.itoa
  by_cases hn:n<0
  · have d:decide (n<(0:Int))=true:=by simp [hn]
    rw [d,if_pos hn]
    have e1:IntKind.i64.wrap (n+(1:Int))=n+1:=by rw [i64_wrap]<;>omega
    have e2:IntKind.i64.wrap (0-(n+1))=-(n+1):=by rw [i64_wrap]<;>omega
    have e3:IntKind.u64.wrap (-(n+1))=-(n+1):=by rw [u64_wrap]<;>omega
    have e4:IntKind.u64.wrap (-(n+1)+(1:Int))=(n.natAbs:Int):=by rw [u64_wrap]<;>omega
    have hd:=digits_s n.natAbs (by omega)
    have hk:=itoa_dec n.natAbs (by omega)
    simp only [cond_true,e1,e2,e3,e4,hd,Option.bind_some,bs_app,bs_size,imax,List.cons_append,List.nil_append]
    have d2:(!decide ((([45]:List UInt8).length+(Lib.decDigits n.natAbs).length:Nat)>(9223372036854775807:Int)))=true:=by
      rw [Bool.not_eq_true',decide_eq_false_iff_not];simp only [List.length_cons,List.length_nil];omega
    rw [d2]
    rfl
  · have d:decide (n<(0:Int))=false:=by simp;omega
    rw [d,if_neg hn]
    have e1:IntKind.u64.wrap n=(n.toNat:Int):=by rw [u64_wrap]<;>omega
    simp only [cond_false,e1,digits_s n.toNat (by omega),Option.bind_some]
end Go.Proofs.Ytniojllnooblcaa
end
section
namespace Go.Proofs.Ytniojllnooblcaa
open Go Lv Go.Proofs Go.RowKit Go.Shelf Dl
theorem int_s (n:Int):R01_Int.F (n,())=some (2,n,e0,()):=by rw [R01_Int.eq];rfl
theorem most_s:R01_Most.F ()=some (9223372036854775807,()):=by rw [R01_Most.eq];rfl
theorem least_s:R01_Least.F ()=some (-9223372036854775808,()):=by rw [R01_Least.eq];rfl
theorem nulls_s (a b:Int) (s:ByteArray) (c d:Int) (t:ByteArray):R01_Nulls.F (a,b,s,c,d,t,())=some (decide (a=0)||decide (c=0),()):=by
  rw [R01_Nulls.eq]
  unfold R01_Nulls.B
  simp only [b_eq]
  cases decide (a=0)<;>rfl
theorem ints_s (a b:Int) (s:ByteArray) (c d:Int) (t:ByteArray):R01_Ints.F (a,b,s,c,d,t,())=some (decide (a=2)&&decide (c=2),()):=by
  rw [R01_Ints.eq]
  unfold R01_Ints.B
  simp only [b_eq]
  cases decide (a=2)<;>rfl
/--a number under way:none,if it was too great -/
abbrev Nm:=Option Int
def nmK:Nm→Int
  |none=>0
  |some _=>2
def nmN:Nm→Int
  |none=>0
  |some n=>n
theorem nulls2 (b:Int) (s:ByteArray) (d:Int) (t:ByteArray):R01_Nulls.F (2,b,s,2,d,t,())=some (false,()):=by rw [nulls_s];rfl
theorem nulls0 (b:Int) (s:ByteArray) (c d:Int) (t:ByteArray):R01_Nulls.F (0,b,s,c,d,t,())=some (true,()):=by rw [nulls_s];rfl
theorem ints2 (b:Int) (s:ByteArray) (d:Int) (t:ByteArray):R01_Ints.F (2,b,s,2,d,t,())=some (true,()):=by rw [ints_s];rfl
noncomputable def upd (f:Int→Int):Nm→Nm
  |none=>none
  |some n=>if I64 (f n) then some (f n) else none
noncomputable def updB (f:Int→Int):Nm→Bool
  |none=>true
  |some n=>decide (I64 (f n))
theorem upd_in {f:Int→Int} {v:Nm}:∀n,upd f v=some n→I64 n:=by
  intro n h
  cases v with
  |none=>cases h
  |some m=>
    simp only [upd] at h
    split at h
    · rename_i hi;cases h;exact hi
    · cases h
theorem upd_no {f:Int→Int} {n:Int} (h:¬I64 (f n)):upd f (some n)=none∧updB f (some n)=false:=by
  simp only [upd,updB,if_neg h,decide_eq_false h];exact ⟨trivial,trivial⟩
theorem upd_yes {f:Int→Int} {n:Int} (h:I64 (f n)):upd f (some n)=some (f n)∧updB f (some n)=true:=by
  simp only [upd,updB,if_pos h,decide_eq_true h];exact ⟨trivial,trivial⟩
theorem mul10_s (v : Nm) (hv : ∀ n,v = some n → I64 n) : R01_Mul.F (nmK v,nmN v,e0,2,10,e0,()) = some (nmK (upd (· * 10) v),nmN (upd (· * 10) v),e0,updB (· * 10) v,()) := by
  cases v with
  |none=>
    rw [R01_Mul.eq]
    unfold R01_Mul.B
    simp only [nmK,nulls0,Option.bind_some]
    rfl
  |some n=>
    have hn:=hv n rfl
    rw [R01_Mul.eq]
    unfold R01_Mul.B
    simp only [nmK,nmN,nulls2,ints2,Option.bind_some]
    have q3:((10:Int)==(0:Int))=false:=by decide
    have q4:((10:Int)==(-1:Int))=false:=by decide
    have q5:(!decide ((10:Int)=0))=true:=by decide
    have q6:((10:Int)==(-9223372036854775808:Int))=false:=by decide
    simp only [q3,q4,q5,q6,Bool.not_true,cond_false,cond_true,least_s,Option.bind_some,int_s]
    by_cases h0:n=0
    · subst h0
      obtain ⟨u1,u2⟩:=upd_yes (f:=(· *10)) (n:=0) (by decide)
      rw [u1,u2];rfl
    have h0':(n==(0:Int))=false:=by simp [h0]
    simp only [h0',cond_false,Option.bind_some]
    have hb:∀(b:Bool) {R:Type} (K:((Bool×Unit)⊕R)→Option R),Option.bind ((bif b then some (.inl (false,())) else some (.inl (false,()))):Option ((Bool×Unit)⊕R)) K=K (.inl (false,())):=by
      intro b R K;cases b<;>rfl
    rw [hb]
    simp only [cond_false,i_ne]
    generalize he:IntKind.i64.wrap (n*10)=e
    have key:=Int.mul_tdiv_add_tmod e 10
    have hr:=Int.tmod_lt_of_pos e (show (0:Int)<10 by decide)
    have hr2:-10<Int.tmod e 10:=by
      have:=Int.lt_tmod_of_pos e (show (0:Int)<10 by decide)
      omega
    have he2:I64 e:=by
      rw [←he,IntKind.wrap_i64]
      constructor<;>omega
    have hq:IntKind.i64.wrap (Int.tdiv e 10)=Int.tdiv e 10:=by
      rw [i64_wrap]<;>omega
    rw [hq]
    by_cases hi:I64 (n*10)
    · have hen:e=n*10:=by rw [←he,i64_wrap]<;>omega
      have hd:Int.tdiv e 10=n:=by rw [hen];exact Int.mul_tdiv_cancel n (by decide)
      have hm:Int.tmod e 10=0:=by omega
      obtain ⟨u1,u2⟩:=upd_yes (f:=(· *10)) (n:=n) hi
      rw [u1,u2]
      simp only [hd,hm,decide_true,Bool.not_true,cond_false]
      rw [hen]
    · obtain ⟨u1,u2⟩:=upd_no (f:=(· *10)) (n:=n) hi
      rw [u1,u2]
      simp only []
      by_cases hd:Int.tdiv e 10=n
      · have hm:¬Int.tmod e 10=0:=by
          intro h
          rw [hd,h] at key
          exact hi (by have : n * 10 = e := by omega
                       rw [this];exact he2)
        simp only [hd,hm,decide_true,decide_false,Bool.not_true,Bool.not_false,cond_false,cond_true]
      · simp only [hd,decide_false,Bool.not_false,cond_true]
theorem add_d (v : Nm) (hv : ∀ n,v = some n → I64 n) (d : Int) (hd : 0 ≤ d ∧ d ≤ 9) : R01_Add.F (nmK v,nmN v,e0,2,d,e0,()) = some (nmK (upd (· + d) v),nmN (upd (· + d) v),e0,updB (· + d) v,()) := by
  cases v with
  |none=>
    rw [R01_Add.eq]
    unfold R01_Add.B
    simp only [nmK,nulls0,Option.bind_some]
    rfl
  |some n=>
    have hn:=hv n rfl
    rw [R01_Add.eq]
    unfold R01_Add.B
    simp only [nmK,nmN,nulls2,ints2,Option.bind_some]
    have q4:decide (d<(0:Int))=false:=by simp;omega
    have e4:IntKind.i64.wrap (9223372036854775807-d)=9223372036854775807-d:=by rw [i64_wrap]<;>omega
    simp only [q4,Bool.not_true,cond_false,most_s,Option.bind_some,int_s,e4]
    by_cases h0:d>0
    · rw [decide_eq_true h0]
      by_cases hi:I64 (n+d)
      · have:decide (n>9223372036854775807-d)=false:=by simp;omega
        have hw:IntKind.i64.wrap (n+d)=n+d:=by rw [i64_wrap]<;>omega
        obtain ⟨u1,u2⟩:=upd_yes (f:=(· +d)) (n:=n) hi
        rw [u1,u2]
        simp only [this,cond_true,cond_false,Option.bind_some,hw]
      · have:decide (n>9223372036854775807-d)=true:=by
          rw [decide_eq_true_eq]
          rcases Int.lt_or_le (9223372036854775807-d) n with h|h
          · exact h
          · exact absurd ⟨by omega,by omega⟩ hi
        obtain ⟨u1,u2⟩:=upd_no (f:=(· +d)) (n:=n) hi
        rw [u1,u2]
        simp only [this,cond_true,Option.bind_some]
    · have hd0:d=0:=by omega
      subst hd0
      have hi:I64 (n+0):=by rw [Int.add_zero];exact hn
      have hw:IntKind.i64.wrap (n+0)=n+0:=by rw [i64_wrap]<;>omega
      obtain ⟨u1,u2⟩:=upd_yes (f:=(· +(0:Int))) (n:=n) hi
      rw [u1,u2]
      simp only [show decide ((0:Int)>0)=false by decide,cond_false,Option.bind_some,hw]
theorem cdF {P:Prop} [i:Decidable P] {α:Type} {a b:α} (h:¬P):(bif decide P then a else b)=b:=by
  rw [decide_eq_false h];rfl
theorem cdT {P:Prop} [i:Decidable P] {α:Type} {a b:α} (h:P):(bif decide P then a else b)=a:=by
  rw [decide_eq_true h];rfl
theorem sub_d (v : Nm) (hv : ∀ n,v = some n → I64 n) (d : Int) (hd : 0 ≤ d ∧ d ≤ 9) : R01_Sub.F (nmK v,nmN v,e0,2,d,e0,()) = some (nmK (upd (· - d) v),nmN (upd (· - d) v),e0,updB (· - d) v,()) := by
  cases v with
  |none=>
    rw [R01_Sub.eq]
    unfold R01_Sub.B
    simp only [nmK,nulls0,Option.bind_some]
    rfl
  |some n=>
    have hn:=hv n rfl
    rw [R01_Sub.eq]
    unfold R01_Sub.B
    simp only [nmK,nmN,nulls2,ints2,Option.bind_some]
    have q4:decide (d<(0:Int))=false:=by simp;omega
    have e4:IntKind.i64.wrap (-9223372036854775808+d)=-9223372036854775808+d:=by rw [i64_wrap]<;>omega
    simp only [q4,Bool.not_true,cond_false,least_s,most_s,Option.bind_some,int_s]
    by_cases h0:d>0
    · rw [decide_eq_true h0]
      by_cases hi:I64 (n-d)
      · have hw:IntKind.i64.wrap (n-d)=n-d:=by rw [i64_wrap]<;>omega
        have:¬(n<IntKind.i64.wrap (-9223372036854775808+d)):=by rw [e4];omega
        obtain ⟨u1,u2⟩:=upd_yes (f:=(· - d)) (n:=n) hi
        rw [u1,u2]
        simp only [cond_true,Option.bind_some,hw]
        exact cdF this
      · have:n<IntKind.i64.wrap (-9223372036854775808+d):=by
          rw [e4]
          rcases Int.lt_or_le n (-9223372036854775808+d) with h|h
          · exact h
          · exact absurd ⟨by omega,by omega⟩ hi
        obtain ⟨u1,u2⟩:=upd_no (f:=(· - d)) (n:=n) hi
        rw [u1,u2]
        simp only [cond_true,Option.bind_some]
        exact cdT this
    · have hd0:d=0:=by omega
      subst hd0
      have hi:I64 (n-0):=by rw [Int.sub_zero];exact hn
      have hw:IntKind.i64.wrap (n-0)=n-0:=by rw [i64_wrap]<;>omega
      obtain ⟨u1,u2⟩:=upd_yes (f:=(· - (0:Int))) (n:=n) hi
      rw [u1,u2]
      simp only [show decide ((0:Int)>0)=false by decide,cond_false,Option.bind_some,hw]
end Go.Proofs.Ytniojllnooblcaa
end
section
namespace Go.Proofs.Ytniojllnooblcaa
open Go Lv Go.Proofs Go.RowKit Go.Shelf Dl
def dvl (acc:Nat):List UInt8→Nat
  | []=>acc
  |c::r=>dvl (acc*10+(c.toNat-48)) r
theorem dvl_le:∀(l:List UInt8) (acc:Nat),acc≤dvl acc l:=by
  intro l
  induction l with
  |nil=>intro acc;exact Nat.le_refl _
  |cons c r ih=>intro acc;exact Nat.le_trans (by omega) (ih _)
theorem digit_iff (c:UInt8):digit c=true↔48≤c.toNat∧c.toNat≤57:=by simp [digit]
theorem parse_dvl:∀(l:List UInt8),l.all digit=true→∀acc,acc<18446744073709551616→(dvl acc l<18446744073709551616→Lib.parseUint10 acc l=.ok (dvl acc l))∧(18446744073709551616≤dvl acc l→Lib.parseUint10 acc l=.range):=by
  intro l
  induction l with
  |nil=>intro _ acc h;exact ⟨fun _=>rfl,fun k=>absurd h (Nat.not_lt.2 k)⟩
  |cons c r ih=>
    intro hd acc ha
    simp only [List.all_cons,Bool.and_eq_true] at hd
    have hc:=(digit_iff c).1 hd.1
    have e:dvl acc (c::r)=dvl (acc*10+(c.toNat-48)) r:=rfl
    rw [e]
    have hle:=dvl_le r (acc*10+(c.toNat-48))
    unfold Lib.parseUint10
    rw [if_pos hc]
    split
    · exact ⟨fun k=>by omega,fun _=>rfl⟩
    · split
      · exact ⟨fun k=>by omega,fun _=>rfl⟩
      · exact ih hd.2 _ (by omega)
def sgV (neg:Bool) (n:Nat):Int:=bif neg then -(n:Int) else (n:Int)
/--what digits with a sign are -/
theorem numS_dvl (neg : Bool) (ds : List UInt8) (hd : ds.all digit = true) (hne : ds ≠ []) :
    numS (bif neg then 45::ds else ds)=if I64 (sgV neg (dvl 0 ds))∧Lib.itoa (sgV neg (dvl 0 ds))=(bif neg then 45::ds else ds) then some (sgV neg (dvl 0 ds)) else none:=by
  have hp:(dvl 0 ds<18446744073709551616→Lib.parseMag ds=.ok (dvl 0 ds))∧(18446744073709551616≤dvl 0 ds→Lib.parseMag ds=.range):=by
    unfold Lib.parseMag
    rw [if_neg hne]
    exact parse_dvl ds hd 0 (by decide)
  have ha : ∀ z,z = sgV neg (dvl 0 ds) → (I64 z → Lib.atoiAll (bif neg then 45 :: ds else ds) = .ok z) ∧ (¬ I64 z → Lib.atoiAll (bif neg then 45 :: ds else ds) = .range) := by
    intro z hz
    cases neg with
    |true=>
      have hz':z=-((dvl 0 ds:Nat):Int):=hz
      clear hz
      show (I64 z→Lib.atoiAll (45::ds)=.ok z)∧(¬I64 z→Lib.atoiAll (45::ds)=.range)
      unfold Lib.atoiAll
      have e45:((45:UInt8).toNat=43∨(45:UInt8).toNat=45):=by decide
      simp only [if_pos e45]
      have t45:(45:UInt8).toNat=45:=rfl
      rcases Nat.lt_or_ge (dvl 0 ds) 18446744073709551616 with h|h
      · rw [hp.1 h]
        simp only [t45,true_and,not_true,false_and,if_false,if_true]
        by_cases h2:9223372036854775808<dvl 0 ds
        · rw [if_pos h2]
          exact ⟨fun k=>by obtain ⟨k1,k2⟩:=k;omega,fun _=>rfl⟩
        · rw [if_neg h2]
          exact ⟨fun _=>by rw [hz'],fun k=>absurd ⟨by omega,by omega⟩ k⟩
      · rw [hp.2 h]
        exact ⟨fun k=>by obtain ⟨k1,k2⟩:=k;omega,fun _=>rfl⟩
    | false =>
      have hz':z=((dvl 0 ds:Nat):Int):=hz
      clear hz
      cases ds with
      |nil=>exact absurd rfl hne
      |cons c r=>
        simp only [List.all_cons,Bool.and_eq_true] at hd
        have hc:=(digit_iff c).1 hd.1
        show (I64 z→Lib.atoiAll (c::r)=.ok z)∧(¬I64 z→Lib.atoiAll (c::r)=.range)
        unfold Lib.atoiAll
        have n1:¬(c.toNat=43∨c.toNat=45):=by omega
        have n2:¬c.toNat=45:=by omega
        simp only [if_neg n1]
        rcases Nat.lt_or_ge (dvl 0 (c::r)) 18446744073709551616 with h|h
        · rw [hp.1 h]
          simp only [n2,not_false_eq_true,true_and,false_and,if_false]
          by_cases h2:9223372036854775808≤dvl 0 (c::r)
          · rw [if_pos h2]
            exact ⟨fun k=>by obtain ⟨k1,k2⟩:=k;omega,fun _=>rfl⟩
          · rw [if_neg h2]
            exact ⟨fun _=>by rw [hz'],fun k=>absurd ⟨by omega,by omega⟩ k⟩
        · rw [hp.2 h]
          exact ⟨fun k=>by obtain ⟨k1,k2⟩:=k;omega,fun _=>rfl⟩
  have hb:=ha _ rfl
  clear ha
  generalize sgV neg (dvl 0 ds)=z at hb ⊢
  generalize (bif neg then 45::ds else ds)=w at hb ⊢
  unfold numS
  by_cases h:I64 z
  · rw [hb.1 h]
    by_cases hi:Lib.itoa z=w
    · rw [if_pos ⟨h,hi⟩];exact if_pos hi
    · rw [if_neg (fun k=>hi k.2)];exact if_neg hi
  · rw [hb.2 h,if_neg (fun k=>h k.1)]
noncomputable def nstep (neg:Bool) (c:UInt8) (st:Bool×Nm):Bool×Nm:=
  if c = 45 then st else
    (st.1 && (updB (· * 10) st.2 && (bif neg then updB (· - ((c.toNat : Int) - 48)) (upd (· * 10) st.2) else updB (· + ((c.toNat : Int) - 48)) (upd (· * 10) st.2))),
     bif neg then upd (· - ((c.toNat:Int)-48)) (upd (· *10) st.2) else upd (· +((c.toNat:Int)-48)) (upd (· *10) st.2))
def NI (neg:Bool) (st:Bool×Nm) (a:Nat):Prop:=(∀n,st.2=some n→I64 n)∧((st.1=true∧st.2=some (sgV neg a)∧I64 (sgV neg a))∨(st.1=false∧¬I64 (sgV neg a)))
theorem nstep_in (neg:Bool) (c:UInt8) (st:Bool×Nm) (h:∀n,st.2=some n→I64 n):∀n,(nstep neg c st).2=some n→I64 n:=by
  unfold nstep
  split
  · exact h
  · cases neg<;>exact upd_in
theorem nstep_ni (neg : Bool) (c : UInt8) (hc : digit c = true) (st : Bool × Nm) (a : Nat) (h : NI neg st a) : NI neg (nstep neg c st) (a * 10 + (c.toNat - 48)) := by
  obtain ⟨h1,h2⟩:=h
  refine ⟨nstep_in neg c st h1,?_⟩
  have hd:=(digit_iff c).1 hc
  have h45:c≠45:=fun e=>by subst e;revert hc;decide
  unfold nstep
  rw [if_neg h45]
  rcases h2 with ⟨o,v,i⟩|⟨o,i⟩
  · simp only [o,v,Bool.true_and]
    cases neg with
    |false=>
      simp only [sgV,cond_false] at i ⊢
      by_cases hm:I64 ((a:Int)*10)
      · obtain ⟨u1,u2⟩:=upd_yes (f:=(· *10)) (n:=(a:Int)) hm
        rw [u1,u2]
        by_cases hp:I64 ((a:Int)*10+((c.toNat:Int)-48))
        · obtain ⟨w1,w2⟩:=upd_yes (f:=(· +((c.toNat:Int)-48))) (n:=(a:Int)*10) hp
          rw [w1,w2]
          left
          have:(a:Int)*10+((c.toNat:Int)-48)=((a*10+(c.toNat-48):Nat):Int):=by omega
          rw [this] at hp ⊢
          exact ⟨rfl,rfl,hp⟩
        · obtain ⟨w1,w2⟩:=upd_no (f:=(· +((c.toNat:Int)-48))) (n:=(a:Int)*10) hp
          rw [w1,w2]
          right
          refine ⟨rfl,fun k=>hp ?_⟩
          have:(a:Int)*10+((c.toNat:Int)-48)=((a*10+(c.toNat-48):Nat):Int):=by omega
          rw [this];exact k
      · obtain ⟨u1,u2⟩:=upd_no (f:=(· *10)) (n:=(a:Int)) hm
        rw [u1,u2]
        right
        refine ⟨rfl,fun k=>hm ?_⟩
        obtain ⟨k1,k2⟩:=k
        constructor<;>omega
    |true=>
      simp only [sgV,cond_true] at i ⊢
      by_cases hm:I64 (-(a:Int)*10)
      · obtain ⟨u1,u2⟩:=upd_yes (f:=(· *10)) (n:=-(a:Int)) hm
        rw [u1,u2]
        by_cases hp:I64 (-(a:Int)*10-((c.toNat:Int)-48))
        · obtain ⟨w1,w2⟩:=upd_yes (f:=(· - ((c.toNat:Int)-48))) (n:=-(a:Int)*10) hp
          rw [w1,w2]
          left
          have:-(a:Int)*10-((c.toNat:Int)-48)=-((a*10+(c.toNat-48):Nat):Int):=by omega
          rw [this] at hp ⊢
          exact ⟨rfl,rfl,hp⟩
        · obtain ⟨w1,w2⟩:=upd_no (f:=(· - ((c.toNat:Int)-48))) (n:=-(a:Int)*10) hp
          rw [w1,w2]
          right
          refine ⟨rfl,fun k=>hp ?_⟩
          have:-(a:Int)*10-((c.toNat:Int)-48)=-((a*10+(c.toNat-48):Nat):Int):=by omega
          rw [this];exact k
      · obtain ⟨u1,u2⟩:=upd_no (f:=(· *10)) (n:=-(a:Int)) hm
        rw [u1,u2]
        right
        refine ⟨rfl,fun k=>hm ?_⟩
        obtain ⟨k1,k2⟩:=k
        constructor<;>omega
  · right
    simp only [o,Bool.false_and,true_and]
    intro k
    apply i
    obtain ⟨k1,k2⟩:=k
    cases neg
    · simp only [sgV,cond_false] at k1 k2 ⊢
      constructor<;>omega
    · simp only [sgV,cond_true] at k1 k2 ⊢
      constructor<;>omega
theorem nfold_ni (neg:Bool):∀(l:List UInt8),l.all digit=true→∀st a,NI neg st a→NI neg (l.foldl (fun st c=>nstep neg c st) st) (dvl a l):=by
  intro l
  induction l with
  |nil=>intro _ st a h;exact h
  |cons c r ih=>
    intro hd st a h
    simp only [List.all_cons,Bool.and_eq_true] at hd
    exact ih hd.2 _ _ (nstep_ni neg c hd.1 st a h)
theorem foldT_l {St R:Type} (f:UInt8→St→St) (fin:St→R):∀(l:List UInt8) (st:St),foldT (fun c st=>Sum.inl (f c st)) fin l st=fin (l.foldl (fun st c=>f c st) st):=by
  intro l
  induction l with
  |nil=>intro st;rfl
  |cons c r ih=>intro st;exact ih _
theorem byte_bs {l:List UInt8} {i:Nat} (h:i<l.length):byteAt (bs l) i=((l[i]).toNat:Int):=by
  have:lst (bs l) i=l[i]::l.drop (i+1):=List.drop_eq_getElem_cons h
  exact (lst_cons this).2.2
theorem rNumber_fold (c : UInt8) (r : List UInt8) (hr : r.all digit = true) (hc : digit c = true ∨ c = 45) (hl : (c :: r).length ≤ 100000000) :
    R06_Number.F (bs (c::r),())=
      (let st:=(c::r).foldl (fun st d=>nstep (decide (c=45)) d st) (true,some 0)
      bif st.1 then Option.bind (R01_Signed.F (nmN st.2,())) fun y13=>some (nmN st.2,(y13.1.toList==(bs (c::r)).toList),()) else some (nmN st.2,false,())):=by
  rw [R06_Number.eq]
  unfold R06_Number.B
  simp only []
  have hst:lst (bs (c::r)) 0=c::r:=rfl
  have e3:byteAt (bs (c::r)) 0=(c.toNat:Int):=(lst_cons hst).2.2
  have d2:(decide (0≤(0:Int))&&decide ((0:Int)<((bs (c::r)).size:Int)))=true:=by rw [bs_size];simp only [Bool.and_eq_true,decide_eq_true_eq,List.length_cons];omega
  rw [d2,e3]
  simp only [cond_true]
  have h45:((c.toNat:Int)==(45:Int))=decide (c=45):=u8_eq c 45 (by decide)
  rw [h45,bs_size]
  generalize decide (c=45)=neg
  have hw:∀x∈c::r,digit x=true∨x=45:=by
    intro x hx
    rcases List.mem_cons.1 hx with h|h
    · subst h;exact hc
    · exact .inl (List.all_eq_true.1 hr x h)
  generalize hW:c::r=w at hw hl
  refine (loop_TB (mk:=fun (i:Int) (st:Bool×Nm)=>(st.1,i,nmK st.2,nmN st.2,e0,())) (l:=w) (I:=fun _ st=>∀n,st.2=some n→I64 n)
    (step:=fun c st=> .inl (nstep neg c st)) (fin:=fun st=> .inl (st.1,nmK st.2,nmN st.2,e0,())) ?_ ?_ (true,some 0) (by intro n h;cases h;decide)).trans ?_
  · intro i hi st hI
    refine ⟨?_,fun st' hs=>by cases hs;exact nstep_in neg _ st hI⟩
    have d1:decide ((i:Int)<((w.length:Nat):Int))=true:=by simp;omega
    have d0:decide (0≤(i:Int))=true:=by simp
    have hb:=byte_bs hi
    have hx:=hw w[i] (List.getElem_mem hi)
    generalize w[i]=x at hb hx
    have x45:((x.toNat:Int)==(45:Int))=decide (x=45):=u8_eq x 45 (by decide)
    simp only [d1,d0,Bool.and_self,cond_true,Int.toNat_natCast,hb,x45,wrap_s hi (by omega)]
    unfold nstep
    by_cases h5:x=45
    · simp only [h5,decide_true,cond_true,Option.bind_some,if_true]
    · have hdx:48≤x.toNat∧x.toNat≤57:=by
        rcases hx with h|h
        · exact (digit_iff x).1 h
        · exact absurd h h5
      have e4:IntKind.u8.wrap ((x.toNat:Int)-48)=(x.toNat:Int)-48:=by rw [u8_wrap]<;>omega
      have e5:IntKind.i64.wrap ((x.toNat:Int)-48)=(x.toNat:Int)-48:=by rw [i64_wrap]<;>omega
      have m1:=mul10_s st.2 hI
      have a1:=add_d (upd (· *10) st.2) upd_in ((x.toNat:Int)-48) (by omega)
      have s1:=sub_d (upd (· *10) st.2) upd_in ((x.toNat:Int)-48) (by omega)
      simp only [h5,decide_false,cond_false,e4,e5,int_s,Option.bind_some,m1,a1,s1,if_false]
      cases neg<;>cases st.1<;>cases updB (· *10) st.2<;>rfl
  · intro st hI
    have d1:decide (((w.length:Nat):Int)<((w.length:Nat):Int))=false:=by simp
    simp only [d1,cond_false]
  · rw [foldT_l]
/--the reference's number is numS -/
theorem rNumber_s (c : UInt8) (r : List UInt8) (hr : r.all digit = true) (hc : digit c = true ∨ (c = 45 ∧ r ≠ [])) (hl : (c :: r).length ≤ 100000000) :
    match numS (c::r) with
    |some n=>R06_Number.F (bs (c::r),())=some (n,true,())
    |none=>∃n,R06_Number.F (bs (c::r),())=some (n,false,()):=by
  rw [rNumber_fold c r hr (hc.imp id And.left) hl]
  have go : ∀ (neg : Bool) (ds : List UInt8),ds.all digit = true → ds ≠ [] → (∀ st : Bool × Nm,(c :: r).foldl (fun st d => nstep neg d st) st = ds.foldl (fun st d => nstep neg d st) st) → c :: r = (bif neg then 45 :: ds else ds) →
      match numS (c::r) with
      |some n=>(let st:=(c::r).foldl (fun st d=>nstep neg d st) (true,some 0)
          bif st.1 then Option.bind (R01_Signed.F (nmN st.2,())) fun y13=>some (nmN st.2,(y13.1.toList==(bs (c::r)).toList),()) else some (nmN st.2,false,()))=some (n,true,())
      |none=>∃n,(let st:=(c::r).foldl (fun st d=>nstep neg d st) (true,some 0)
          bif st.1 then Option.bind (R01_Signed.F (nmN st.2,())) fun y13=>some (nmN st.2,(y13.1.toList==(bs (c::r)).toList),()) else some (nmN st.2,false,()))=some (n,false,()):=by
    intro neg ds hds hne hf hw
    have hn:=numS_dvl neg ds hds hne
    rw [←hw] at hn
    rw [hn,hf]
    have inv:=nfold_ni neg ds hds (true,some 0) 0 ⟨by intro n h;cases h;decide,.inl ⟨rfl,by cases neg<;>rfl,by cases neg<;>decide⟩⟩
    generalize ds.foldl (fun st d=>nstep neg d st) (true,some 0)=st at inv
    obtain ⟨_,h|h⟩:=inv
    · obtain ⟨h1,h2,h3⟩:=h
      simp only [h1,cond_true,h2,nmN,signed_s _ h3,Option.bind_some,beq_bs]
      by_cases hi:Lib.itoa (sgV neg (dvl 0 ds))=c::r
      · rw [if_pos ⟨h3,hi⟩]
        simp only [hi,decide_true]
      · rw [if_neg (fun k=>hi k.2)]
        simp only [hi,decide_false]
        exact ⟨_,rfl⟩
    · obtain ⟨h1,h2⟩:=h
      rw [if_neg (fun k=>h2 k.1)]
      simp only [h1,cond_false]
      exact ⟨_,rfl⟩
  rcases hc with hc|⟨hc,hne⟩
  · have h45:c≠45:=fun e=>by subst e;revert hc;decide
    simp only [h45,decide_false]
    exact go false (c::r) (by simp only [List.all_cons,hc,hr,Bool.and_self]) (by simp) (fun _=>rfl) rfl
  · subst hc
    simp only [decide_true]
    exact go true r hr hne (fun st=>by simp only [List.foldl_cons];rfl) rfl
end Go.Proofs.Ytniojllnooblcaa
end
section
namespace Go.Proofs.Ytniojllnooblcaa
open Go Lv Go.Proofs Go.RowKit Go.Shelf Dl
theorem foldT_find {R:Type} (c:UInt8) (tt:R) (ff:Unit→R):∀(l:List UInt8),foldT (fun (d:UInt8) (_:Unit)=>bif decide (d=c) then Sum.inr tt else Sum.inl ()) ff l ()=if c∈l then tt else ff ():=by
  intro l
  induction l with
  |nil=>simp [foldT]
  |cons d l ih=>
    by_cases h:d=c
    · subst h;simp [foldT]
    · have h':¬c=d:=fun e=>h e.symm
      simp only [foldT,h,decide_false,cond_false,ih,List.mem_cons,h',false_or]
theorem rSign_s (c : UInt8) : R06_Sign.F ((c.toNat : Int),()) = some (decide (c ∈ signs),()) := by
  rw [R06_Sign.eq]
  unfold R06_Sign.B
  have hz:((⟨#[40,41,91,93,44,61,60,43,45,42,63]⟩:ByteArray).size:Int)=((signs.length:Nat):Int):=rfl
  have hb:∀i:Nat,byteAt (⟨#[40,41,91,93,44,61,60,43,45,42,63]⟩:ByteArray) i=byteAt (bs signs) i:=fun _=>rfl
  simp only [hz,hb]
  refine (loop_T (mk:=fun (i:Int) (_:Unit)=>(i,())) (l:=signs) (I:=fun _ _=>True)
    (step:=fun d _=>bif decide (d=c) then Sum.inr (true,()) else Sum.inl ()) (fin:=fun _=>(false,())) ?_ ?_ () trivial).trans ?_
  · intro i hi st _
    refine ⟨?_,fun _ _=>trivial⟩
    have d1:decide ((i:Int)<((signs.length:Nat):Int))=true:=by simp only [decide_eq_true_eq];omega
    have d0:decide (0≤(i:Int))=true:=by simp
    have hl:signs.length=11:=rfl
    have hx:((signs[i].toNat:Int)==(c.toNat:Int))=decide (signs[i]=c):=by
      by_cases h:signs[i]=c
      · rw [h];simp
      · have:¬(signs[i].toNat:Int)=(c.toNat:Int):=fun e=>h (UInt8.toNat_inj.1 (by omega))
        rw [beq_eq_false_iff_ne.2 this];simp [h]
    simp only [d1,d0,Bool.and_self,cond_true,Int.toNat_natCast,byte_bs hi,hx,wrap_s hi (by omega)]
    cases decide (signs[i]=c)<;>rfl
  · intro st _
    have d1:decide (((signs.length:Nat):Int)<((signs.length:Nat):Int))=false:=by simp
    simp only [d1,cond_false]
  · rw [foldT_find]
    by_cases h:c∈signs
    · rw [if_pos h,decide_eq_true h]
    · rw [if_neg h,decide_eq_false h]
def txR (s:ByteArray) (acc:ByteArray):Option (List UInt8×List UInt8)→ByteArray×Int×Bool×Unit
  |none=>(e0,0,false,())
  |some x=>(acc++bs x.1,((s.size-x.2.length:Nat):Int),decide (acc.size+x.1.length≤1000),())
theorem app_assoc (a:ByteArray) (b c:List UInt8):a++bs b++bs c=a++bs (b++c):=by
  apply Go.WideShapes.bytes_inj
  simp
theorem app_nil (a:ByteArray):a++bs []=a:=by
  apply Go.WideShapes.bytes_inj
  simp
theorem rText_s (s : ByteArray) (hs : s.size ≤ 100000000) (i : Nat) {r : List UInt8} (hc : lst s i = 39 :: r) : R06_text.F (s,(i : Int),()) = some (txR s e0 (textS r)) := by
  obtain ⟨hi,h1,_⟩:=lst_cons hc
  rw [R06_text.eq]
  unfold R06_text.B
  simp only [wrap_s hi (show s.size<9223372036854775808 by omega)]
  refine (loop_f (S:=ByteArray×Int×Unit) (m:=fun x=>s.size-x.2.1.toNat) (I:=fun x=>∃k:Nat,x.2.1=(k:Int)∧k≤s.size∧x.1.size≤k)
    (f:=fun x=>txR s x.1 (textS (lst s x.2.1.toNat))) ?_ _ ⟨i+1,rfl,by omega,by show 0≤_;omega⟩).trans ?_
  · rintro ⟨acc,x,⟨⟩⟩ ⟨k,hk,hle,hsz⟩
    simp only at hk hsz
    subst hk
    simp only [Int.toNat_natCast]
    by_cases hlt:k<s.size
    · obtain ⟨c,q,e⟩:=lst_at hlt
      obtain ⟨_,e1,e2⟩:=lst_cons e
      have d1:decide ((k:Int)<(s.size:Int))=true:=by simp;omega
      have d0:decide (0≤(k:Int))=true:=by simp
      have w1:IntKind.i64.wrap ((k:Int)+(1:Int))=((k+1:Nat):Int):=wrap_s hlt (by omega)
      have c39:((c.toNat:Int) !=(39:Int))= !decide (c=39):=by
        have h:((c.toNat:Int)==(39:Int))=decide (c=39):=u8_eq c 39 (by decide)
        show (!((c.toNat:Int)==(39:Int)))=_
        rw [h]
      simp only [d1,d0,Bool.and_self,cond_true,e2,c39,w1,Bool.true_and]
      by_cases h39:c=39
      · subst h39
        simp only [decide_true,Bool.not_true,cond_false]
        by_cases hlt2:k+1<s.size
        · obtain ⟨d,q',e'⟩:=lst_at hlt2
          obtain ⟨_,e1',e2'⟩:=lst_cons e'
          rw [e1] at e'
          subst e'
          have d2:decide (((k+1:Nat):Int)<(s.size:Int))=true:=by simp only [decide_eq_true_eq];omega
          have d3:decide (0≤((k+1:Nat):Int))=true:=by simp only [decide_eq_true_eq];omega
          have d39:((d.toNat:Int)==(39:Int))=decide (d=39):=u8_eq d 39 (by decide)
          simp only [d2,d3,Bool.and_self,cond_true,Int.toNat_natCast,e2',d39]
          by_cases h2:d=39
          · subst h2
            left
            have w2:IntKind.i64.wrap ((k:Int)+(2:Int))=((k+2:Nat):Int):=by rw [i64_wrap]<;>omega
            have e3:(!decide ((((acc.size+(⟨#[39]⟩:ByteArray).size:Nat)):Int)>IntKind.i64.max))=true:=by
              have:(⟨#[39]⟩:ByteArray).size=1:=rfl
              rw [imax,this,Bool.not_eq_true',decide_eq_false_iff_not]
              omega
            simp only [decide_true,cond_true,e3,w2]
            refine ⟨_,rfl,⟨k+2,rfl,by omega,?_⟩,by simp only [Int.toNat_natCast];omega,?_⟩
            · show (acc++bs [39]).size≤_
              rw [ByteArray.size_append]
              have:(bs [39]).size=1:=rfl
              clear hc h1
              omega
            · simp only [Int.toNat_natCast]
              rw [e1',e,textS_cons,if_pos rfl]
              simp only [if_true]
              rw [show (⟨#[39]⟩:ByteArray)=bs [39] from rfl]
              cases textS q' with
              |none=>rfl
              |some x=>
                simp only [Option.map_some,txR,app_assoc,ByteArray.size_append,bs_size,List.length_cons,List.length_nil,List.cons_append,List.nil_append]
                congr 3
                have:acc.size+(0+1)+x.1.length=acc.size+(x.1.length+1):=by omega
                rw [this]
          · right
            rw [e,textS_cons,if_pos rfl]
            simp only [h2,decide_false,cond_false,if_false,txR,app_nil,List.length_nil,Nat.add_zero]
            have hl:=lst_len s (k+1)
            rw [e1] at hl
            have:s.size-(d::q').length=k+1:=by rw [hl];omega
            rw [this]
            have:decide ((acc.size:Int)≤(1000:Int))=decide (acc.size≤1000):=by simp only [decide_eq_decide];omega
            rw [this]
        · right
          have d2:decide (((k+1:Nat):Int)<(s.size:Int))=false:=by simp only [decide_eq_false_iff_not];omega
          have hl:=lst_len s (k+1)
          rw [e1] at hl
          have hq:q=[]:=List.length_eq_zero_iff.1 (by omega)
          subst hq
          rw [e,textS_cons,if_pos rfl]
          simp only [d2,cond_false,txR,app_nil,List.length_nil,Nat.add_zero]
          have:s.size-0=k+1:=by omega
          rw [this]
          have:decide ((acc.size:Int)≤(1000:Int))=decide (acc.size≤1000):=by simp only [decide_eq_decide];omega
          rw [this]
      · left
        have w3:(decide ((k:Int)≤((k+1:Nat):Int))&&decide (((k+1:Nat):Int)≤(s.size:Int)))=true:=by simp only [Bool.and_eq_true,decide_eq_true_eq];omega
        have w4:s.extract k (k+1)=bs [c]:=by rw [ext_bs s k (k+1) (by omega),e];simp
        have e3:(!decide ((((acc.size+(bs [c]).size:Nat)):Int)>IntKind.i64.max))=true:=by
          have:(bs [c]).size=1:=rfl
          rw [imax,this,Bool.not_eq_true',decide_eq_false_iff_not]
          omega
        simp only [h39,decide_false,Bool.not_false,cond_true,w3,Int.toNat_natCast,w4,e3]
        refine ⟨_,rfl,⟨k+1,rfl,by omega,?_⟩,by simp only [Int.toNat_natCast];omega,?_⟩
        · show (acc++bs [c]).size≤_
          rw [ByteArray.size_append]
          have:(bs [c]).size=1:=rfl
          clear hc h1
          omega
        · simp only [Int.toNat_natCast]
          rw [e1,e,textS_cons,if_neg h39]
          cases textS q with
          |none=>rfl
          |some x=>
            simp only [Option.map_some,txR,app_assoc,ByteArray.size_append,bs_size,List.length_cons,List.length_nil,List.cons_append,List.nil_append]
            congr 3
            have:acc.size+(0+1)+x.1.length=acc.size+(x.1.length+1):=by omega
            rw [this]
    · right
      have:lst s k=[]:=by
        have:=lst_len s k
        exact List.length_eq_zero_iff.1 (by omega)
      have d1:decide ((k:Int)<(s.size:Int))=false:=by simp;omega
      rw [this]
      simp only [d1,cond_false]
      rfl
  · simp only [Int.toNat_natCast,h1]
end Go.Proofs.Ytniojllnooblcaa
end
end
