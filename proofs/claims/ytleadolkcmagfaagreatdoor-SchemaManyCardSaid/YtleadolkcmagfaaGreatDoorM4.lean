import Derived.Lib.AtoiAll
import Derived.Lib.ItoaNum
import Derived.Lib.Replace
import Derived.Lib.Join
import Derived.Test.YtleadolkcmagfaaGreatDoorDB
import Derived.Test.YtleadolkcmagfaaGreatDoorM3
import Derived.Lib.ItoaLen
set_option linter.all false
set_option linter.unusedVariables false
set_option linter.unusedSimpArgs false
set_option linter.unusedSectionVars false
section
namespace Dl
open Go
abbrev Val:=Int×(Int×ByteArray)
abbrev Tok:=Int×(ByteArray×Val)
abbrev bs (l:List UInt8):ByteArray:=⟨l.toArray⟩
abbrev e0:ByteArray:=(⟨#[]⟩:ByteArray)
def letter (c:UInt8):Bool:=decide (97≤c.toNat)&&decide (c.toNat≤122)
def digit (c:UInt8):Bool:=decide (48≤c.toNat)&&decide (c.toNat≤57)
def inner (c:UInt8):Bool:=letter c||digit c||decide (c=95)
def signs:List UInt8:=([40,41,91,93,44,61,60,43,45,42,63]:List UInt8)
def isWordL (w:List UInt8):Bool:=match w with
  | []=>false
  |c::_=>letter c&&w.all inner&&decide (w.length≤30)
def numS (w:List UInt8):Option Int:=match Lib.atoiAll w with
  | .ok v=>if Lib.itoa v=w then some v else none
  |_=>none
def textS : List UInt8 → Option (List UInt8 × List UInt8)
  | []=>none
  | c :: r => if c = 39 then (match r with
      | []=>some ([],[])
      |d::r'=>if d=39 then (textS r').map fun x=>(39::x.1,x.2) else some ([],d::r'))
    else (textS r).map fun x=>(c::x.1,x.2)
def hdDigit:List UInt8→Bool
  | []=>false
  |d::_=>digit d
def wordT (w:List UInt8):Tok:=(0,(bs w,(0,(0,e0))))
def signT (c:UInt8):Tok:=(2,(bs [c],(0,(0,e0))))
def numT (n:Int):Tok:=(1,(e0,(2,(n,e0))))
def textT (w:List UInt8):Tok:=(1,(e0,(3,(0,bs w))))
def tokS : List UInt8 → Option (Tok × List UInt8)
  | []=>none
  |c::r=>
    if letter c then (if (c::r.takeWhile inner).length≤30 then some (wordT (c::r.takeWhile inner),r.dropWhile inner) else none)
    else if digit c||(decide (c=45)&&hdDigit r) then (numS (c::r.takeWhile digit)).map fun n=>(numT n,r.dropWhile digit)
    else if c=39 then (textS r).bind fun x=>if x.1.length≤1000 then some (textT x.1,x.2) else none
    else if c∈signs then some (signT c,r) else none
def lexN:Nat→List UInt8→Option (List Tok)
  |_,[]=>some []
  |0,_::_=>none
  |n+1,c::r=>if c=32 then lexN n r else (tokS (c::r)).bind fun x=>(lexN n x.2).map (x.1:: ·)
def lexS (l:List UInt8):Option (List Tok):=lexN l.length l
theorem textS_cons (c:UInt8) (r:List UInt8):textS (c::r)=if c=39 then (match r with
      | []=>some ([],[])
      |d::r'=>if d=39 then (textS r').map fun x=>(39::x.1,x.2) else some ([],d::r'))
    else (textS r).map fun x=>(c::x.1,x.2):=by rw [textS.eq_def]
theorem dropWhile_len {p:UInt8→Bool} (l:List UInt8):(l.dropWhile p).length≤l.length:=by
  induction l with
  |nil=>simp
  |cons a l ih=>simp only [List.dropWhile];split<;>simp<;>omega
theorem textS_len : ∀ (n : Nat) (l : List UInt8),l.length ≤ n → ∀ x,textS l = some x → x.2.length < l.length ∧ x.1.length + x.2.length < l.length + 0 := by
  intro n
  induction n with
  |zero=>intro l hl x h;cases l<;>simp [textS] at h hl
  |succ n ih=>
    intro l hl x h
    match l,hl,h with
    | c :: r,hl,h =>
      rw [textS_cons] at h
      split at h
      · match r,hl,h with
        | [],hl,h=>cases h;simp
        | d :: r',hl,h =>
          simp only at h
          split at h
          · simp only [Option.map_eq_some_iff] at h
            obtain ⟨y,hy,rfl⟩:=h
            have:=ih r' (by simp at hl;omega) y hy
            simp;omega
          · cases h;simp
      · simp only [Option.map_eq_some_iff] at h
        obtain ⟨y,hy,rfl⟩:=h
        have:=ih r (by simp at hl;omega) y hy
        simp;omega
theorem tokS_len {l : List UInt8} {x : Tok × List UInt8} (h : tokS l = some x) : x.2.length < l.length := by
  cases l with
  |nil=>cases h
  |cons c r=>
    simp only [tokS] at h
    split at h
    · split at h
      · cases h;have:=dropWhile_len (p:=inner) r;simp;omega
      · cases h
    · split at h
      · simp only [Option.map_eq_some_iff] at h
        obtain ⟨y,hy,rfl⟩:=h
        have:=dropWhile_len (p:=digit) r;simp;omega
      · split at h
        · simp only [Option.bind_eq_some_iff] at h
          obtain ⟨y,hy,h⟩:=h
          split at h
          · cases h;have:=(textS_len _ r (Nat.le_refl _) y hy).1;simp;omega
          · cases h
        · split at h
          · cases h;simp
          · cases h
theorem lexN_more : ∀ (n m : Nat) (l : List UInt8),l.length ≤ n → l.length ≤ m → lexN n l = lexN m l := by
  intro n
  induction n with
  |zero=>
    intro m l h1 h2
    cases l with
    |nil=>cases m<;>rfl
    |cons c r=>simp at h1
  |succ n ih=>
    intro m l h1 h2
    cases l with
    |nil=>cases m<;>rfl
    |cons c r=>
      cases m with
      |zero=>simp at h2
      |succ m=>
        simp only [lexN]
        split
        · exact ih m r (by simp at h1;omega) (by simp at h2;omega)
        · cases h:tokS (c::r) with
          |none=>rfl
          |some x=>
            have:=tokS_len h
            simp only [Option.bind_some]
            rw [ih m x.2 (by simp at h1 this;omega) (by simp at h2 this;omega)]
theorem lexS_nil:lexS []=some []:=rfl
theorem lexS_blank (r:List UInt8):lexS (32::r)=lexS r:=by
  show lexN (r.length+1) (32::r)=_
  simp [lexN,lexS]
theorem lexS_cons {c:UInt8} (r:List UInt8) (hc:c≠32):lexS (c::r)=(tokS (c::r)).bind fun x=>(lexS x.2).map (x.1:: ·):=by
  show lexN (r.length+1) (c::r)=_
  simp only [lexN,if_neg hc]
  cases h:tokS (c::r) with
  |none=>rfl
  |some x=>
    have:=tokS_len h
    simp only [Option.bind_some,lexS]
    rw [lexN_more r.length x.2.length x.2 (by simp at this;omega) (Nat.le_refl _)]
theorem not_inner_blank:inner 32=false:=by decide
theorem not_digit_blank:digit 32=false:=by decide
def dbl:List UInt8→List UInt8
  | []=> []
  |c::r=>if c=39 then 39::39::dbl r else c::dbl r
def showT (t:Tok):List UInt8:=if t.1=1 then (if t.2.2.1=2 then Lib.itoa t.2.2.2.1 else 39::dbl t.2.2.2.2.data.toList++ [39]) else t.2.1.data.toList
inductive TokOk:Tok→Prop
  |word {w:List UInt8}:isWordL w=true→TokOk (wordT w)
  |sign {c:UInt8}:c∈signs→TokOk (signT c)
  |num {n:Int}:numS (Lib.itoa n)=some n→(∃c r,Lib.itoa n=c::r∧(digit c=true∨(c=45∧∃d r',r=d::r'∧digit d=true))∧∀x∈r,digit x=true)→TokOk (numT n)
  |text {w:List UInt8}:w.length≤1000→TokOk (textT w)
theorem showT_text (w:List UInt8):showT (textT w)=39::dbl w++ [39]:=rfl
theorem takeWhile_all {p:UInt8→Bool} (l:List UInt8):∀x∈l.takeWhile p,p x=true:=by
  induction l with
  |nil=>simp
  |cons a l ih=>simp only [List.takeWhile];split<;>simp_all
theorem takeWhile_drop {p:UInt8→Bool} (l:List UInt8):(l.takeWhile p).length+(l.dropWhile p).length=l.length:=by
  have h:=congrArg List.length (List.takeWhile_append_dropWhile (p:=p) (l:=l))
  rw [List.length_append] at h
  exact h
theorem numS_itoa {w:List UInt8} {n:Int} (h:numS w=some n):Lib.itoa n=w:=by
  unfold numS at h
  cases h1:Lib.atoiAll w with
  |ok v=>rw [h1] at h;simp only at h;split at h<;>rename_i h2<;>cases h;exact h2
  |_=>rw [h1] at h;cases h
theorem textS_src : ∀ (n : Nat) (l : List UInt8),l.length ≤ n → ∀ x,textS l = some x → l = dbl x.1 ++ 39 :: x.2 ∧ x.2.head? ≠ some 39 := by
  intro n
  induction n with
  |zero=>intro l hl x h;cases l<;>simp [textS] at h hl
  |succ n ih=>
    intro l hl x h
    match l,hl,h with
    | c :: r,hl,h =>
      rw [textS_cons] at h
      split at h
      · rename_i hc
        subst hc
        match r,hl,h with
        | [],hl,h=>cases h;simp [dbl]
        | d :: r',hl,h =>
          simp only at h
          split at h
          · rename_i hd
            subst hd
            simp only [Option.map_eq_some_iff] at h
            obtain ⟨y,hy,rfl⟩:=h
            have:=ih r' (by simp at hl;omega) y hy
            simp only [dbl,if_true]
            rw [this.1]
            exact ⟨by simp,this.2⟩
          · rename_i hd
            cases h;simp [dbl,hd]
      · rename_i hc
        simp only [Option.map_eq_some_iff] at h
        obtain ⟨y,hy,rfl⟩:=h
        have:=ih r (by simp at hl;omega) y hy
        simp only [dbl,if_neg hc]
        rw [this.1]
        exact ⟨by simp,this.2⟩
theorem textS_dbl (w rest:List UInt8) (hr:rest.head?≠some 39):textS (dbl w++39::rest)=some (w,rest):=by
  induction w with
  |nil=>
    simp only [dbl,List.nil_append,textS_cons,if_true]
    cases rest with
    |nil=>rfl
    |cons d r=>simp at hr;simp [hr]
  |cons c r ih=>
    simp only [dbl]
    split
    · rename_i hc
      subst hc
      simp only [List.cons_append,textS_cons,if_true,ih,Option.map_some]
    · rename_i hc
      simp only [List.cons_append,textS_cons,if_neg hc,ih,Option.map_some]
theorem tokS_ok {l : List UInt8} {x : Tok × List UInt8} (h : tokS l = some x) : TokOk x.1 ∧ l = showT x.1 ++ x.2 := by
  cases l with
  |nil=>cases h
  |cons c r=>
    simp only [tokS] at h
    split at h
    · rename_i hc
      split at h
      · rename_i hl
        cases h
        refine ⟨.word ?_,?_⟩
        · simp only [isWordL,hc,Bool.true_and,Bool.and_eq_true,List.all_eq_true,decide_eq_true_eq]
          refine ⟨fun y hy=>?_,hl⟩
          rcases List.mem_cons.1 hy with rfl|hy
          · simp [inner,hc]
          · exact takeWhile_all _ _ hy
        · simp [showT,wordT,List.takeWhile_append_dropWhile]
      · cases h
    · split at h
      · rename_i hd
        simp only [Option.map_eq_some_iff] at h
        obtain ⟨y,hy,rfl⟩:=h
        have e:=numS_itoa hy
        refine ⟨.num (by rw [e];exact hy) ⟨c,r.takeWhile digit,e,?_,takeWhile_all _⟩,?_⟩
        · rw [Bool.or_eq_true] at hd
          rcases hd with hd|hd
          · exact .inl hd
          · rw [Bool.and_eq_true] at hd
            refine .inr ⟨by simpa using hd.1,?_⟩
            cases r with
            |nil=>simp [hdDigit] at hd
            |cons d r'=>exact ⟨d,r'.takeWhile digit,by simp [List.takeWhile,show digit d=true from hd.2],hd.2⟩
        · simp only [showT,numT,if_true]
          rw [e,List.cons_append,List.takeWhile_append_dropWhile]
      · split at h
        · rename_i hc
          subst hc
          simp only [Option.bind_eq_some_iff] at h
          obtain ⟨y,hy,h⟩:=h
          split at h
          · rename_i hl
            cases h
            refine ⟨.text hl,?_⟩
            have:=(textS_src _ r (Nat.le_refl _) y hy).1
            simp only [showT_text]
            rw [this]
            simp
          · cases h
        · split at h
          · rename_i hs
            cases h
            exact ⟨.sign hs,by simp [showT,signT]⟩
          · cases h
theorem tokS_show {t:Tok} (h:TokOk t) {rest:List UInt8} (hr:rest=[]∨∃r,rest=32::r):tokS (showT t++rest)=some (t,rest):=by
  have tw:∀(p:UInt8→Bool),p 32=false→∀(w:List UInt8),(∀x∈w,p x=true)→(w++rest).takeWhile p=w∧(w++rest).dropWhile p=rest:=by
    intro p hp w hw
    induction w with
    |nil=>rcases hr with rfl|⟨r,rfl⟩<;>simp [List.takeWhile,List.dropWhile,hp]
    |cons a w ih=>
      have:=ih (fun x hx=>hw x (by simp [hx]))
      simp [List.takeWhile,List.dropWhile,hw a (by simp),this]
  cases h with
  |@word w hw=>
    cases w with
    |nil=>cases hw
    |cons c w=>
      simp only [isWordL,Bool.and_eq_true,List.all_eq_true,decide_eq_true_eq] at hw
      obtain ⟨⟨h1,h2⟩,h3⟩:=hw
      obtain ⟨t1,t2⟩:=tw inner not_inner_blank w (fun x hx=>h2 x (by simp [hx]))
      show tokS ((c::w)++rest)=_
      simp only [List.cons_append,tokS,h1,if_true,t1,t2,h3]
  |@sign c hc=>
    show tokS ([c]++rest)=_
    have hm:letter c=false∧digit c=false∧c≠39:=by
      simp only [signs,List.mem_cons,List.not_mem_nil,or_false] at hc
      rcases hc with rfl|rfl|rfl|rfl|rfl|rfl|rfl|rfl|rfl|rfl|rfl<;>decide
    have hd:hdDigit rest=false:=by rcases hr with rfl|⟨r,rfl⟩<;>simp [hdDigit,not_digit_blank]
    simp only [List.cons_append,List.nil_append,tokS,hm.1,hm.2.1,Bool.false_eq_true,if_false,hd,Bool.and_false,Bool.or_self,if_neg hm.2.2,if_pos hc]
  |@num n hn hs=>
    obtain ⟨c,r,e,h1,h2⟩:=hs
    show tokS (showT (numT n)++rest)=_
    simp only [showT,numT,if_true]
    rw [e,List.cons_append]
    obtain ⟨t1,t2⟩:=tw digit not_digit_blank r h2
    have hl:letter c=false:=by
      rcases h1 with h1|⟨rfl,_⟩
      · simp only [digit,letter,Bool.and_eq_true,decide_eq_true_eq,Bool.and_eq_false_iff,decide_eq_false_iff_not] at h1 ⊢;omega
      · decide
    have hb:(digit c||(decide (c=45)&&hdDigit (r++rest)))=true:=by
      rcases h1 with h1|⟨rfl,d,r',rfl,hd⟩
      · simp [h1]
      · simp [hdDigit,hd]
    simp only [tokS,hl,Bool.false_eq_true,if_false,hb,if_true,t1,t2]
    rw [←e,hn]
    rfl
  |@text w hw=>
    show tokS (showT (textT w)++rest)=_
    rw [showT_text]
    have:letter 39=false∧digit 39=false:=by decide
    simp only [List.cons_append,List.append_assoc,List.nil_append,tokS,this.1,this.2,Bool.false_eq_true,if_false,Bool.false_or]
    rw [if_neg (by rw [show decide ((39:UInt8)=45)=false by decide];simp),if_pos trivial,textS_dbl w rest (by rcases hr with rfl|⟨r,rfl⟩<;>simp)]
    simp [hw,textT]
theorem showT_ne {t:Tok} (h:TokOk t):∃c r,showT t=c::r∧c≠32:=by
  cases h with
  |@word w hw=>
    cases w with
    |nil=>cases hw
    |cons c w=>
      refine ⟨c,w,rfl,fun e=>?_⟩
      subst e
      simp [isWordL,letter] at hw
  |@sign c hc=>exact ⟨c,[],rfl,fun e=>by subst e;revert hc;decide⟩
  |@num n hn hs=>
    obtain ⟨c,r,e,h1,h2⟩:=hs
    refine ⟨c,r,by simp [showT,numT,e],fun e=>?_⟩
    subst e
    rcases h1 with h1|⟨h1,_⟩
    · simp [digit] at h1
    · revert h1;decide
  |@text w hw=>exact ⟨39,_,rfl,by decide⟩
def joinL:List (List UInt8)→List UInt8
  | []=> []
  | [w]=>w
  |w::r=>w++32::joinL r
theorem joinL_cons (w:List UInt8) {r:List (List UInt8)} (h:r≠ []):joinL (w::r)=w++32::joinL r:=by
  cases r with
  |nil=>exact absurd rfl h
  |cons a r=>rfl
theorem lexS_show:∀(l:List Tok),(∀t∈l,TokOk t)→lexS (joinL (l.map showT))=some l:=by
  intro l
  induction l with
  |nil=>intro _;rfl
  |cons t l ih=>
    intro h
    have ht:=h t (by simp)
    obtain ⟨c,r,e,hc⟩:=showT_ne ht
    have ih:=ih fun x hx=>h x (by simp [hx])
    have go:∀rest,(rest=[]∨∃r,rest=32::r)→lexS (showT t++rest)=(lexS rest).map (t:: ·):=by
      intro rest hr
      have h1:=tokS_show ht hr
      rw [e,List.cons_append] at h1 ⊢
      rw [lexS_cons _ hc,h1]
      rfl
    cases l with
    |nil=>
      have:=go [] (.inl rfl)
      simpa [joinL,lexS_nil] using this
    |cons u l=>
      rw [List.map_cons,joinL_cons _ (by simp),go _ (.inr ⟨_,rfl⟩),lexS_blank,ih]
      rfl
def lenT (x:List Tok):Nat:=(x.map fun t=>(showT t).length+1).sum
theorem lexS_ok : ∀ (n : Nat) (l : List UInt8),l.length ≤ n → ∀ x,lexS l = some x → (∀ t ∈ x,TokOk t) ∧ lenT x ≤ 2 * l.length := by
  intro n
  induction n with
  |zero=>
    intro l hl x h
    cases l with
    |nil=>cases h;simp [lenT]
    |cons c r=>simp at hl
  |succ n ih=>
    intro l hl x h
    cases l with
    |nil=>cases h;simp [lenT]
    |cons c r=>
      by_cases hc:c=32
      · subst hc
        rw [lexS_blank] at h
        have:=ih r (by simp at hl;omega) x h
        refine ⟨this.1,?_⟩
        simp only [List.length_cons]
        omega
      · rw [lexS_cons _ hc] at h
        simp only [Option.bind_eq_some_iff,Option.map_eq_some_iff] at h
        obtain ⟨y,hy,z,hz,rfl⟩:=h
        obtain ⟨h1,h2⟩:=tokS_ok hy
        have h3:=tokS_len hy
        obtain ⟨h4,h5⟩:=ih y.2 (by simp at hl h3;omega) z hz
        refine ⟨fun t ht=>by rcases List.mem_cons.1 ht with rfl|ht;exact h1;exact h4 t ht,?_⟩
        obtain ⟨d,q,e,_⟩:=showT_ne h1
        have hp:1≤(showT y.1).length:=by rw [e];simp
        have hlen:(c::r).length=(showT y.1).length+y.2.length:=by rw [h2,List.length_append]
        simp only [lenT,List.map_cons,List.sum_cons] at h5 ⊢
        omega
theorem joinL_len:∀l:List Tok,(joinL (l.map showT)).length≤lenT l:=by
  intro l
  induction l with
  |nil=>simp [joinL]
  |cons t l ih=>
    cases l with
    |nil=>simp [joinL,lenT]
    |cons u l=>
      rw [List.map_cons,joinL_cons _ (by simp)]
      simp only [lenT,List.map_cons,List.sum_cons,List.length_append,List.length_cons] at ih ⊢
      omega
end Dl
end
section
namespace Dl
open Go
abbrev Node:=Int×(Int×Val)
abbrev Agg:=Int×Int
abbrev Col:=ByteArray×(Int×(Bool×(Bool×(ByteArray×Int))))
abbrev Tab:=ByteArray×(List Col×List (List Node))
abbrev View:=ByteArray×(ByteArray×(ByteArray×(Agg×(List Node×(List Int×(Bool×List Agg))))))
abbrev Def:=Int×(Tab×View)
abbrev v0:Val:=(0,(0,e0))
abbrev tab0:Tab:=(e0,([],[]))
abbrev view0:View:=(e0,(e0,(e0,((0,0),([],([],(false,[])))))))
abbrev keywords:List ByteArray:=[(⟨#[116,97,98,108,101]⟩:ByteArray),(⟨#[99,104,101,99,107]⟩:ByteArray),(⟨#[118,105,101,119]⟩:ByteArray),(⟨#[102,114,111,109]⟩:ByteArray),(⟨#[106,111,105,110]⟩:ByteArray),(⟨#[111,110]⟩:ByteArray),(⟨#[119,104,101,114,101]⟩:ByteArray),(⟨#[112,105,99,107]⟩:ByteArray),(⟨#[103,114,111,117,112]⟩:ByteArray),(⟨#[98,111,111,108]⟩:ByteArray),(⟨#[105,110,116]⟩:ByteArray),(⟨#[116,101,120,116]⟩:ByteArray),(⟨#[110,117,108,108]⟩:ByteArray),(⟨#[117,110,105,113,117,101]⟩:ByteArray),(⟨#[114,101,102]⟩:ByteArray),(⟨#[114,101,115,116,114,105,99,116]⟩:ByteArray),(⟨#[99,97,115,99,97,100,101]⟩:ByteArray),(⟨#[115,101,116,110,117,108,108]⟩:ByteArray),(⟨#[99,111,117,110,116]⟩:ByteArray),(⟨#[115,117,109]⟩:ByteArray),(⟨#[109,105,110]⟩:ByteArray),(⟨#[109,97,120]⟩:ByteArray),(⟨#[116,114,117,101]⟩:ByteArray),(⟨#[102,97,108,115,101]⟩:ByteArray),(⟨#[97,110,100]⟩:ByteArray),(⟨#[111,114]⟩:ByteArray),(⟨#[110,111,116]⟩:ByteArray)]
def isWord (b:ByteArray):Bool:=isWordL b.data.toList
def isName (b:ByteArray):Bool:=isWord b&& !keywords.any fun k=>decide (k=b)
def tk (s:ByteArray):List Tok→Option (List Tok)
  | []=>none
  |t::r=>if t.1≠1∧t.2.1=s then some r else none
def tkL:List ByteArray→List Tok→Option (List Tok)
  | [],l=>some l
  |s::ss,l=>(tk s l).bind (tkL ss)
def oneS (i : Int) : List ByteArray → List Tok → Option (Int × List Tok)
  | [],_=>none
  |w::ws,l=>match tk w l with
    |some r=>some (i,r)
    |none=>oneS (i+1) ws l
def nameS:List Tok→Option (ByteArray×List Tok)
  | []=>none
  |t::r=>if t.1=0∧isName t.2.1=true then some (t.2.1,r) else none
def colS:List Tok→Option (Int×List Tok)
  | []=>none
  |t::r=>if t.1=1∧t.2.2.1=2∧0≤t.2.2.2.1∧t.2.2.2.1≤99 then some (t.2.2.2.1,r) else none
def opOf (b:ByteArray):Option Int:=
  if b=(⟨#[110,111,116]⟩:ByteArray) then some 9 else if b=(⟨#[111,114]⟩:ByteArray) then some 8 else if b=(⟨#[97,110,100]⟩:ByteArray) then some 7 else if b=(⟨#[60]⟩:ByteArray) then some 6 else if b=(⟨#[61]⟩:ByteArray) then some 5 else if b=(⟨#[42]⟩:ByteArray) then some 4 else if b=(⟨#[45]⟩:ByteArray) then some 3 else if b=(⟨#[43]⟩:ByteArray) then some 2 else none
def constOf (b:ByteArray):Option Val:=
  if b=(⟨#[116,114,117,101]⟩:ByteArray) then some (1,(1,e0)) else if b=(⟨#[102,97,108,115,101]⟩:ByteArray) then some (1,(0,e0)) else if b=(⟨#[110,117,108,108]⟩:ByteArray) then some (0,(0,e0)) else none
def colP (l : List UInt8) : Option Int := match l with
  | []=>none
  |c::d=>if c=99 then (match Lib.atoiAll d with
    | .ok n=>if n≤99∧Lib.itoa n=d then some n else none
    |_=>none) else none
def stepS (l : List Tok) : Option (Node × List Tok) := match tkL [(⟨#[110,117,108,108]⟩ : ByteArray),(⟨#[63]⟩ : ByteArray)] l with
  |some r=>some ((10,(0,v0)),r)
  |none=>match l with
    | []=>none
    | t :: r => if t.1 = 1 then some ((1,(0,t.2.2)),r) else
      match opOf t.2.1 with
      |some op=>some ((op,(0,v0)),r)
      |none=>match constOf t.2.1 with
        |some v=>some ((1,(0,v)),r)
        |none=>(colP t.2.1.data.toList).map fun n=>((0,(n,v0)),r)
def stepsS : Nat → List Tok → Option (List Node × List Tok)
  |n,l=>match tk (⟨#[93]⟩:ByteArray) l with
    |some r=>some ([],r)
    |none=>match n with
      |0=>none
      |n+1=>(stepS l).bind fun x=>(stepsS n x.2).map fun y=>(x.1::y.1,y.2)
def exprS (l:List Tok):Option (List Node×List Tok):=(tk (⟨#[91]⟩:ByteArray) l).bind (stepsS 100)
def flag (s:ByteArray) (l:List Tok):Bool×List Tok:=match tk s l with
  |some r=>(true,r)
  |none=>(false,l)
abbrev kinds:List ByteArray:=[(⟨#[98,111,111,108]⟩:ByteArray),(⟨#[105,110,116]⟩:ByteArray),(⟨#[116,101,120,116]⟩:ByteArray)]
abbrev acts:List ByteArray:=[(⟨#[114,101,115,116,114,105,99,116]⟩:ByteArray),(⟨#[99,97,115,99,97,100,101]⟩:ByteArray),(⟨#[115,101,116,110,117,108,108]⟩:ByteArray)]
abbrev fns:List ByteArray:=[(⟨#[99,111,117,110,116]⟩:ByteArray),(⟨#[115,117,109]⟩:ByteArray),(⟨#[109,105,110]⟩:ByteArray),(⟨#[109,97,120]⟩:ByteArray)]
def refS (l:List Tok):Option ((ByteArray×Int)×List Tok):=match tk (⟨#[114,101,102]⟩:ByteArray) l with
  |none=>some ((e0,0),l)
  |some r=>(nameS r).bind fun x=>(oneS 0 acts x.2).map fun y=>((x.1,y.1),y.2)
def columnS (l:List Tok):Option (Col×List Tok):=(nameS l).bind fun x=>(oneS 0 kinds x.2).bind fun y=>
  (refS (flag (⟨#[117,110,105,113,117,101]⟩:ByteArray) (flag (⟨#[110,117,108,108]⟩:ByteArray) y.2).2).2).map fun z=>((x.1,(1+y.1,((flag (⟨#[110,117,108,108]⟩:ByteArray) y.2).1,((flag (⟨#[117,110,105,113,117,101]⟩:ByteArray) (flag (⟨#[110,117,108,108]⟩:ByteArray) y.2).2).1,z.1)))),z.2)
def sepS {α : Type} (p : List Tok → Option (α × List Tok)) : Nat → List Tok → Option (List α × List Tok)
  |n,l=>(p l).bind fun x=>match tk (⟨#[44]⟩:ByteArray) x.2 with
    |none=>some ([x.1],x.2)
    |some r=>match n with
      |0=>none
      |n+1=>(sepS p n r).map fun y=>(x.1::y.1,y.2)
def checksS : Nat → List Tok → Option (List (List Node) × List Tok)
  |n,l=>match tk (⟨#[99,104,101,99,107]⟩:ByteArray) l with
    |none=>some ([],l)
    |some r=>match n with
      |0=>none
      |n+1=>(exprS r).bind fun x=>(checksS n x.2).map fun y=>(x.1::y.1,y.2)
def tableS (l:List Tok):Option (Tab×List Tok):=(nameS l).bind fun x=>(tk (⟨#[40]⟩:ByteArray) x.2).bind fun l=>(sepS columnS 39 l).bind fun y=>(tk (⟨#[41]⟩:ByteArray) y.2).bind fun l=>(checksS 40 l).map fun z=>((x.1,(y.1,z.1)),z.2)
def aggS (l:List Tok):Option (Agg×List Tok):=(oneS 0 fns l).bind fun x=>if x.1=0 then some ((0,0),x.2) else (colS x.2).map fun y=>((x.1,y.1),y.2)
def joinS (l:List Tok):Option ((ByteArray×Agg)×List Tok):=match tk (⟨#[106,111,105,110]⟩:ByteArray) l with
  |none=>some ((e0,(0,0)),l)
  |some r=>(nameS r).bind fun x=>(tk (⟨#[111,110]⟩:ByteArray) x.2).bind fun l=>(colS l).bind fun a=>(tk (⟨#[61]⟩:ByteArray) a.2).bind fun l=>(colS l).map fun b=>((x.1,(a.1,b.1)),b.2)
def whereS (l:List Tok):Option (List Node×List Tok):=match tk (⟨#[119,104,101,114,101]⟩:ByteArray) l with
  |none=>some ([],l)
  |some r=>exprS r
def pickS (l:List Tok):Option (List Int×List Tok):=if l=[]∨(tk (⟨#[103,114,111,117,112]⟩:ByteArray) l).isSome then some ([],l) else sepS colS 39 l
def groupS (l:List Tok):Option ((Bool×List Agg)×List Tok):=match tk (⟨#[103,114,111,117,112]⟩:ByteArray) l with
  |none=>some ((false,[]),l)
  |some r=>if r=[] then some ((true,[]),r) else (sepS aggS 39 r).map fun x=>((true,x.1),x.2)
def viewS (l:List Tok):Option (View×List Tok):=(nameS l).bind fun x=>(tk (⟨#[102,114,111,109]⟩:ByteArray) x.2).bind fun l=>(nameS l).bind fun f=>(joinS f.2).bind fun j=>(whereS j.2).bind fun w=>(tk (⟨#[112,105,99,107]⟩:ByteArray) w.2).bind fun l=>(pickS l).bind fun p=>(groupS p.2).map fun g=>
  ((x.1,(f.1,(j.1.1,(j.1.2,(w.1,(p.1,g.1)))))),g.2)
def defS (l:List Tok):Option (Def×List Tok):=(oneS 0 [(⟨#[116,97,98,108,101]⟩:ByteArray),(⟨#[118,105,101,119]⟩:ByteArray)] l).bind fun x=>
  if x.1=0 then (tableS x.2).map fun y=>((0,(y.1,view0)),y.2) else (viewS x.2).map fun y=>((x.1,(tab0,y.1)),y.2)
def parseS (l:List Tok):Option Def:=(defS l).bind fun x=>if x.2=[] then some x.1 else none
abbrev def0:Def:=(0,(tab0,view0))
def readS (s : List UInt8) : Def × Int := if 20000 < s.length then (def0,60) else match lexS s with
  |none=>(def0,60)
  |some l=>match parseS l with
    |none=>(def0,70)
    |some d=>(d,0)
def wd (s:ByteArray):Tok:=(0,(s,v0))
def sg (s:ByteArray):Tok:=(2,(s,v0))
def stepT (x:Node):List Tok:=
  if x.1=10 then [wd (⟨#[110,117,108,108]⟩:ByteArray),sg (⟨#[63]⟩:ByteArray)]
  else if x.1=0 then [wd (bs (99::Lib.itoa x.2.1))]
  else if x.1=1 then (if x.2.2=(0,(0,e0)) then [wd (⟨#[110,117,108,108]⟩:ByteArray)] else if x.2.2=(1,(0,e0)) then [wd (⟨#[102,97,108,115,101]⟩:ByteArray)] else if x.2.2=(1,(1,e0)) then [wd (⟨#[116,114,117,101]⟩:ByteArray)] else [(1,(e0,x.2.2))])
  else if x.1=2 then [sg (⟨#[43]⟩:ByteArray)] else if x.1=3 then [sg (⟨#[45]⟩:ByteArray)] else if x.1=4 then [sg (⟨#[42]⟩:ByteArray)] else if x.1=5 then [sg (⟨#[61]⟩:ByteArray)] else if x.1=6 then [sg (⟨#[60]⟩:ByteArray)] else if x.1=7 then [wd (⟨#[97,110,100]⟩:ByteArray)] else if x.1=8 then [wd (⟨#[111,114]⟩:ByteArray)] else [wd (⟨#[110,111,116]⟩:ByteArray)]
def exprT (e:List Node):List Tok:=sg (⟨#[91]⟩:ByteArray)::e.flatMap stepT++ [sg (⟨#[93]⟩:ByteArray)]
def sepT {α:Type} (f:α→List Tok):List α→List Tok
  | []=> []
  | [x]=>f x
  |x::r=>f x++sg (⟨#[44]⟩:ByteArray)::sepT f r
def columnT (c:Col):List Tok:=wd c.1::wd (kinds.getD (c.2.1-1).toNat e0)::((if c.2.2.1 then [wd (⟨#[110,117,108,108]⟩:ByteArray)] else [])++((if c.2.2.2.1 then [wd (⟨#[117,110,105,113,117,101]⟩:ByteArray)] else [])++(if c.2.2.2.2.1=e0 then [] else [wd (⟨#[114,101,102]⟩:ByteArray),wd c.2.2.2.2.1,wd (acts.getD c.2.2.2.2.2.toNat e0)])))
def intT (n:Int):List Tok:=[numT n]
def aggT (a:Agg):List Tok:=wd (fns.getD a.1.toNat e0)::(if a.1=0 then [] else intT a.2)
def tableT (t:Tab):List Tok:=wd (⟨#[116,97,98,108,101]⟩:ByteArray)::wd t.1::sg (⟨#[40]⟩:ByteArray)::(sepT columnT t.2.1++sg (⟨#[41]⟩:ByteArray)::t.2.2.flatMap fun e=>wd (⟨#[99,104,101,99,107]⟩:ByteArray)::exprT e)
def viewT (v:View):List Tok:=wd (⟨#[118,105,101,119]⟩:ByteArray)::wd v.1::wd (⟨#[102,114,111,109]⟩:ByteArray)::wd v.2.1::((if v.2.2.1=e0 then [] else wd (⟨#[106,111,105,110]⟩:ByteArray)::wd v.2.2.1::wd (⟨#[111,110]⟩:ByteArray)::numT v.2.2.2.1.1::sg (⟨#[61]⟩:ByteArray)::[numT v.2.2.2.1.2])++
  ((if v.2.2.2.2.1=[] then [] else wd (⟨#[119,104,101,114,101]⟩:ByteArray)::exprT v.2.2.2.2.1)++wd (⟨#[112,105,99,107]⟩:ByteArray)::(sepT intT v.2.2.2.2.2.1++((if v.2.2.2.2.2.2.1 then [wd (⟨#[103,114,111,117,112]⟩:ByteArray)] else [])++sepT aggT v.2.2.2.2.2.2.2))))
def defT (d:Def):List Tok:=if d.1=0 then tableT d.2.1 else viewT d.2.2
abbrev AllOk (l:List Tok):Prop:=∀t∈l,TokOk t
def Snd {α:Type} (p:List Tok→Option (α×List Tok)) (f:α→List Tok) (G:α→Prop):Prop:=∀l,AllOk l→∀x,p l=some x→l=f x.1++x.2∧AllOk x.2∧G x.1
theorem AllOk.tail {t:Tok} {l:List Tok} (h:AllOk (t::l)):AllOk l:=fun x hx=>h x (List.mem_cons_of_mem _ hx)
def isW (s:ByteArray):Bool:=match s.data.toList with
  | []=>false
  |c::_=>letter c
def isSg (s:ByteArray):Bool:=match s.data.toList with
  | [c]=>decide (c∈signs)
  |_=>false
theorem bs_data (s:ByteArray):bs s.data.toList=s:=by cases s;rfl
theorem bs_list (l:List UInt8):(bs l).data.toList=l:=rfl
theorem sign_letter {c:UInt8} (h:c∈signs):letter c=false:=by
  simp only [signs,List.mem_cons,List.not_mem_nil,or_false] at h
  rcases h with rfl|rfl|rfl|rfl|rfl|rfl|rfl|rfl|rfl|rfl|rfl<;>decide
theorem tok_w {t:Tok} (h:TokOk t) (h1:t.1≠1) {s:ByteArray} (hs:t.2.1=s) (hw:isW s=true):t=wd s:=by
  cases h with
  |word _=>subst hs;rfl
  |sign hc=>subst hs;simp only [signT,isW] at hw;rw [sign_letter hc] at hw;cases hw
  |num _ _=>exact absurd rfl h1
  |text _=>exact absurd rfl h1
theorem tok_s {t : Tok} (h : TokOk t) (h1 : t.1 ≠ 1) {s : ByteArray} (hs : t.2.1 = s) (hw : isSg s = true) : t = sg s := by
  cases h with
  |@word w h=>
    subst hs
    cases w with
    |nil=>cases h
    |cons c w=>
      cases w with
      |cons _ _=>simp [isSg,wordT] at hw
      |nil=>
        simp only [isSg,wordT,decide_eq_true_eq] at hw
        simp only [isWordL,sign_letter hw,Bool.false_and] at h
        cases h
  |sign _=>subst hs;rfl
  |num _ _=>exact absurd rfl h1
  |text _=>exact absurd rfl h1
theorem tk_w {s:ByteArray} (hw:isW s=true) {l r:List Tok} (hl:AllOk l) (h:tk s l=some r):l=wd s::r∧AllOk r:=by
  cases l with
  |nil=>cases h
  |cons t l=>
    simp only [tk] at h
    split at h
    · rename_i hc
      cases h
      exact ⟨by rw [tok_w (hl t (by simp)) hc.1 hc.2 hw],hl.tail⟩
    · cases h
theorem tk_s {s:ByteArray} (hw:isSg s=true) {l r:List Tok} (hl:AllOk l) (h:tk s l=some r):l=sg s::r∧AllOk r:=by
  cases l with
  |nil=>cases h
  |cons t l=>
    simp only [tk] at h
    split at h
    · rename_i hc
      cases h
      exact ⟨by rw [tok_s (hl t (by simp)) hc.1 hc.2 hw],hl.tail⟩
    · cases h
theorem one_snd (ws:List ByteArray) (hw:∀w∈ws,isW w=true):∀(i:Int) (l:List Tok),AllOk l→∀x,oneS i ws l=some x→∃j:Nat,x.1=i+j∧j<ws.length∧l=wd (ws.getD j e0)::x.2∧AllOk x.2:=by
  induction ws with
  |nil=>intro i l _ x h;cases h
  |cons w ws ih=>
    intro i l hl x h
    simp only [oneS] at h
    split at h
    · rename_i r hr
      cases h
      obtain ⟨h1,h2⟩:=tk_w (hw w (by simp)) hl hr
      exact ⟨0,by simp,by simp,by simpa using h1,h2⟩
    · obtain ⟨j,h1,h2,h3,h4⟩:=ih (fun w hw'=>hw w (List.mem_cons_of_mem _ hw')) (i+1) l hl x h
      exact ⟨j+1,by rw [h1];push_cast;omega,by simp;omega,by simpa using h3,h4⟩
theorem oneS_snd (ws:List ByteArray) (hw:∀w∈ws,isW w=true):Snd (oneS 0 ws) (fun i=> [wd (ws.getD i.toNat e0)]) (fun i=>0≤i∧i<ws.length):=fun l hl x h=>by
  obtain ⟨j,h1,h2,h3,h4⟩:=one_snd ws hw 0 l hl x h
  refine ⟨?_,h4,by rw [h1];omega,by rw [h1];omega⟩
  rw [h1,h3]
  simp
theorem name_w {b:ByteArray} (h:isName b=true):isW b=true:=by
  simp only [isName,isWord,Bool.and_eq_true] at h
  have h:=h.1
  unfold isW
  cases hb:b.data.toList with
  |nil=>rw [hb] at h;cases h
  |cons c r=>rw [hb] at h;simp only [isWordL,Bool.and_eq_true] at h;exact h.1.1
theorem nameS_snd:Snd nameS (fun b=> [wd b]) (fun b=>isName b=true):=fun l hl x h=>by
  cases l with
  |nil=>cases h
  |cons t l=>
    simp only [nameS] at h
    split at h
    · rename_i hc
      cases h
      refine ⟨?_,hl.tail,hc.2⟩
      have:=tok_w (hl t (by simp)) (by rw [hc.1];decide) rfl (name_w hc.2)
      simpa using this
    · cases h
theorem colS_snd : Snd colS (fun n => [numT n]) (fun n => 0 ≤ n ∧ n ≤ 99) := fun l hl x h => by
  cases l with
  |nil=>cases h
  |cons t l=>
    simp only [colS] at h
    split at h
    · rename_i hc
      cases h
      refine ⟨?_,hl.tail,hc.2.2.1,hc.2.2.2⟩
      have:t=numT t.2.2.2.1:=by
        have ht:=hl t (by simp)
        cases ht with
        |word _=>exact absurd hc.1 (show ¬(0:Int)=1 by decide)
        |sign _=>exact absurd hc.1 (show ¬(2:Int)=1 by decide)
        |num _ _=>rfl
        |text _=>exact absurd hc.2.1 (show ¬(3:Int)=2 by decide)
      simpa using this
    · cases h
def ValOk (v:Val):Prop:=v=(0,(0,e0))∨v=(1,(0,e0))∨v=(1,(1,e0))∨TokOk (1,(e0,v))
def StepOk (x:Node):Prop:=(x.1=10∧x.2=(0,v0))∨(x.1=0∧0≤x.2.1∧x.2.1≤99∧x.2.2=v0)∨(x.1=1∧x.2.1=0∧ValOk x.2.2)∨(2≤x.1∧x.1≤9∧x.2=(0,v0))
theorem tok_kind {t:Tok} (h:TokOk t) (h1:t.1=1):t=(1,(e0,t.2.2))∧(t.2.2.1=2∨t.2.2.1=3):=by
  cases h with
  |word _=>exact absurd h1 (show ¬(0:Int)=1 by decide)
  |sign _=>exact absurd h1 (show ¬(2:Int)=1 by decide)
  |num _ _=>exact ⟨rfl,.inl rfl⟩
  |text _=>exact ⟨rfl,.inr rfl⟩
theorem opOf_spec {b:ByteArray} {op:Int} (h:opOf b=some op):2≤op∧op≤9∧((isW b=true∧stepT (op,(0,v0))=[wd b])∨(isSg b=true∧stepT (op,(0,v0))=[sg b])):=by
  unfold opOf at h
  split at h
  · rename_i e;cases h;subst e;exact ⟨by decide,by decide,.inl ⟨by decide,rfl⟩⟩
  split at h
  · rename_i e;cases h;subst e;exact ⟨by decide,by decide,.inl ⟨by decide,rfl⟩⟩
  split at h
  · rename_i e;cases h;subst e;exact ⟨by decide,by decide,.inl ⟨by decide,rfl⟩⟩
  split at h
  · rename_i e;cases h;subst e;exact ⟨by decide,by decide,.inr ⟨by decide,rfl⟩⟩
  split at h
  · rename_i e;cases h;subst e;exact ⟨by decide,by decide,.inr ⟨by decide,rfl⟩⟩
  split at h
  · rename_i e;cases h;subst e;exact ⟨by decide,by decide,.inr ⟨by decide,rfl⟩⟩
  split at h
  · rename_i e;cases h;subst e;exact ⟨by decide,by decide,.inr ⟨by decide,rfl⟩⟩
  split at h
  · rename_i e;cases h;subst e;exact ⟨by decide,by decide,.inr ⟨by decide,rfl⟩⟩
  · cases h
theorem constOf_spec {b:ByteArray} {v:Val} (h:constOf b=some v):isW b=true∧ValOk v∧stepT (1,(0,v))=[wd b]:=by
  unfold constOf at h
  split at h
  · rename_i e;cases h;subst e;exact ⟨by decide,.inr (.inr (.inl rfl)),rfl⟩
  split at h
  · rename_i e;cases h;subst e;exact ⟨by decide,.inr (.inl rfl),rfl⟩
  split at h
  · rename_i e;cases h;subst e;exact ⟨by decide,.inl rfl,rfl⟩
  · cases h
theorem colP_spec {l : List UInt8} {n : Int} (h : colP l = some n) : l = 99 :: Lib.itoa n ∧ n ≤ 99 := by
  unfold colP at h
  split at h
  · cases h
  · split at h
    · rename_i c
      subst c
      split at h
      · split at h
        · rename_i hc
          cases h
          exact ⟨by rw [hc.2],hc.1⟩
        · cases h
      · cases h
    · cases h
theorem stepS_snd : Snd stepS stepT StepOk := fun l hl x h => by
  simp only [stepS] at h
  split at h
  · rename_i r hr
    cases h
    simp only [tkL] at hr
    cases h1:tk (⟨#[110,117,108,108]⟩:ByteArray) l with
    |none=>rw [h1] at hr;cases hr
    |some r1=>
      rw [h1] at hr
      simp only [Option.bind_some] at hr
      obtain ⟨e1,o1⟩:=tk_w (by decide) hl h1
      cases h2:tk (⟨#[63]⟩:ByteArray) r1 with
      |none=>rw [h2] at hr;cases hr
      |some r2=>
        rw [h2] at hr
        cases hr
        obtain ⟨e2,o2⟩:=tk_s (by decide) o1 h2
        exact ⟨by rw [e1,e2];rfl,o2,.inl ⟨rfl,rfl⟩⟩
  · rename_i hn
    cases l with
    |nil=>cases h
    |cons t l=>
      have ht:=hl t (by simp)
      simp only at h
      split at h
      · rename_i h1
        cases h
        obtain ⟨e1,e2⟩:=tok_kind ht h1
        refine ⟨?_,hl.tail,.inr (.inr (.inl ⟨rfl,rfl,.inr (.inr (.inr (e1▸ht)))⟩))⟩
        have n1:t.2.2≠(0,(0,e0)):=fun e=>by rw [e] at e2;revert e2;decide
        have n2:t.2.2≠(1,(0,e0)):=fun e=>by rw [e] at e2;revert e2;decide
        have n3:t.2.2≠(1,(1,e0)):=fun e=>by rw [e] at e2;revert e2;decide
        have:stepT (1,(0,t.2.2))=[t]:=by
          simp only [stepT,if_neg n1,if_neg n2,if_neg n3]
          rw [←e1]
          rfl
        rw [this]
        rfl
      · rename_i h1
        split at h
        · rename_i op ho
          cases h
          obtain ⟨o1,o2,o3⟩:=opOf_spec ho
          refine ⟨?_,hl.tail,.inr (.inr (.inr ⟨o1,o2,rfl⟩))⟩
          rcases o3 with ⟨o3,o4⟩|⟨o3,o4⟩
          · rw [o4,tok_w ht h1 rfl o3];rfl
          · rw [o4,tok_s ht h1 rfl o3];rfl
        · split at h
          · rename_i v hv
            cases h
            obtain ⟨o1,o2,o3⟩:=constOf_spec hv
            refine ⟨?_,hl.tail,.inr (.inr (.inl ⟨rfl,rfl,o2⟩))⟩
            rw [o3,tok_w ht h1 rfl o1];rfl
          · simp only [Option.map_eq_some_iff] at h
            obtain ⟨n,hn,rfl⟩:=h
            obtain ⟨o1,o2⟩:=colP_spec hn
            have hw:isW t.2.1=true:=by unfold isW;rw [o1];show letter 99=true;decide
            have e:=tok_w ht h1 rfl hw
            refine ⟨?_,hl.tail,.inr (.inl ⟨rfl,?_,o2,rfl⟩)⟩
            · have:stepT (0,(n,v0))=[t]:=by
                show [wd (bs (99::Lib.itoa n))]=[t]
                rw [←o1,bs_data,←e]
              rw [this];rfl
            · show 0≤n
              rcases Int.lt_or_le n 0 with hneg|hpos
              · exfalso
                cases ht with
                |@word w hw'=>
                  simp only [wordT,bs_list] at o1
                  subst o1
                  simp only [isWordL,Bool.and_eq_true,List.all_eq_true] at hw'
                  have h45:(45:UInt8)∈(99::Lib.itoa n):=by
                    unfold Lib.itoa
                    rw [if_pos hneg]
                    simp
                  have:=hw'.1.2 _ h45
                  revert this
                  decide
                |sign hc=>
                  simp only [signT,bs_list,List.cons.injEq] at o1
                  obtain ⟨rfl,_⟩:=o1
                  revert hc;decide
                |num _ _=>exact h1 rfl
                |text _=>exact h1 rfl
              · exact hpos
theorem stepsS_snd : ∀ (n : Nat) (l : List Tok),AllOk l → ∀ x,stepsS n l = some x → l = x.1.flatMap stepT ++ sg (⟨#[93]⟩ : ByteArray) :: x.2 ∧ AllOk x.2 ∧ (∀ y ∈ x.1,StepOk y) ∧ x.1.length ≤ n := by
  intro n
  induction n with
  |zero=>
    intro l hl x h
    rw [stepsS] at h
    split at h
    · rename_i r hr
      cases h
      obtain ⟨e,o⟩:=tk_s (by decide) hl hr
      exact ⟨by simpa using e,o,by simp,by simp⟩
    · cases h
  |succ n ih=>
    intro l hl x h
    rw [stepsS] at h
    split at h
    · rename_i r hr
      cases h
      obtain ⟨e,o⟩:=tk_s (by decide) hl hr
      exact ⟨by simpa using e,o,by simp,by simp⟩
    · simp only [Option.bind_eq_some_iff,Option.map_eq_some_iff] at h
      obtain ⟨y,hy,z,hz,rfl⟩:=h
      obtain ⟨a1,a2,a3⟩:=stepS_snd l hl y hy
      obtain ⟨b1,b2,b3,b4⟩:=ih y.2 a2 z hz
      refine ⟨?_,b2,?_,by simp;omega⟩
      · rw [a1,b1];simp
      · intro u hu
        rcases List.mem_cons.1 hu with rfl|hu
        · exact a3
        · exact b3 u hu
def ExprOk (e:List Node):Prop:=(∀y∈e,StepOk y)∧e.length≤100
theorem exprS_snd:Snd exprS exprT ExprOk:=fun l hl x h=>by
  simp only [exprS,Option.bind_eq_some_iff] at h
  obtain ⟨r,hr,h⟩:=h
  obtain ⟨e,o⟩:=tk_s (by decide) hl hr
  obtain ⟨a,b,c,d⟩:=stepsS_snd 100 r o x h
  exact ⟨by rw [e,a];simp [exprT],b,c,d⟩
theorem flag_snd {s:ByteArray} (hs:isW s=true) {l:List Tok} (hl:AllOk l):l=(if (flag s l).1 then [wd s] else [])++(flag s l).2∧AllOk (flag s l).2:=by
  unfold flag
  cases h:tk s l with
  |none=>exact ⟨rfl,hl⟩
  |some r=>
    obtain ⟨e,o⟩:=tk_w hs hl h
    exact ⟨by simpa using e,o⟩
theorem name_ne {b:ByteArray} (h:isName b=true):b≠e0:=fun e=>by subst e;revert h;decide
theorem refS_snd:Snd refS (fun x=>if x.1=e0 then [] else [wd (⟨#[114,101,102]⟩:ByteArray),wd x.1,wd (acts.getD x.2.toNat e0)]) (fun x=>(x.1=e0∧x.2=0)∨(isName x.1=true∧0≤x.2∧x.2<3)):=fun l hl x h=>by
  unfold refS at h
  split at h
  · cases h;exact ⟨by simp,hl,.inl ⟨rfl,rfl⟩⟩
  · rename_i r hr
    simp only [Option.bind_eq_some_iff,Option.map_eq_some_iff] at h
    obtain ⟨y,hy,z,hz,rfl⟩:=h
    obtain ⟨e,o⟩:=tk_w (by decide) hl hr
    obtain ⟨a1,a2,a3⟩:=nameS_snd r o y hy
    obtain ⟨b1,b2,b3⟩:=oneS_snd acts (by decide) y.2 a2 z hz
    refine ⟨?_,b2,.inr ⟨a3,b3⟩⟩
    simp only [if_neg (name_ne a3)]
    rw [e,a1,b1]
    rfl
def ColOk (c:Col):Prop:=isName c.1=true∧1≤c.2.1∧c.2.1≤3∧((c.2.2.2.2.1=e0∧c.2.2.2.2.2=0)∨(isName c.2.2.2.2.1=true∧0≤c.2.2.2.2.2∧c.2.2.2.2.2<3))
theorem columnS_snd:Snd columnS columnT ColOk:=fun l hl x h=>by
  simp only [columnS,Option.bind_eq_some_iff,Option.map_eq_some_iff] at h
  obtain ⟨y,hy,z,hz,u,hu,rfl⟩:=h
  obtain ⟨a1,a2,a3⟩:=nameS_snd l hl y hy
  obtain ⟨b1,b2,b3,b4⟩:=oneS_snd kinds (by decide) y.2 a2 z hz
  obtain ⟨c1,c2⟩:=flag_snd (s:=(⟨#[110,117,108,108]⟩:ByteArray)) (by decide) b2
  obtain ⟨d1,d2⟩:=flag_snd (s:=(⟨#[117,110,105,113,117,101]⟩:ByteArray)) (by decide) c2
  obtain ⟨f1,f2,f3⟩:=refS_snd _ d2 u hu
  have b4:z.1<3:=b4
  refine ⟨?_,f2,a3,by simp;omega,by simp;omega,f3⟩
  simp only [columnT]
  rw [show 1+z.1-1=z.1 by omega]
  conv=>lhs;rw [a1,b1,c1,d1,f1]
  simp
theorem sepS_snd {α : Type} {p : List Tok → Option (α × List Tok)} {f : α → List Tok} {G : α → Prop} (hp : Snd p f G) : ∀ (n : Nat) (l : List Tok),AllOk l → ∀ x,sepS p n l = some x → l = sepT f x.1 ++ x.2 ∧ AllOk x.2 ∧ (∀ y ∈ x.1,G y) ∧ 1 ≤ x.1.length ∧ x.1.length ≤ n + 1 := by
  intro n
  induction n with
  |zero=>
    intro l hl x h
    rw [sepS] at h
    simp only [Option.bind_eq_some_iff] at h
    obtain ⟨y,hy,h⟩:=h
    obtain ⟨a1,a2,a3⟩:=hp l hl y hy
    split at h
    · cases h;exact ⟨a1,a2,by simpa using a3,by simp,by simp⟩
    · cases h
  |succ n ih=>
    intro l hl x h
    rw [sepS] at h
    simp only [Option.bind_eq_some_iff] at h
    obtain ⟨y,hy,h⟩:=h
    obtain ⟨a1,a2,a3⟩:=hp l hl y hy
    split at h
    · cases h;exact ⟨a1,a2,by simpa using a3,by simp,by simp⟩
    · rename_i r hr
      simp only [Option.map_eq_some_iff] at h
      obtain ⟨z,hz,rfl⟩:=h
      obtain ⟨e,o⟩:=tk_s (by decide) a2 hr
      obtain ⟨b1,b2,b3,b4,b5⟩:=ih r o z hz
      refine ⟨?_,b2,?_,by simp,by simp;omega⟩
      · conv=>lhs;rw [a1,e,b1]
        cases hz1:z.1 with
        |nil=>rw [hz1] at b4;simp at b4
        |cons u v=>simp [sepT]
      · intro u hu
        rcases List.mem_cons.1 hu with rfl|hu
        · exact a3
        · exact b3 u hu
theorem checksS_snd : ∀ (n : Nat) (l : List Tok),AllOk l → ∀ x,checksS n l = some x → l = (x.1.flatMap fun e => wd (⟨#[99,104,101,99,107]⟩ : ByteArray) :: exprT e) ++ x.2 ∧ AllOk x.2 ∧ (∀ y ∈ x.1,ExprOk y) ∧ x.1.length ≤ n := by
  intro n
  induction n with
  |zero=>
    intro l hl x h
    rw [checksS] at h
    split at h
    · cases h;exact ⟨by simp,hl,by simp,by simp⟩
    · cases h
  |succ n ih=>
    intro l hl x h
    rw [checksS] at h
    split at h
    · cases h;exact ⟨by simp,hl,by simp,by simp⟩
    · rename_i r hr
      simp only [Option.bind_eq_some_iff,Option.map_eq_some_iff] at h
      obtain ⟨y,hy,z,hz,rfl⟩:=h
      obtain ⟨e,o⟩:=tk_w (by decide) hl hr
      obtain ⟨a1,a2,a3⟩:=exprS_snd r o y hy
      obtain ⟨b1,b2,b3,b4⟩:=ih y.2 a2 z hz
      refine ⟨?_,b2,?_,by simp;omega⟩
      · conv=>lhs;rw [e,a1,b1]
        simp
      · intro u hu
        rcases List.mem_cons.1 hu with rfl|hu
        · exact a3
        · exact b3 u hu
structure TabOk (t:Tab):Prop where
  name:isName t.1=true
  cols:∀c∈t.2.1,ColOk c
  checks:∀e∈t.2.2,ExprOk e
  some:1≤t.2.1.length
  most:t.2.1.length≤40
  most2:t.2.2.length≤40
theorem tableS_snd:∀l,AllOk l→∀x,tableS l=some x→wd (⟨#[116,97,98,108,101]⟩:ByteArray)::l=tableT x.1++x.2∧AllOk x.2∧TabOk x.1:=fun l hl x h=>by
  simp only [tableS,Option.bind_eq_some_iff,Option.map_eq_some_iff] at h
  obtain ⟨y,hy,r,hr,z,hz,r2,hr2,u,hu,rfl⟩:=h
  obtain ⟨a1,a2,a3⟩:=nameS_snd l hl y hy
  obtain ⟨b1,b2⟩:=tk_s (by decide) a2 hr
  obtain ⟨c1,c2,c3,c4,c5⟩:=sepS_snd columnS_snd 39 r b2 z hz
  obtain ⟨d1,d2⟩:=tk_s (by decide) c2 hr2
  obtain ⟨f1,f2,f3,f4⟩:=checksS_snd 40 r2 d2 u hu
  refine ⟨?_,f2,⟨a3,c3,f3,c4,c5,f4⟩⟩
  conv=>lhs;rw [a1,b1,c1,d1,f1]
  simp [tableT]
def AggOk (a:Agg):Prop:=0≤a.1∧a.1<4∧0≤a.2∧a.2≤99∧(a.1=0→a.2=0)
theorem aggS_snd:Snd aggS aggT AggOk:=fun l hl x h=>by
  simp only [aggS,Option.bind_eq_some_iff] at h
  obtain ⟨y,hy,h⟩:=h
  obtain ⟨a1,a2,a3,a4⟩:=oneS_snd fns (by decide) l hl y hy
  have a4:y.1<4:=a4
  split at h
  · rename_i h0
    cases h
    refine ⟨?_,a2,by simp [AggOk]⟩
    rw [a1,h0];rfl
  · rename_i h0
    simp only [Option.map_eq_some_iff] at h
    obtain ⟨z,hz,rfl⟩:=h
    obtain ⟨b1,b2,b3,b4⟩:=colS_snd y.2 a2 z hz
    refine ⟨?_,b2,a3,a4,b3,b4,fun e=>absurd e h0⟩
    conv=>lhs;rw [a1,b1]
    simp [aggT,if_neg h0,intT]
theorem joinS_snd:Snd joinS (fun x=>if x.1=e0 then [] else wd (⟨#[106,111,105,110]⟩:ByteArray)::wd x.1::wd (⟨#[111,110]⟩:ByteArray)::numT x.2.1::sg (⟨#[61]⟩:ByteArray)::[numT x.2.2]) (fun x=>(x.1=e0∧x.2=(0,0))∨(isName x.1=true∧0≤x.2.1∧x.2.1≤99∧0≤x.2.2∧x.2.2≤99)):=fun l hl x h=>by
  unfold joinS at h
  split at h
  · cases h;exact ⟨by simp,hl,.inl ⟨rfl,rfl⟩⟩
  · rename_i r hr
    simp only [Option.bind_eq_some_iff,Option.map_eq_some_iff] at h
    obtain ⟨y,hy,r2,hr2,a,ha,r3,hr3,b,hb,rfl⟩:=h
    obtain ⟨e,o⟩:=tk_w (by decide) hl hr
    obtain ⟨a1,a2,a3⟩:=nameS_snd r o y hy
    obtain ⟨b1,b2⟩:=tk_w (by decide) a2 hr2
    obtain ⟨c1,c2,c3,c4⟩:=colS_snd r2 b2 a ha
    obtain ⟨d1,d2⟩:=tk_s (by decide) c2 hr3
    obtain ⟨f1,f2,f3,f4⟩:=colS_snd r3 d2 b hb
    refine ⟨?_,f2,.inr ⟨a3,c3,c4,f3,f4⟩⟩
    simp only [if_neg (name_ne a3)]
    conv=>lhs;rw [e,a1,b1,c1,d1,f1]
    simp
theorem whereS_snd:∀l,AllOk l→∀x,whereS l=some x→(l=(if x.1=[] then [] else wd (⟨#[119,104,101,114,101]⟩:ByteArray)::exprT x.1)++x.2∨(x.1=[]∧l=[wd (⟨#[119,104,101,114,101]⟩:ByteArray),sg (⟨#[91]⟩:ByteArray),sg (⟨#[93]⟩:ByteArray)]++x.2))∧AllOk x.2∧ExprOk x.1:=fun l hl x h=>by
  unfold whereS at h
  split at h
  · cases h;exact ⟨.inl (by simp),hl,by simp [ExprOk]⟩
  · rename_i r hr
    obtain ⟨e,o⟩:=tk_w (by decide) hl hr
    obtain ⟨a1,a2,a3⟩:=exprS_snd r o x h
    refine ⟨?_,a2,a3⟩
    by_cases h0:x.1=[]
    · right
      refine ⟨h0,?_⟩
      rw [e,a1,h0]
      rfl
    · left
      rw [if_neg h0,e,List.cons_append]
      exact congrArg _ a1
theorem pickS_snd:Snd pickS (sepT intT) (fun p=>(∀n∈p,0≤n∧n≤99)∧p.length≤40):=fun l hl x h=>by
  unfold pickS at h
  split at h
  · cases h;exact ⟨by simp [sepT],hl,by simp⟩
  · obtain ⟨a,b,c,d,e⟩:=sepS_snd (f:=intT) colS_snd 39 l hl x h
    exact ⟨a,b,c,e⟩
theorem groupS_snd:Snd groupS (fun x=>(if x.1 then [wd (⟨#[103,114,111,117,112]⟩:ByteArray)] else [])++sepT aggT x.2) (fun x=>(∀a∈x.2,AggOk a)∧x.2.length≤40∧(x.1=true∨x.2=[])):=fun l hl x h=>by
  unfold groupS at h
  split at h
  · cases h;exact ⟨by simp [sepT],hl,by simp⟩
  · rename_i r hr
    obtain ⟨e,o⟩:=tk_w (by decide) hl hr
    split at h
    · cases h;exact ⟨by simpa [sepT] using e,o,by simp⟩
    · simp only [Option.map_eq_some_iff] at h
      obtain ⟨z,hz,rfl⟩:=h
      obtain ⟨a,b,c,d,f⟩:=sepS_snd aggS_snd 39 r o z hz
      exact ⟨by rw [e,a];simp,b,c,f,.inl rfl⟩
structure ViewOk (v:View):Prop where
  name:isName v.1=true
  fr:isName v.2.1=true
  join:(v.2.2.1=e0∧v.2.2.2.1=(0,0))∨(isName v.2.2.1=true∧0≤v.2.2.2.1.1∧v.2.2.2.1.1≤99∧0≤v.2.2.2.1.2∧v.2.2.2.1.2≤99)
  whr:ExprOk v.2.2.2.2.1
  pick:∀n∈v.2.2.2.2.2.1,0≤n∧n≤99
  most:v.2.2.2.2.2.1.length≤40
  aggs:∀a∈v.2.2.2.2.2.2.2,AggOk a
  most2:v.2.2.2.2.2.2.2.length≤40
  group:v.2.2.2.2.2.2.1=true∨v.2.2.2.2.2.2.2=[]
theorem tk_wd (s:ByteArray) (l:List Tok):tk s (wd s::l)=some l:=by simp [tk,wd]
theorem tk_sg (s:ByteArray) (l:List Tok):tk s (sg s::l)=some l:=by simp [tk,sg]
theorem nameS_wd {b:ByteArray} (h:isName b=true) (l:List Tok):nameS (wd b::l)=some (b,l):=by simp [nameS,wd,h]
theorem colS_num {n:Int} (h:0≤n∧n≤99) (l:List Tok):colS (numT n::l)=some (n,l):=by simp [colS,numT,h]
theorem viewS_snd : ∀ l,AllOk l → ∀ x,viewS l = some x → ∃ l',viewS l' = some x ∧ l'.Sublist l ∧ wd (⟨#[118,105,101,119]⟩ : ByteArray) :: l' = viewT x.1 ++ x.2 ∧ AllOk x.2 ∧ ViewOk x.1 := fun l hl x h => by
  simp only [viewS,Option.bind_eq_some_iff,Option.map_eq_some_iff] at h
  obtain ⟨y,hy,r,hr,f,hf,j,hj,w,hw,r2,hr2,p,hp,g,hg,rfl⟩:=h
  obtain ⟨a1,a2,a3⟩:=nameS_snd l hl y hy
  obtain ⟨b1,b2⟩:=tk_w (by decide) a2 hr
  obtain ⟨c1,c2,c3⟩:=nameS_snd r b2 f hf
  obtain ⟨d1,d2,d3⟩:=joinS_snd f.2 c2 j hj
  obtain ⟨f1,f2,f3⟩:=whereS_snd j.2 d2 w hw
  obtain ⟨g1,g2⟩:=tk_w (by decide) f2 hr2
  obtain ⟨i1,i2,i3⟩:=pickS_snd r2 g2 p hp
  obtain ⟨k1,k2,k3⟩:=groupS_snd p.2 i2 g hg
  have hV:ViewOk (y.1,(f.1,(j.1.1,(j.1.2,(w.1,(p.1,g.1)))))):=⟨a3,c3,d3,f3,i3.1,i3.2,k3.1,k3.2.1,k3.2.2⟩
  let J:List Tok:=if j.1.1=e0 then [] else wd (⟨#[106,111,105,110]⟩:ByteArray)::wd j.1.1::wd (⟨#[111,110]⟩:ByteArray)::numT j.1.2.1::sg (⟨#[61]⟩:ByteArray)::[numT j.1.2.2]
  let W:List Tok:=if w.1=[] then [] else wd (⟨#[119,104,101,114,101]⟩:ByteArray)::exprT w.1
  have hT:wd (⟨#[118,105,101,119]⟩:ByteArray)::(wd y.1::wd (⟨#[102,114,111,109]⟩:ByteArray)::wd f.1::(J++(W++w.2)))=viewT (y.1,(f.1,(j.1.1,(j.1.2,(w.1,(p.1,g.1))))))++g.2:=by
    rw [g1,i1,k1]
    simp [viewT,J,W]
  rcases f1 with f1|⟨f0,f1⟩
  · have hl':l=wd y.1::wd (⟨#[102,114,111,109]⟩:ByteArray)::wd f.1::(J++(W++w.2)):=by rw [a1,b1,c1,d1,f1];rfl
    refine ⟨l,?_,List.Sublist.refl _,by rw [←hT,hl'],k2,hV⟩
    simp only [viewS,hy,hr,hf,hj,hw,hr2,hp,hg,Option.bind_some,Option.map_some]
  · have hW:W=[]:=if_pos f0
    refine ⟨wd y.1::wd (⟨#[102,114,111,109]⟩:ByteArray)::wd f.1::(J++(W++w.2)),?_,?_,hT,k2,hV⟩
    · have hj':joinS (J++w.2)=some (j.1,w.2):=by
        rcases d3 with ⟨d3,d4⟩|⟨d3,d4,d5,d6,d7⟩
        · have hJ:J=[]:=if_pos d3
          have:tk (⟨#[106,111,105,110]⟩:ByteArray) w.2=none:=by rw [g1];rfl
          rw [hJ,List.nil_append]
          simp only [joinS,this]
          rw [←d3,←d4]
        · have hJ:J=wd (⟨#[106,111,105,110]⟩:ByteArray)::wd j.1.1::wd (⟨#[111,110]⟩:ByteArray)::numT j.1.2.1::sg (⟨#[61]⟩:ByteArray)::[numT j.1.2.2]:=if_neg (name_ne d3)
          rw [hJ]
          simp only [List.cons_append,List.nil_append,joinS,tk_wd,nameS_wd d3,colS_num ⟨d4,d5⟩,tk_sg,colS_num ⟨d6,d7⟩,Option.bind_some,Option.map_some]
      have hw':whereS w.2=some ([],w.2):=by
        have:tk (⟨#[119,104,101,114,101]⟩:ByteArray) w.2=none:=by rw [g1];rfl
        simp only [whereS,this]
      rw [hW,List.nil_append]
      simp only [viewS,nameS_wd a3,tk_wd,nameS_wd c3,hj',hw',hr2,hp,hg,Option.bind_some,Option.map_some,f0]
    · rw [hW,List.nil_append]
      have hl':l=wd y.1::wd (⟨#[102,114,111,109]⟩:ByteArray)::wd f.1::(J++([wd (⟨#[119,104,101,114,101]⟩:ByteArray),sg (⟨#[91]⟩:ByteArray),sg (⟨#[93]⟩:ByteArray)]++w.2)):=by rw [a1,b1,c1,d1,f1];rfl
      rw [hl']
      refine List.Sublist.cons_cons _ (List.Sublist.cons_cons _ (List.Sublist.cons_cons _ (List.Sublist.append (List.Sublist.refl _) ?_)))
      exact List.sublist_append_right _ _
inductive DefOk:Def→Prop
  |tab {t:Tab}:TabOk t→DefOk (0,(t,view0))
  |view {v:View}:ViewOk v→DefOk (1,(tab0,v))
theorem parseS_back {l : List Tok} (hl : AllOk l) {d : Def} (h : parseS l = some d) : (defT d).Sublist l ∧ parseS (defT d) = some d ∧ DefOk d := by
  simp only [parseS,Option.bind_eq_some_iff] at h
  obtain ⟨x,hx,h⟩:=h
  split at h
  · rename_i h0
    cases h
    simp only [defS,Option.bind_eq_some_iff] at hx
    obtain ⟨y,hy,hx⟩:=hx
    obtain ⟨a1,a2,a3,a4⟩:=oneS_snd [(⟨#[116,97,98,108,101]⟩:ByteArray),(⟨#[118,105,101,119]⟩:ByteArray)] (by decide) l hl y hy
    have a4:y.1<2:=a4
    split at hx
    · rename_i h1
      simp only [Option.map_eq_some_iff] at hx
      obtain ⟨z,hz,rfl⟩:=hx
      obtain ⟨b1,b2,b3⟩:=tableS_snd y.2 a2 z hz
      have h0:z.2=[]:=h0
      have e:defT (0,(z.1,view0))=l:=by
        show tableT z.1=l
        rw [a1,h1]
        rw [h0,List.append_nil] at b1
        exact b1.symm
      rw [e]
      refine ⟨List.Sublist.refl _,?_,.tab b3⟩
      simp only [parseS,defS,hy,Option.bind_some,if_pos h1,hz,Option.map_some,h0,if_true]
    · rename_i h1
      simp only [Option.map_eq_some_iff] at hx
      obtain ⟨z,hz,rfl⟩:=hx
      have h1':y.1=1:=by omega
      obtain ⟨l',c1,c2,b1,b2,b3⟩:=viewS_snd y.2 a2 z hz
      have h0:z.2=[]:=h0
      have e:defT (y.1,(tab0,z.1))=wd (⟨#[118,105,101,119]⟩:ByteArray)::l':=by
        rw [h1']
        show viewT z.1=_
        rw [h0,List.append_nil] at b1
        exact b1.symm
      have el:l=wd (⟨#[118,105,101,119]⟩:ByteArray)::y.2:=by rw [a1,h1'];rfl
      rw [e]
      refine ⟨by rw [el];exact c2.cons_cons _,?_,by rw [h1'];exact .view b3⟩
      have o:oneS 0 [(⟨#[116,97,98,108,101]⟩:ByteArray),(⟨#[118,105,101,119]⟩:ByteArray)] (wd (⟨#[118,105,101,119]⟩:ByteArray)::l')=some (1,l'):=by
        simp only [oneS]
        have:tk (⟨#[116,97,98,108,101]⟩:ByteArray) (wd (⟨#[118,105,101,119]⟩:ByteArray)::l')=none:=rfl
        rw [this,tk_wd]
        rfl
      simp only [parseS,defS,o,Option.bind_some,c1,Option.map_some,h0,if_true,h1']
      rfl
  · cases h
end Dl
end
section
namespace Dl
open Go
theorem index_split : ∀ s : List UInt8,(Lib.index s [39] = -1 ∧ (39 : UInt8) ∉ s) ∨ ∃ a r,s = a ++ 39 :: r ∧ (39 : UInt8) ∉ a ∧ Lib.index s [39] = a.length := by
  intro s
  induction s with
  |nil=>left;exact ⟨rfl,by simp⟩
  |cons c l ih=>
    by_cases h:c=39
    · right
      subst h
      exact ⟨[],l,rfl,by simp,by simp [Lib.index,List.isPrefixOf]⟩
    · have hp:([39]:List UInt8).isPrefixOf (c::l)=false:=by
        simp only [List.isPrefixOf,Bool.and_eq_false_iff]
        left
        simp;exact fun e=>h e.symm
      rcases ih with ⟨h1,h2⟩|⟨a,r,h1,h2,h3⟩
      · left
        refine ⟨?_,?_⟩
        · simp [Lib.index,hp,h1]
        · intro hm
          rcases List.mem_cons.1 hm with e|hm
          · exact h e.symm
          · exact h2 hm
      · right
        refine ⟨c::a,r,by rw [h1];rfl,?_,?_⟩
        · intro hm
          rcases List.mem_cons.1 hm with e|hm
          · exact h e.symm
          · exact h2 hm
        · have hn:¬Lib.index l [39]=-1:=by omega
          simp [Lib.index,hp,hn,h3]
theorem dbl_app (a b:List UInt8):dbl (a++b)=dbl a++dbl b:=by
  induction a with
  |nil=>rfl
  |cons c a ih=>simp only [List.cons_append,dbl,ih];split<;>simp
theorem dbl_none {a:List UInt8} (h:(39:UInt8)∉a):dbl a=a:=by
  induction a with
  |nil=>rfl
  |cons c a ih=>
    have hc:¬c=39:=fun e=>h (by simp [e])
    simp only [dbl,if_neg hc]
    rw [ih (fun hm=>h (List.mem_cons_of_mem _ hm))]
theorem rep_dbl : ∀ (n : Nat) (s : List UInt8),s.length ≤ n → ∀ f,s.length < f → Lib.replaceK [39] [39,39] (Lib.countFrom [39] f s) s = dbl s ∧ Lib.countFrom [39] f s ≤ s.length := by
  intro n
  induction n with
  |zero=>
    intro s hs f hf
    cases s with
    |cons _ _=>simp at hs
    |nil=>
      cases f with
      |zero=>simp at hf
      |succ f=>
        have:Lib.countFrom [39] (f+1) []=0:=by simp [Lib.countFrom,Lib.index]
        rw [this]
        exact ⟨rfl,Nat.le_refl _⟩
  |succ n ih=>
    intro s hs f hf
    cases f with
    |zero=>omega
    |succ f=>
      rcases index_split s with ⟨h1,h2⟩|⟨a,r,h1,h2,h3⟩
      · have hc:Lib.countFrom [39] (f+1) s=0:=by simp [Lib.countFrom,h1]
        rw [hc]
        exact ⟨by rw [dbl_none h2];rfl,by omega⟩
      · have hn:¬(Lib.index s [39]==-1)=true:=by rw [beq_iff_eq];omega
        have hd:s.drop ((Lib.index s [39]).toNat+1)=r:=by
          rw [h3,h1]
          simp only [Int.toNat_natCast]
          rw [show a.length+1=(a++ [39]).length by simp,show a++39::r=(a++ [39])++r by simp,List.drop_left]
        have hc:Lib.countFrom [39] (f+1) s=Lib.countFrom [39] f r+1:=by
          rw [Lib.countFrom,if_neg hn]
          rw [show ([39]:List UInt8).length=1 from rfl,hd,Nat.add_comm]
        have hl:s.length=a.length+1+r.length:=by rw [h1];simp;omega
        obtain ⟨i1,i2⟩:=ih r (by omega) f (by omega)
        rw [hc,Lib.replaceK_hit _ _ _ _ _ h3]
        have hd':s.drop (a.length+([39]:List UInt8).length)=r:=by rw [h3] at hd;simpa using hd
        rw [hd',i1]
        have ht:s.take a.length=a:=by rw [h1];simp
        refine ⟨?_,by omega⟩
        rw [ht,h1,dbl_app,dbl_none h2]
        simp [dbl]
theorem replaceAll_dbl (s:List UInt8):Lib.replaceAll s [39] [39,39]=dbl s:=by
  unfold Lib.replaceAll Lib.replace
  have:(([39]:List UInt8)==[39,39])=false:=by decide
  rw [if_neg (by rw [this];simp)]
  have hn:Lib.replaceNum s [39] (-1)=Lib.count s [39]:=by unfold Lib.replaceNum;rw [if_pos (.inl (by decide))]
  rw [hn]
  exact (rep_dbl s.length s (Nat.le_refl _) _ (by omega)).1
theorem count_le (s:List UInt8):Lib.count s [39]≤s.length:=(rep_dbl s.length s (Nat.le_refl _) _ (by omega)).2
theorem join_joinL (l:List (List UInt8)):Lib.join l [32]=joinL l:=by
  induction l with
  |nil=>rfl
  |cons w l ih=>
    cases l with
    |nil=>rw [Lib.join_one];rfl
    |cons v l=>
      rw [joinL_cons w (by simp),←ih,Lib.join_cons,Lib.join_cons]
      simp [Lib.joinTail]
def wordW (n:Int) (ws:List ByteArray):ByteArray:=if n<0∨(ws.length:Int)≤n then (⟨#[33]⟩:ByteArray) else ws.getD n.toNat e0
def opWords:List ByteArray:=[(⟨#[43]⟩:ByteArray),(⟨#[45]⟩:ByteArray),(⟨#[42]⟩:ByteArray),(⟨#[61]⟩:ByteArray),(⟨#[60]⟩:ByteArray),(⟨#[97,110,100]⟩:ByteArray),(⟨#[111,114]⟩:ByteArray),(⟨#[110,111,116]⟩:ByteArray),(⟨#[110,117,108,108,32,63]⟩:ByteArray)]
def vMay (v:Val):Bool:=(decide (v.1=2)&&decide (v.2.2=e0))||(decide (v.1=3)&&(decide (v.2.1=0)&&decide (v.2.2.size≤1000)))
def constW (v:Val):ByteArray:=if v=(0,(0,e0)) then (⟨#[110,117,108,108]⟩:ByteArray) else if v=(1,(0,e0)) then (⟨#[102,97,108,115,101]⟩:ByteArray) else if v=(1,(1,e0)) then (⟨#[116,114,117,101]⟩:ByteArray) else if vMay v then bs (showT (1,(e0,v))) else (⟨#[33]⟩:ByteArray)
def stepW (x:Node):ByteArray:=if x.1=0 then bs (99::Lib.itoa x.2.1) else if x.1=1 then constW x.2.2 else wordW (IntKind.i64.wrap (x.1-2)) opWords
def exprW (e:List Node):List ByteArray:=(⟨#[91]⟩:ByteArray)::e.map stepW++ [(⟨#[93]⟩:ByteArray)]
def sepW {α:Type} (f:α→List ByteArray):Bool→List α→List ByteArray
  |_,[]=> []
  |b,x::r=>(if b then [(⟨#[44]⟩:ByteArray)] else [])++f x++sepW f true r
def colW (c:Col):List ByteArray:=[c.1,wordW (IntKind.i64.wrap (c.2.1-1)) kinds]++((if c.2.2.1 then [(⟨#[110,117,108,108]⟩:ByteArray)] else [])++((if c.2.2.2.1 then [(⟨#[117,110,105,113,117,101]⟩:ByteArray)] else [])++(if c.2.2.2.2.1=e0 then [] else [(⟨#[114,101,102]⟩:ByteArray),c.2.2.2.2.1,wordW c.2.2.2.2.2 acts])))
def checkW (e:List Node):List ByteArray:=(⟨#[99,104,101,99,107]⟩:ByteArray)::exprW e
def tableW (t:Tab):List ByteArray:=[(⟨#[116,97,98,108,101]⟩:ByteArray),t.1,(⟨#[40]⟩:ByteArray)]++sepW colW false t.2.1++ [(⟨#[41]⟩:ByteArray)]++t.2.2.flatMap checkW
def pickW (n:Int):List ByteArray:=[bs (Lib.itoa n)]
def aggW (a:Agg):List ByteArray:=wordW a.1 fns::(if a.1=0 then [] else [bs (Lib.itoa a.2)])
def viewW (v:View):List ByteArray:=[(⟨#[118,105,101,119]⟩:ByteArray),v.1,(⟨#[102,114,111,109]⟩:ByteArray),v.2.1]++(if v.2.2.1=e0 then [] else [(⟨#[106,111,105,110]⟩:ByteArray),v.2.2.1,(⟨#[111,110]⟩:ByteArray),bs (Lib.itoa v.2.2.2.1.1),(⟨#[61]⟩:ByteArray),bs (Lib.itoa v.2.2.2.1.2)])++
  (if v.2.2.2.2.1=[] then [] else (⟨#[119,104,101,114,101]⟩:ByteArray)::exprW v.2.2.2.2.1)++ [(⟨#[112,105,99,107]⟩:ByteArray)]++sepW pickW false v.2.2.2.2.2.1++(if v.2.2.2.2.2.2.1 then [(⟨#[103,114,111,117,112]⟩:ByteArray)] else [])++sepW aggW false v.2.2.2.2.2.2.2
def defW (d:Def):List ByteArray:=if d.1=0 then tableW d.2.1 else viewW d.2.2
def textW (d:Def):List UInt8:=joinL ((defW d).map fun w=>w.data.toList)
open Classical in
noncomputable def printS (d:Def):List UInt8:=if 20000<(textW d).length then [] else if readS (textW d)=(d,0) then textW d else []
def Sep (a:List ByteArray) (b:List Tok):Prop:=∀(p q:List (List UInt8)),joinL (p++a.map (fun w=>w.data.toList)++q)=joinL (p++b.map showT++q)
theorem Sep.of {a:List ByteArray} {b:List Tok} (h:a.map (fun w=>w.data.toList)=b.map showT):Sep a b:=fun p q=>by rw [h]
theorem Sep.app {a a':List ByteArray} {b b':List Tok} (h:Sep a b) (h':Sep a' b'):Sep (a++a') (b++b'):=fun p q=>by
  rw [List.map_append,List.map_append]
  have e1:=h p (a'.map (fun w=>w.data.toList)++q)
  have e2:=h' (p++b.map showT) q
  simp only [List.append_assoc] at e1 e2 ⊢
  rw [e1,e2]
theorem Sep.cons {w:ByteArray} {t:Tok} (h:w.data.toList=showT t) {a':List ByteArray} {b':List Tok} (h':Sep a' b'):Sep (w::a') (t::b'):=Sep.app (a:=[w]) (b:=[t]) (.of (by simp [h])) h'
theorem Sep.nil:Sep [] []:=.of rfl
theorem Sep.join {a:List ByteArray} {b:List Tok} (h:Sep a b):joinL (a.map fun w=>w.data.toList)=joinL (b.map showT):=by
  have:=h [] []
  simpa using this
theorem joinL_split (p q:List (List UInt8)) (u v:List UInt8):joinL (p++ [u++32::v]++q)=joinL (p++ [u,v]++q):=by
  induction p with
  |nil=>
    cases q with
    |nil=>simp [joinL]
    |cons w q=>
      have h1:joinL ([]++ [u++32::v]++w::q)=(u++32::v)++32::joinL (w::q):=joinL_cons _ (by simp)
      have h2:joinL ([]++ [u,v]++w::q)=u++32::joinL (v::w::q):=joinL_cons _ (by simp)
      rw [h1,h2,joinL_cons v (by simp)]
      simp
  |cons a p ih=>
    have e1:(a::p)++ [u++32::v]++q=a::(p++ [u++32::v]++q):=rfl
    have e2:(a::p)++ [u,v]++q=a::(p++ [u,v]++q):=rfl
    rw [e1,e2,joinL_cons a (by simp),joinL_cons a (by simp),ih]
theorem wrap_small {i:Int} (h1:-100≤i) (h2:i≤100):IntKind.i64.wrap i=i:=by rw [IntKind.wrap_i64];omega
theorem tokok_may {v:Val} (h:TokOk (1,(e0,v))):vMay v=true:=by
  generalize ht:((1,(e0,v)):Tok)=t at h
  cases h with
  |word _=>cases ht
  |sign _=>cases ht
  |num _ _=>cases ht;simp [vMay]
  |@text w hw=>cases ht;simp [vMay];show w.toArray.size≤1000;simpa using hw
theorem step_sep {x:Node} (h:StepOk x):Sep [stepW x] (stepT x):=by
  obtain ⟨op,n,v⟩:=x
  rcases h with ⟨h1,h2⟩|⟨h1,h2,h3,h4⟩|⟨h1,h2,h3⟩|⟨h1,h2,h3⟩
  · have h1:op=10:=h1
    have h2:(n,v)=(0,v0):=h2
    cases h2
    subst h1
    intro p q
    exact joinL_split p q ([110,117,108,108]:List UInt8) ([63]:List UInt8)
  · have h1:op=0:=h1
    subst h1
    exact .of rfl
  · have h1:op=1:=h1
    have h2:n=0:=h2
    have h3:ValOk v:=h3
    subst h1;subst h2
    by_cases g1:v=(0,(0,e0))
    · subst g1;exact .of rfl
    by_cases g2:v=(1,(0,e0))
    · subst g2;exact .of rfl
    by_cases g3:v=(1,(1,e0))
    · subst g3;exact .of rfl
    rcases h3 with h3|h3|h3|h3
    · exact absurd h3 g1
    · exact absurd h3 g2
    · exact absurd h3 g3
    have e1:stepW (1,(0,v))=bs (showT (1,(e0,v))):=by
      show constW v=_
      unfold constW
      rw [if_neg g1,if_neg g2,if_neg g3,if_pos (tokok_may h3)]
    have e2:stepT (1,(0,v))=[(1,(e0,v))]:=by
      simp only [stepT,if_neg g1,if_neg g2,if_neg g3]
      rfl
    rw [e1,e2]
    exact .of rfl
  · have h1:2≤op:=h1
    have h2:op≤9:=h2
    have h3:(n,v)=(0,v0):=h3
    cases h3
    have:op=2∨op=3∨op=4∨op=5∨op=6∨op=7∨op=8∨op=9:=by omega
    rcases this with rfl|rfl|rfl|rfl|rfl|rfl|rfl|rfl<;>exact .of rfl
theorem steps_sep:∀(e:List Node),(∀x∈e,StepOk x)→Sep (e.map stepW) (e.flatMap stepT):=by
  intro e
  induction e with
  |nil=>intro _;exact Sep.nil
  |cons x e ih=>
    intro h
    rw [List.flatMap_cons]
    exact Sep.app (a:=[stepW x]) (step_sep (h x (by simp))) (ih fun y hy=>h y (List.mem_cons_of_mem _ hy))
theorem expr_sep {e:List Node} (h:ExprOk e):Sep (exprW e) (exprT e):=.cons rfl (.app (steps_sep e h.1) (.cons rfl .nil))
theorem sep_sep {α : Type} {f : α → List ByteArray} {g : α → List Tok} : ∀ (l : List α),(∀ x ∈ l,Sep (f x) (g x)) → Sep (sepW f false l) (sepT g l) := by
  have go:∀(l:List α),l≠ []→(∀x∈l,Sep (f x) (g x))→Sep (sepW f true l) (sg (⟨#[44]⟩:ByteArray)::sepT g l):=by
    intro l
    induction l with
    |nil=>intro h;exact absurd rfl h
    |cons x l ih=>
      intro _ h
      cases l with
      |nil=>
        have:sepW f true [x]=(⟨#[44]⟩:ByteArray)::(f x++ []):=rfl
        rw [this,List.append_nil]
        exact .cons rfl (h x (by simp))
      |cons y l=>
        have e1:sepW f true (x::y::l)=(⟨#[44]⟩:ByteArray)::(f x++sepW f true (y::l)):=rfl
        have e2:sepT g (x::y::l)=g x++sg (⟨#[44]⟩:ByteArray)::sepT g (y::l):=rfl
        rw [e1,e2]
        exact .cons rfl (.app (h x (by simp)) (ih (by simp) fun z hz=>h z (List.mem_cons_of_mem _ hz)))
  intro l h
  cases l with
  |nil=>exact .nil
  |cons x l=>
    cases l with
    |nil=>
      have:sepW f false [x]=[]++f x++ []:=rfl
      rw [this,List.append_nil,List.nil_append]
      exact h x (by simp)
    |cons y l=>
      have e1:sepW f false (x::y::l)=[]++f x++sepW f true (y::l):=rfl
      have e2:sepT g (x::y::l)=g x++sg (⟨#[44]⟩:ByteArray)::sepT g (y::l):=rfl
      rw [e1,e2,List.nil_append]
      exact .app (h x (by simp)) (go (y::l) (by simp) fun z hz=>h z (List.mem_cons_of_mem _ hz))
theorem wordW_getD {n:Int} {ws:List ByteArray} (h1:0≤n) (h2:n<ws.length):wordW n ws=ws.getD n.toNat e0:=by
  unfold wordW
  rw [if_neg (by omega)]
theorem col_sep {c:Col} (h:ColOk c):Sep (colW c) (columnT c):=by
  obtain ⟨h1,h2,h3,h4⟩:=h
  unfold colW columnT
  rw [wrap_small (by omega) (by omega),wordW_getD (by omega) (by show c.2.1-1<3;omega)]
  simp only [List.cons_append,List.nil_append]
  refine .cons rfl (.cons rfl (.app (b:=if c.2.2.1 then [wd (⟨#[110,117,108,108]⟩:ByteArray)] else []) ?_ (.app (b:=if c.2.2.2.1 then [wd (⟨#[117,110,105,113,117,101]⟩:ByteArray)] else []) ?_ ?_)))
  · split
    · exact .of rfl
    · exact .nil
  · split
    · exact .of rfl
    · exact .nil
  · rcases h4 with ⟨h4,h5⟩|⟨h4,h5,h6⟩
    · rw [if_pos h4,if_pos h4];exact .nil
    · rw [if_neg (name_ne h4),if_neg (name_ne h4),wordW_getD h5 (by show c.2.2.2.2.2<3;omega)]
      exact .of rfl
theorem checks_sep:∀(l:List (List Node)),(∀e∈l,ExprOk e)→Sep (l.flatMap checkW) (l.flatMap fun e=>wd (⟨#[99,104,101,99,107]⟩:ByteArray)::exprT e):=by
  intro l
  induction l with
  |nil=>intro _;exact .nil
  |cons e l ih=>
    intro h
    rw [List.flatMap_cons,List.flatMap_cons]
    exact .app (.cons rfl (expr_sep (h e (by simp)))) (ih fun y hy=>h y (List.mem_cons_of_mem _ hy))
theorem table_sep {t:Tab} (h:TabOk t):Sep (tableW t) (tableT t):=by
  unfold tableW tableT
  simp only [List.cons_append,List.nil_append,List.append_assoc]
  exact .cons rfl (.cons rfl (.cons rfl (.app (sep_sep (f:=colW) (g:=columnT) t.2.1 fun c hc=>col_sep (h.cols c hc)) (.cons rfl (checks_sep _ h.checks)))))
theorem pick_sep (n:Int):Sep (pickW n) (intT n):=.of rfl
theorem agg_sep {a:Agg} (h:AggOk a):Sep (aggW a) (aggT a):=by
  obtain ⟨h1,h2,_⟩:=h
  unfold aggW aggT
  rw [wordW_getD h1 (by show a.1<4;omega)]
  refine .cons rfl ?_
  split
  · exact .nil
  · exact .of rfl
theorem view_sep {v:View} (h:ViewOk v):Sep (viewW v) (viewT v):=by
  unfold viewW viewT
  simp only [List.cons_append,List.nil_append,List.append_assoc]
  refine .cons rfl (.cons rfl (.cons rfl (.cons rfl (.app (b:=if v.2.2.1=e0 then [] else wd (⟨#[106,111,105,110]⟩:ByteArray)::wd v.2.2.1::wd (⟨#[111,110]⟩:ByteArray)::numT v.2.2.2.1.1::sg (⟨#[61]⟩:ByteArray)::[numT v.2.2.2.1.2]) ?_ (.app (b:=if v.2.2.2.2.1=[] then [] else wd (⟨#[119,104,101,114,101]⟩:ByteArray)::exprT v.2.2.2.2.1) ?_
    (.cons rfl (.app (sep_sep (f:=pickW) (g:=intT) v.2.2.2.2.2.1 fun n _=>pick_sep n) (.app (b:=if v.2.2.2.2.2.2.1 then [wd (⟨#[103,114,111,117,112]⟩:ByteArray)] else []) ?_ (sep_sep (f:=aggW) (g:=aggT) v.2.2.2.2.2.2.2 fun a ha=>agg_sep (h.aggs a ha))))))))))
  · split
    · exact .nil
    · exact .of rfl
  · split
    · exact .nil
    · exact .cons rfl (expr_sep h.whr)
  · split
    · exact .of rfl
    · exact .nil
theorem text_def {d:Def} (h:DefOk d):textW d=joinL ((defT d).map showT):=by
  cases h with
  |tab h=>exact (table_sep h).join
  |view h=>exact (view_sep h).join
end Dl
end
section
namespace Go.Proofs.Ytleadolkcmagfaa
open Go Lv Go.Proofs Go.RowKit Go.Shelf Dl
abbrev lst (s:ByteArray) (i:Nat):List UInt8:=s.data.toList.drop i
theorem lst_len (s:ByteArray) (i:Nat):(lst s i).length=s.size-i:=by
  show (List.drop i s.data.toList).length=_
  rw [List.length_drop];rfl
theorem lst_nil {s:ByteArray} {i:Nat} (h:lst s i=[]):s.size≤i:=by
  have:=lst_len s i
  rw [h] at this;simp at this;omega
theorem lst_cons {s:ByteArray} {i:Nat} {c:UInt8} {r:List UInt8} (h:lst s i=c::r):i<s.size∧lst s (i+1)=r∧byteAt s i=(c.toNat:Int):=by
  have hl:=lst_len s i
  rw [h] at hl
  simp at hl
  refine ⟨by omega,?_,?_⟩
  · show List.drop (i+1) s.data.toList=r
    have:List.drop 1 (List.drop i s.data.toList)=r:=by rw [show List.drop i s.data.toList=c::r from h];rfl
    rw [List.drop_drop] at this
    exact this
  · unfold byteAt
    rw [List.getD_eq_getElem?_getD]
    have:(List.drop i s.data.toList)[0]?=some c:=by rw [show List.drop i s.data.toList=c::r from h];rfl
    rw [List.getElem?_drop] at this
    rw [show i+0=i from rfl] at this
    rw [this];rfl
theorem lst_at {s:ByteArray} {i:Nat} (h:i<s.size):∃c r,lst s i=c::r:=by
  have hl:=lst_len s i
  cases e:lst s i with
  |nil=>rw [e] at hl;simp at hl;omega
  |cons c r=>exact ⟨c,r,rfl⟩
theorem ext_bs (s:ByteArray) (i j:Nat) (hij:i≤j):s.extract i j=bs ((lst s i).take (j-i)):=by
  apply Go.WideShapes.bytes_inj
  rw [ByteArray.data_extract]
  simp [lst,List.extract_eq_take_drop]
def cls (c:UInt8):Int:=if letter c then 1 else if digit c then 2 else if c=95 then 3 else if c=39 then 4 else if c=32 then 5 else 0
theorem u8_eq (c:UInt8) (n:Nat) (hn:n<256):((c.toNat:Int)==(n:Int))=decide (c=UInt8.ofNat n):=by
  by_cases h:c=UInt8.ofNat n
  · subst h;simp;omega
  · have:¬(c.toNat:Int)=(n:Int):=fun e=>h (by
      apply UInt8.toNat_inj.1
      simp;omega)
    rw [beq_eq_false_iff_ne.2 this];simp [h]
theorem of_s (c:UInt8):lex_of.F ((c.toNat:Int),())=some (cls c,()):=by
  rw [lex_of.eq]
  unfold lex_of.B cls letter digit
  have e1:((c.toNat:Int)==(95:Int))=decide (c=95):=u8_eq c 95 (by decide)
  have e2:((c.toNat:Int)==(39:Int))=decide (c=39):=u8_eq c 39 (by decide)
  have e3:((c.toNat:Int)==(32:Int))=decide (c=32):=u8_eq c 32 (by decide)
  have i1:((c.toNat:Int)≥(97:Int))↔97≤c.toNat:=by omega
  have i2:((c.toNat:Int)≤(122:Int))↔c.toNat≤122:=by omega
  have i3:((c.toNat:Int)≥(48:Int))↔48≤c.toNat:=by omega
  have i4:((c.toNat:Int)≤(57:Int))↔c.toNat≤57:=by omega
  simp only [e1,e2,e3,i1,i2,i3,i4]
  clear i1 i2 i3 i4 e1 e2 e3
  by_cases h1:97≤c.toNat<;>by_cases h2:c.toNat≤122<;>by_cases h3:48≤c.toNat<;>by_cases h4:c.toNat≤57<;>simp [h1,h2,h3,h4,cond_dec]<;>(repeat' split)<;>rfl
theorem foldT_any {R:Type} (y:Int) (fin:Bool→R):∀(ks:List Int) (b:Bool),foldT (fun (k:Int) (b:Bool)=>Sum.inl (b||k==y)) fin ks b=fin (b||ks.any (· ==y)):=by
  intro ks
  induction ks with
  |nil=>intro b;simp [foldT]
  |cons k ks ih=>intro b;simp only [foldT,ih,List.any_cons,Bool.or_assoc]
abbrev inK (ks:List Int) (c:UInt8):Bool:=ks.any (· ==cls c)
theorem dropWhile_eq_drop {p:UInt8→Bool} (l:List UInt8):l.dropWhile p=l.drop (l.takeWhile p).length:=by
  induction l with
  |nil=>rfl
  |cons a l ih=>simp only [List.takeWhile,List.dropWhile];split<;>simp [*]
theorem takeWhile_eq_take {p:UInt8→Bool} (l:List UInt8):l.takeWhile p=l.take (l.takeWhile p).length:=by
  induction l with
  |nil=>rfl
  |cons a l ih=>simp only [List.takeWhile];split<;>simp [←ih]
theorem run_in (ks:List Int) (hk:ks.length<1000) (y:Int) {R Q:Type} (K:((Bool×Unit)⊕R)→Option Q):Option.bind (loopM (S:=Bool×Int×Unit) (fun (x7',x36',_)=>
  (bif (decide (x36'<(ks.length:Int))) then
  bif (decide (0≤x36')&&decide (x36'<(ks.length:Int))) then
  let e3:Int:=(List.getD ks (Int.toNat x36') (0:Int))
  (bif x7' then
  let e4:Int:=(IntKind.i64.wrap (x36'+(1:Int)))
  some (.inl (true,e4,()))
  else
  let e5:Int:=(IntKind.i64.wrap (x36'+(1:Int)))
  some (.inl ((e3==y),e5,())))
  else none
  else
  some (.inr (.inl (x7',()))))) (false,(0:Int),()):Option ((Bool×Unit)⊕R)) K=K (.inl (ks.any (· ==y),())):=by
  rw [loop_TB (mk:=fun (i:Int) (b:Bool)=>(b,i,())) (l:=ks) (I:=fun _ _=>True) (step:=fun k b=> .inl (b||k==y)) (fin:=fun b=> .inl (b,()))
    (fun i hi b _=>⟨?_,fun _ _=>trivial⟩) (fun b _=>?_) false trivial,foldT_any]
  · simp
  · have d1:decide ((i:Int)<(ks.length:Int))=true:=by simp;omega
    have d0:decide (0≤(i:Int))=true:=by simp
    simp only [d1,d0,Bool.and_self,cond_true,Int.toNat_natCast,getD_at hi,wrap_s hi (by omega)]
    cases b<;>simp
  · have d1:decide ((ks.length:Int)<(ks.length:Int))=false:=by simp
    simp only [d1,cond_false]
theorem run_s (ks : List Int) (hk : ks.length < 1000) (s : ByteArray) (hs : s.size ≤ 100000000) (i : Nat) (hi : i ≤ s.size) :
    ∃j:Nat,i≤j∧j≤s.size∧lst s j=(lst s i).dropWhile (inK ks)∧lex_scanner_run.F (ks,s,(i:Int),())=some (bs ((lst s i).takeWhile (inK ks)),s,(j:Int),()):=by
  have hj:i+((lst s i).takeWhile (inK ks)).length≤s.size:=by
    have h1:=takeWhile_drop (p:=inK ks) (lst s i)
    have h2:=lst_len s i
    omega
  refine ⟨i+((lst s i).takeWhile (inK ks)).length,by omega,hj,?_,?_⟩
  · show List.drop _ _=_
    rw [dropWhile_eq_drop,←List.drop_drop]
  rw [lex_scanner_run.eq]
  unfold lex_scanner_run.B
  simp only []
  rw [loop_f (m:=fun x=>s.size-x.2.1.toNat) (I:=fun x=>x.1=s∧∃k:Nat,x.2.1=(k:Int)∧k≤s.size) (f:=fun x=> .inl (x.1,((x.2.1.toNat+((lst s x.2.1.toNat).takeWhile (inK ks)).length:Nat):Int),())) ?_ _ ⟨rfl,i,rfl,hi⟩]
  · simp only [Option.bind_some,Int.toNat_natCast]
    have c1:decide (0≤(i:Int))=true:=by simp
    have c2:decide ((i:Int)≤((i+((lst s i).takeWhile (inK ks)).length:Nat):Int))=true:=by simp;omega
    have c3:decide (((i+((lst s i).takeWhile (inK ks)).length:Nat):Int)≤(s.size:Int))=true:=by simp only [decide_eq_true_eq];omega
    rw [c1,c2,c3]
    simp only [Bool.and_self,cond_true,Int.toNat_natCast]
    rw [ext_bs s i _ (by omega),show i+((lst s i).takeWhile (inK ks)).length-i=((lst s i).takeWhile (inK ks)).length by omega,←takeWhile_eq_take]
  · rintro ⟨a,b,⟨⟩⟩ ⟨ha,k,hk',hle⟩
    simp only at ha hk' hle
    subst ha
    subst hk'
    simp only [Int.toNat_natCast]
    by_cases hlt:k<a.size
    · obtain ⟨c,r,e⟩:=lst_at hlt
      obtain ⟨_,e1,e2⟩:=lst_cons e
      have d1:decide ((k:Int)<(a.size:Int))=true:=by simp;omega
      have d0:decide (0≤(k:Int))=true:=by simp
      simp only [d1,d0,Bool.and_self,cond_true,e2,of_s,Option.bind_some,run_in ks hk,wrap_s hlt (by omega)]
      by_cases hb:inK ks c=true
      · left
        have hb':(ks.any fun x=>x==cls c)=true:=hb
        simp only [hb',Bool.not_true,cond_false]
        refine ⟨_,rfl,⟨rfl,k+1,rfl,by omega⟩,by simp only [Int.toNat_natCast];omega,?_⟩
        simp only [Int.toNat_natCast]
        rw [e1,e]
        simp only [List.takeWhile_cons,hb,if_true,List.length_cons]
        congr 4
        omega
      · right
        have hb':(ks.any fun x=>x==cls c)=false:=by cases h:(ks.any fun x=>x==cls c) with|false=>rfl|true=>exact absurd h hb
        simp only [hb',Bool.not_false,cond_true]
        rw [e]
        simp only [List.takeWhile_cons,hb',Bool.false_eq_true,if_false,List.length_nil,Nat.add_zero]
    · right
      have:lst a k=[]:=by
        have:=lst_len a k
        exact List.length_eq_zero_iff.1 (by omega)
      have hd:decide ((k:Int)<(a.size:Int))=false:=by simp;omega
      simp only [this,hd,cond_false,List.takeWhile_nil,List.length_nil,Nat.add_zero]
theorem inK_word (c:UInt8):inK [1,2,3] c=inner c:=by
  simp only [inK,List.any_cons,List.any_nil,cls,inner]
  by_cases h3:c=95
  · subst h3;decide
  · cases h1:letter c<;>cases h2:digit c<;>simp [h1,h2,h3]<;>(repeat' split)<;>simp
theorem inK_digit (c:UInt8):inK [2] c=digit c:=by
  simp only [inK,List.any_cons,List.any_nil,cls]
  by_cases h1:letter c=true
  · have:digit c=false:=by
      simp only [letter,digit,Bool.and_eq_true,decide_eq_true_eq,Bool.and_eq_false_iff,decide_eq_false_iff_not] at h1 ⊢;omega
    simp [h1,this]
  · by_cases h2:digit c=true<;>simp [h1,h2]<;>(repeat' split)<;>simp
theorem inK_blank (c:UInt8):inK [5] c=decide (c=32):=by
  simp only [inK,List.any_cons,List.any_nil,cls]
  by_cases h:c=32
  · subst h;decide
  · simp only [h,decide_false,if_false]
    (repeat' split)<;>simp
def hd8:List UInt8→Int
  | []=>0
  |c::_=>(c.toNat:Int)
theorem peek_s (k:Nat) (s:ByteArray) (hs:s.size≤100000000) (i:Nat) (hk:i+k<9223372036854775808):
    lex_scanner_peek.F ((k:Int),s,(i:Int),())=some (hd8 (lst s (i+k)),s,(i:Int),()):=by
  rw [lex_scanner_peek.eq]
  unfold lex_scanner_peek.B
  have e:IntKind.i64.wrap ((i:Int)+(k:Int))=((i+k:Nat):Int):=by rw [i64_wrap]<;>omega
  simp only [e]
  by_cases h:i+k<s.size
  · obtain ⟨c,r,hc⟩:=lst_at h
    obtain ⟨_,e1,e2⟩:=lst_cons hc
    have d1:decide (((i+k:Nat):Int)≥(s.size:Int))=false:=by simp;omega
    have d2:decide (0≤((i+k:Nat):Int))=true:=by simp;omega
    have d3:decide (((i+k:Nat):Int)<(s.size:Int))=true:=by simp;omega
    simp only [d1,d2,d3,cond_false,Bool.and_self,cond_true,Int.toNat_natCast,e2,hc,hd8]
  · have:lst s (i+k)=[]:=by
      have:=lst_len s (i+k)
      exact List.length_eq_zero_iff.1 (by omega)
    have d1:decide (((i+k:Nat):Int)≥(s.size:Int))=true:=by simp;omega
    simp only [d1,cond_true,this,hd8]
theorem takeWhile_congr {p q:UInt8→Bool} (h:∀c,p c=q c) (l:List UInt8):l.takeWhile p=l.takeWhile q:=by rw [show p=q from funext h]
theorem dropWhile_congr {p q:UInt8→Bool} (h:∀c,p c=q c) (l:List UInt8):l.dropWhile p=l.dropWhile q:=by rw [show p=q from funext h]
theorem word_s (s:ByteArray) (hs:s.size≤100000000) (i:Nat) (hi:i≤s.size):
    ∃j:Nat,i≤j∧j≤s.size∧lst s j=(lst s i).dropWhile inner∧lex_scanner_word.F (s,(i:Int),())=some (0,bs ((lst s i).takeWhile inner),0,0,e0,decide (((lst s i).takeWhile inner).length≤30),s,(j:Int),()):=by
  obtain ⟨j,h1,h2,h3,h4⟩:=run_s [1,2,3] (by decide) s hs i hi
  rw [dropWhile_congr inK_word] at h3
  rw [takeWhile_congr inK_word] at h4
  refine ⟨j,h1,h2,h3,?_⟩
  rw [lex_scanner_word.eq]
  unfold lex_scanner_word.B
  simp only [h4,Option.bind_some]
  have:decide (((bs ((lst s i).takeWhile inner)).size:Int)≤(30:Int))=decide (((lst s i).takeWhile inner).length≤30):=by
    have:(bs ((lst s i).takeWhile inner)).size=((lst s i).takeWhile inner).length:=by simp [bs,ByteArray.size]
    rw [this]
    simp
    omega
  rw [this]
theorem bs_size (l:List UInt8):(bs l).size=l.length:=by simp [bs,ByteArray.size]
theorem bs_app (a b:List UInt8):bs a++bs b=bs (a++b):=by
  apply Go.WideShapes.bytes_inj
  simp [bs]
theorem beq_bs (a b:List UInt8):((bs a).toList==(bs b).toList)=decide (a=b):=by
  rw [beq_bytes]
  by_cases h:a=b
  · subst h;simp
  · have:bs a≠bs b:=fun e=>h (by have:=congrArg (fun x:ByteArray=>x.data.toList) e;simpa using this)
    simp [h,this]
theorem itoa_bound {w : List UInt8} {v : Int} (h : Lib.atoiAll w = .ok v) : -9223372036854775808 ≤ v ∧ v ≤ 9223372036854775807 := by
  unfold Lib.atoiAll at h
  split at h
  · cases h
  · simp only at h
    split at h
    · cases h
    · cases h
    · split at h
      · cases h
      · split at h
        · cases h
        · cases h
          split<;>omega
theorem atoi_b {Q:Type} (w:List UInt8) (hw:w.length≤100000001) (K:TS strconv_Atoi.so→Option Q):Option.bind (strconv_Atoi.F (bs w,())) K=K ((atoiR (bs w)).1,(atoiR (bs w)).2,()):=by
  have ha:strconv_Atoi.F (bs w,())=some ((atoiR (bs w)).1,(atoiR (bs w)).2,()):=by
    rw [strconv_Atoi.eq]
    show atoiF (bs w,())=_
    unfold atoiF
    simp only
    rw [if_pos (by rw [bs_size];omega)]
  rw [ha];rfl
theorem itoa_b {Q:Type} (v:Int) (h1:-9223372036854775808≤v) (h2:v≤9223372036854775807) (K:TS strconv_Itoa.so→Option Q):Option.bind (strconv_Itoa.F (v,())) K=K (bs (Lib.itoa v),()):=by
  have ha:strconv_Itoa.F (v,())=some (bs (Lib.itoa v),()):=by
    rw [strconv_Itoa.eq]
    show itoaF (v,())=_
    unfold itoaF
    simp only
    rw [if_pos ⟨h1,h2⟩]
    rfl
  rw [ha];rfl
theorem number_s (s : ByteArray) (hs : s.size ≤ 100000000) (i : Nat) {c : UInt8} {r : List UInt8} (hc : lst s i = c :: r) (hd : digit c = true ∨ (c = 45 ∧ hdDigit r = true)) :
    ∃ j : Nat,i < j ∧ j ≤ s.size ∧ lst s j = r.dropWhile digit ∧ match numS (c :: r.takeWhile digit) with
      |some n=>lex_scanner_number.F (s,(i:Int),())=some (1,e0,2,n,e0,true,s,(j:Int),())
      |none=>∃n,lex_scanner_number.F (s,(i:Int),())=some (1,e0,2,n,e0,false,s,(j:Int),()):=by
  obtain ⟨hi,h1,_⟩:=lst_cons hc
  have hp:=peek_s 0 s hs i (by omega)
  rw [show i+0=i from rfl,hc] at hp
  rw [lex_scanner_number.eq]
  unfold lex_scanner_number.B
  have hp':lex_scanner_peek.F ((0:Int),s,(i:Int),())=some ((c.toNat:Int),s,(i:Int),()):=hp
  simp only [hp',Option.bind_some]
  have key:∀(w:List UInt8) (hw:w.length≤100000001) (j:Nat),Option.bind (strconv_Atoi.F (bs w,())) (fun y6=>
      (bif y6.2.1 then Option.bind (strconv_Itoa.F (y6.1,())) fun y7=>
        some ((1:Int),(⟨#[]⟩:ByteArray),(2:Int),y6.1,(⟨#[]⟩:ByteArray),(y7.1.toList==(bs w).toList),s,(j:Int),())
      else some ((1:Int),(⟨#[]⟩:ByteArray),(2:Int),y6.1,(⟨#[]⟩:ByteArray),false,s,(j:Int),())))=match numS w with
      |some n=>some (1,e0,2,n,e0,true,s,(j:Int),())
      |none=>some (1,e0,2,(atoiR (bs w)).1,e0,false,s,(j:Int),()):=by
    intro w hw j
    rw [atoi_b w hw]
    show (bif (atoiR (bs w)).2 then Option.bind (strconv_Itoa.F ((atoiR (bs w)).1,())) fun y7=>some ((1:Int),(⟨#[]⟩:ByteArray),(2:Int),(atoiR (bs w)).1,(⟨#[]⟩:ByteArray),(y7.1.toList==(bs w).toList),s,(j:Int),())
      else some ((1:Int),(⟨#[]⟩:ByteArray),(2:Int),(atoiR (bs w)).1,(⟨#[]⟩:ByteArray),false,s,(j:Int),()))=_
    unfold atoiR numS
    simp only [bs_list]
    cases h:Lib.atoiAll w with
    |ok v=>
      obtain ⟨b1,b2⟩:=itoa_bound h
      simp only [cond_true]
      rw [itoa_b v b1 b2]
      show some ((1:Int),(⟨#[]⟩:ByteArray),(2:Int),v,(⟨#[]⟩:ByteArray),((bs (Lib.itoa v)).toList==(bs w).toList),s,(j:Int),())=_
      rw [beq_bs]
      by_cases hc:Lib.itoa v=w<;>simp [hc]
    |_=>simp
  have fin:∀(w:List UInt8) (hw:w.length≤100000001) (j:Nat),match numS w with
      |some n=>Option.bind (strconv_Atoi.F (bs w,())) (fun y6=>
      (bif y6.2.1 then Option.bind (strconv_Itoa.F (y6.1,())) fun y7=>
        some ((1:Int),(⟨#[]⟩:ByteArray),(2:Int),y6.1,(⟨#[]⟩:ByteArray),(y7.1.toList==(bs w).toList),s,(j:Int),())
      else some ((1:Int),(⟨#[]⟩:ByteArray),(2:Int),y6.1,(⟨#[]⟩:ByteArray),false,s,(j:Int),())))=some (1,e0,2,n,e0,true,s,(j:Int),())
      |none=>∃n,Option.bind (strconv_Atoi.F (bs w,())) (fun y6=>
      (bif y6.2.1 then Option.bind (strconv_Itoa.F (y6.1,())) fun y7=>
        some ((1:Int),(⟨#[]⟩:ByteArray),(2:Int),y6.1,(⟨#[]⟩:ByteArray),(y7.1.toList==(bs w).toList),s,(j:Int),())
      else some ((1:Int),(⟨#[]⟩:ByteArray),(2:Int),y6.1,(⟨#[]⟩:ByteArray),false,s,(j:Int),())))=some (1,e0,2,n,e0,false,s,(j:Int),()):=by
    intro w hw j
    have:=key w hw j
    cases h:numS w with
    |none=>rw [h] at this;exact ⟨_,this⟩
    |some n=>rw [h] at this;exact this
  have hl:=lst_len s i
  rw [hc] at hl
  simp only [List.length_cons] at hl
  have ht:=takeWhile_drop (p:=digit) r
  by_cases h45:c=45
  · subst h45
    have e1:(((45:UInt8).toNat:Int)==(45:Int))=true:=by decide
    have e2:IntKind.i64.wrap ((i:Int)+(1:Int))=((i+1:Nat):Int):=wrap_s hi (by omega)
    obtain ⟨j,g1,g2,g3,g4⟩:=run_s [2] (by decide) s hs (i+1) (by omega)
    rw [h1] at g3 g4
    rw [dropWhile_congr inK_digit] at g3
    rw [takeWhile_congr inK_digit] at g4
    refine ⟨j,by omega,g2,g3,?_⟩
    simp only [e1,cond_true,e2,Option.bind_some,g4]
    have e3:(!decide (((((⟨#[45]⟩:ByteArray).size+(bs (r.takeWhile digit)).size:Nat)):Int)>IntKind.i64.max))=true:=by
      rw [bs_size,bs_size]
      have:IntKind.i64.max=9223372036854775807:=by decide
      rw [this]
      simp
      omega
    simp only [e3,cond_true]
    rw [show (⟨#[45]⟩:ByteArray)=bs [45] from rfl,bs_app]
    exact fin (45::r.takeWhile digit) (by simp;omega) j
  · have hd':digit c=true:=by rcases hd with hd|hd;exact hd;exact absurd hd.1 h45
    have e1:((c.toNat:Int)==(45:Int))=false:=by
      have:=u8_eq c 45 (by decide)
      have h':((c.toNat:Int)==(45:Int))=decide (c=45):=this
      rw [h'];simp [h45]
    obtain ⟨j,g1,g2,g3,g4⟩:=run_s [2] (by decide) s hs i (by omega)
    rw [hc] at g3 g4
    rw [dropWhile_congr inK_digit,List.dropWhile_cons,if_pos hd'] at g3
    rw [takeWhile_congr inK_digit,List.takeWhile_cons,if_pos hd'] at g4
    have hj:i<j:=by
      have a1:=lst_len s j
      rw [g3] at a1
      have:=dropWhile_len (p:=digit) r
      omega
    refine ⟨j,hj,g2,g3,?_⟩
    simp only [e1,cond_false,Option.bind_some,g4]
    have e3:(!decide (((((⟨#[]⟩:ByteArray).size+(bs (c::r.takeWhile digit)).size:Nat)):Int)>IntKind.i64.max))=true:=by
      rw [bs_size,bs_size]
      have:IntKind.i64.max=9223372036854775807:=by decide
      rw [this]
      simp
      omega
    simp only [e3,cond_true]
    rw [show (⟨#[]⟩:ByteArray)=bs [] from rfl,bs_app]
    exact fin (c::r.takeWhile digit) (by simp;omega) j
abbrev i8 (l:List UInt8):List Int:=l.map fun c=>(c.toNat:Int)
theorem text_go {R Q : Type} {body : ByteArray × Int × (List Int) × Unit → Option ((ByteArray × Int × (List Int) × Unit) ⊕ R)} {K : R → Option Q} (s : ByteArray) (resT : List UInt8 → Nat → R) (resN : List Int → R) (q : Option Q)
    (hK:∀acc,K (resN acc)=q)
    (h0:∀acc,body (s,(s.size:Int),acc,())=some (.inr (resN acc)))
    (h1:∀k acc r,lst s k=39::39::r→acc.length≤k→body (s,(k:Int),i8 acc,())=some (.inl (s,((k+2:Nat):Int),i8 (acc++ [39]),())))
    (h2:∀k acc r,lst s k=39::r→r.head?≠some 39→body (s,(k:Int),i8 acc,())=some (.inr (resT acc (k+1))))
    (h3:∀k acc c r,lst s k=c::r→c≠39→acc.length≤k→body (s,(k:Int),i8 acc,())=some (.inl (s,((k+1:Nat):Int),i8 (acc++ [c]),()))):
    ∀ (n k : Nat) (acc : List UInt8),s.size - k ≤ n → k ≤ s.size → acc.length ≤ k → Option.bind (loopM body (s,(k : Int),i8 acc,())) K = match textS (lst s k) with
      |some x=>K (resT (acc++x.1) (s.size-x.2.length))
      |none=>q:=by
  intro n
  induction n with
  |zero=>
    intro k acc hn hk ha
    have hk':k=s.size:=by omega
    subst hk'
    have:lst s s.size=[]:=by
      have:=lst_len s s.size
      exact List.length_eq_zero_iff.1 (by omega)
    rw [loopM_q,h0,this]
    exact hK _
  |succ n ih=>
    intro k acc hn hk ha
    cases e:lst s k with
    |nil=>
      have hk':k=s.size:=by have:=lst_nil e;omega
      subst hk'
      rw [loopM_q,h0]
      exact hK _
    |cons c r=>
      obtain ⟨e1,e2,_⟩:=lst_cons e
      rw [textS_cons]
      by_cases hc:c=39
      · subst hc
        rw [if_pos rfl]
        cases r with
        |nil=>
          rw [loopM_q,h2 k acc [] e (by simp)]
          have:=lst_len s k
          rw [e] at this
          simp at this
          simp only [Option.bind_some,List.append_nil,List.length_nil]
          rw [show k+1=s.size-0 by omega]
        |cons d r'=>
          obtain ⟨f1,f2,_⟩:=lst_cons e2
          by_cases hd:d=39
          · subst hd
            simp only [if_true]
            rw [loopM_q,h1 k acc r' e ha]
            simp only
            rw [ih (k+2) (acc++ [39]) (by omega) (by omega) (by simp;omega),f2]
            cases textS r' with
            |none=>rfl
            |some x=>simp
          · simp only [if_neg hd]
            rw [loopM_q,h2 k acc (d::r') e (by simpa using hd)]
            have:=lst_len s k
            rw [e] at this
            simp at this
            simp only [Option.bind_some,List.append_nil,List.length_cons]
            rw [show k+1=s.size-(r'.length+1) by omega]
      · rw [if_neg hc,loopM_q,h3 k acc c r e hc ha]
        simp only
        rw [ih (k+1) (acc++ [c]) (by omega) (by omega) (by simp;omega),e2]
        cases textS r with
        |none=>rfl
        |some x=>simp
theorem lst_of_len {s:ByteArray} {i:Nat} {r:List UInt8} {j:Nat} (h:∃p,lst s i=p++r) (hi:i≤s.size) (hj:j=s.size-r.length):lst s j=r∧i≤j∧j≤s.size:=by
  obtain ⟨p,h⟩:=h
  have hl:=lst_len s i
  rw [h] at hl
  simp at hl
  have hj':j=i+p.length:=by omega
  refine ⟨?_,by omega,by omega⟩
  rw [hj']
  show List.drop (i+p.length) s.data.toList=r
  rw [←List.drop_drop]
  show List.drop p.length (lst s i)=r
  rw [h]
  simp
theorem bytesOf_i8 (l:List UInt8):bytesOf (i8 l)=bs l:=by
  unfold bytesOf
  simp only [List.map_map]
  congr 2
  conv=>rhs;rw [←List.map_id l]
  apply List.map_congr_left
  intro c _
  simp
theorem bstr_b {Q:Type} (w:List UInt8) (K:TS strings_Builder_String.so→Option Q):Option.bind (strings_Builder_String.F (i8 w,())) K=K (bs w,()):=by
  have ha:strings_Builder_String.F (i8 w,())=some (bs w,()):=by
    rw [strings_Builder_String.eq]
    show (if (∀x∈i8 w,0≤x∧x<256) then some (bytesOf (i8 w),()) else none)=_
    rw [if_pos,bytesOf_i8]
    intro x hx
    obtain ⟨c,_,rfl⟩:=List.mem_map.1 hx
    have:=c.toNat_lt
    refine ⟨Int.natCast_nonneg _,?_⟩
    show (c.toNat:Int)<256
    omega
  rw [ha];rfl
theorem cc_b {Q:Type} (w:List Int) (K:TS strings_Builder_copyCheck.so→Option Q):Option.bind (strings_Builder_copyCheck.F (w,())) K=K (w,()):=by
  have ha:strings_Builder_copyCheck.F (w,())=some (w,()):=by
    rw [strings_Builder_copyCheck.eq]
    rfl
  rw [ha];rfl
theorem wb_s (w:List UInt8) (c:UInt8) (hw:w.length≤100000000):strings_Builder_WriteByte.F ((c.toNat:Int),i8 w,())=some (true,i8 (w++ [c]),()):=by
  rw [strings_Builder_WriteByte.eq]
  unfold strings_Builder_WriteByte.B
  show Option.bind (strings_Builder_copyCheck.F (i8 w,())) _=_
  rw [cc_b]
  show (bif (Nat.ble ((i8 w).length+ [(c.toNat:Int)].length) 140737488355328) then some (true,(i8 w++ [(c.toNat:Int)]),()) else none)=_
  have:Nat.ble ((i8 w).length+ [(c.toNat:Int)].length) 140737488355328=true:=by
    rw [Nat.ble_eq];simp;omega
  rw [this]
  simp
theorem vmay_text (w:List UInt8):value_May.F ((3:Int),(0:Int),bs w,())=some (decide (w.length≤1000),()):=by
  rw [value_May.eq]
  unfold value_May.B
  have:decide (((bs w).size:Int)≤(1000:Int))=decide (w.length≤1000):=by
    rw [bs_size];simp;omega
  simp only [this]
  rfl
theorem text_s (s : ByteArray) (hs : s.size ≤ 100000000) (i : Nat) {r : List UInt8} (hc : lst s i = 39 :: r) :
    match textS r with
    |some x=>∃j,i<j∧j≤s.size∧lst s j=x.2∧lex_scanner_text.F (s,(i:Int),())=some (1,e0,3,0,bs x.1,decide (x.1.length≤1000),s,(j:Int),())
    |none=>lex_scanner_text.F (s,(i:Int),())=some (0,e0,0,0,e0,false,s,(s.size:Int),()):=by
  obtain ⟨hi,h1,_⟩:=lst_cons hc
  have key:lex_scanner_text.F (s,(i:Int),())=match textS r with
      |some x=>some (1,e0,3,0,bs x.1,decide (x.1.length≤1000),s,((s.size-x.2.length:Nat):Int),())
      |none=>some (0,e0,0,0,e0,false,s,(s.size:Int),()):=by
    rw [lex_scanner_text.eq]
    unfold lex_scanner_text.B
    simp only [wrap_s hi (show s.size<9223372036854775808 by omega)]
    have h0:([]:List Int)=i8 []:=rfl
    rw [h0]
    rw [text_go s (fun w j=> .inr (1,e0,3,0,bs w,decide (w.length≤1000),s,(j:Int),())) (fun acc=> .inl (s,(s.size:Int),acc,())) (some (0,e0,0,0,e0,false,s,(s.size:Int),())) (fun acc=>rfl) ?_ ?_ ?_ ?_ (s.size-(i+1)) (i+1) [] (Nat.le_refl _) (by omega) (by simp),h1]
    · cases textS r with
      |none=>rfl
      |some x=>simp
    · intro acc
      have:decide ((s.size:Int)<(s.size:Int))=false:=by simp
      simp only [this,cond_false]
    · intro k acc r' e ha
      obtain ⟨e1,e2,_⟩:=lst_cons e
      obtain ⟨f1,f2,_⟩:=lst_cons e2
      have d1:decide ((k:Int)<(s.size:Int))=true:=by simp;omega
      have hp:=peek_s 0 s hs k (by omega)
      have hp2:=peek_s 0 s hs (k+1) (by omega)
      rw [show k+0=k from rfl,e] at hp
      rw [show k+1+0=k+1 from rfl,e2] at hp2
      have hp':lex_scanner_peek.F ((0:Int),s,(k:Int),())=some (((39:UInt8).toNat:Int),s,(k:Int),()):=hp
      have hp2':lex_scanner_peek.F ((0:Int),s,((k+1:Nat):Int),())=some (((39:UInt8).toNat:Int),s,((k+1:Nat):Int),()):=hp2
      have b1:(((39:UInt8).toNat:Int)==(39:Int))=true:=by decide
      have b2:(((39:UInt8).toNat:Int) !=(39:Int))=false:=by decide
      have b3:decide ((((k+1:Nat):Int))≥(s.size:Int))=false:=by simp;omega
      simp only [d1,cond_true,hp',Option.bind_some,b1,wrap_s e1 (show s.size<9223372036854775808 by omega),hp2',b2,cond_false,b3,wb_s acc 39 (by omega),wrap_s f1 (show s.size<9223372036854775808 by omega)]
    · intro k acc r' e hh
      obtain ⟨e1,e2,_⟩:=lst_cons e
      have d1:decide ((k:Int)<(s.size:Int))=true:=by simp;omega
      have hp:=peek_s 0 s hs k (by omega)
      have hp2:=peek_s 0 s hs (k+1) (by omega)
      rw [show k+0=k from rfl,e] at hp
      rw [show k+1+0=k+1 from rfl,e2] at hp2
      have hp':lex_scanner_peek.F ((0:Int),s,(k:Int),())=some (((39:UInt8).toNat:Int),s,(k:Int),()):=hp
      have b1:(((39:UInt8).toNat:Int)==(39:Int))=true:=by decide
      have b2:(hd8 r' !=(39:Int))=true:=by
        cases r' with
        |nil=>decide
        |cons d q=>
          have hd:d≠39:=by simpa using hh
          have hu:((d.toNat:Int)==(39:Int))=decide (d=39):=u8_eq d 39 (by decide)
          simp only [hd8,bne,hu,hd,decide_false,Bool.not_false]
      have hp2':lex_scanner_peek.F ((0:Int),s,((k+1:Nat):Int),())=some (hd8 r',s,((k+1:Nat):Int),()):=hp2
      simp only [d1,cond_true,hp',Option.bind_some,b1,wrap_s e1 (show s.size<9223372036854775808 by omega),hp2',b2]
      rw [bstr_b]
      simp only [vmay_text,Option.bind_some]
    · intro k acc c r' e hc' ha
      obtain ⟨e1,e2,_⟩:=lst_cons e
      have d1:decide ((k:Int)<(s.size:Int))=true:=by simp;omega
      have hp:=peek_s 0 s hs k (by omega)
      rw [show k+0=k from rfl,e] at hp
      have hp':lex_scanner_peek.F ((0:Int),s,(k:Int),())=some ((c.toNat:Int),s,(k:Int),()):=hp
      have b1:((c.toNat:Int)==(39:Int))=false:=by
        have hu:((c.toNat:Int)==(39:Int))=decide (c=39):=u8_eq c 39 (by decide)
        rw [hu];simp [hc']
      simp only [d1,cond_true,hp',Option.bind_some,b1,cond_false,wb_s acc c (by omega),wrap_s e1 (show s.size<9223372036854775808 by omega)]
  cases ht:textS r with
  |none=>rw [ht] at key;exact key
  |some x=>
    rw [ht] at key
    obtain ⟨a1,a2⟩:=textS_src _ r (Nat.le_refl _) x ht
    have hp:∃p,lst s (i+1)=p++x.2:=⟨dbl x.1++ [39],by rw [h1,a1];simp⟩
    obtain ⟨b1,b2,b3⟩:=lst_of_len (s:=s) (i:=i+1) (r:=x.2) (j:=s.size-x.2.length) hp (by omega) rfl
    exact ⟨_,by omega,b3,b1,key⟩
theorem contains_all:∀n,n<256→Lib.contains signs [UInt8.ofNat n]=decide (UInt8.ofNat n∈signs):=by decide+kernel
theorem contains_sign (c:UInt8):Lib.contains signs [c]=decide (c∈signs):=by
  have:=contains_all c.toNat c.toNat_lt
  simpa using this
theorem contains_b {Q:Type} (c:UInt8) (K:TS strings_Contains.so→Option Q):Option.bind (strings_Contains.F ((⟨#[40,41,91,93,44,61,60,43,45,42,63]⟩:ByteArray),bs [c],())) K=K (decide (c∈signs),()):=by
  have ha:strings_Contains.F ((⟨#[40,41,91,93,44,61,60,43,45,42,63]⟩:ByteArray),bs [c],())=some (decide (c∈signs),()):=by
    rw [strings_Contains.eq]
    show containsF _=_
    unfold containsF
    simp only
    rw [if_pos (by decide),←contains_sign]
    rfl
  rw [ha];rfl
theorem cls_quote (c:UInt8):(cls c==4)=decide (c=39):=by
  unfold cls
  by_cases h:c=39
  · subst h;decide
  · simp only [h,decide_false,if_false]
    (repeat' split)<;>rfl
theorem cls_letter (c:UInt8):(cls c==1)=letter c:=by
  unfold cls
  cases h:letter c
  · simp;(repeat' split)<;>simp
  · simp
theorem cls_digit (c:UInt8):(cls c==2)=digit c:=by
  have:=inK_digit c
  simpa [inK,eq_comm,BEq.comm] using this
def hdCls:List UInt8→Int
  | []=>0
  |d::_=>cls d
theorem token_s (s : ByteArray) (hs : s.size ≤ 100000000) (i : Nat) {c : UInt8} {r : List UInt8} (hc : lst s i = c :: r) :
    match tokS (c::r) with
    |some x=>∃j:Nat,i<j∧j≤s.size∧lst s j=x.2∧lex_scanner_token.F (s,(i:Int),())=some (x.1.1,x.1.2.1,x.1.2.2.1,x.1.2.2.2.1,x.1.2.2.2.2,true,s,(j:Int),())
    |none=>∃a b d e f j,lex_scanner_token.F (s,(i:Int),())=some (a,b,d,e,f,false,s,j,()):=by
  obtain ⟨hi,h1,_⟩:=lst_cons hc
  have hp:=peek_s 0 s hs i (by omega)
  rw [show i+0=i from rfl,hc] at hp
  have hp':lex_scanner_peek.F ((0:Int),s,(i:Int),())=some ((c.toNat:Int),s,(i:Int),()):=hp
  have hq:=peek_s 1 s hs i (by omega)
  rw [h1] at hq
  have hq':lex_scanner_peek.F ((1:Int),s,(i:Int),())=some (hd8 r,s,(i:Int),()):=hq
  rw [lex_scanner_token.eq]
  unfold lex_scanner_token.B
  simp only [hp',Option.bind_some,of_s,cls_letter,cls_digit,cls_quote,hq']
  have hd8_of:lex_of.F (hd8 r,())=some (hdCls r,()):=by
    cases r with
    |nil=>exact (of_s 0)
    |cons d r'=>exact of_s d
  have hd8_d:(hdCls r==2)=hdDigit r:=by
    cases r with
    |nil=>rfl
    |cons d r'=>exact cls_digit d
  have h45:((c.toNat:Int)==(45:Int))=decide (c=45):=u8_eq c 45 (by decide)
  simp only [hd8_of,Option.bind_some,hd8_d,h45]
  simp only [tokS]
  cases hl:letter c with
  |true=>
    simp only [cond_true,if_true]
    obtain ⟨j,g1,g2,g3,g4⟩:=word_s s hs i (by omega)
    rw [hc] at g3 g4
    have hin:inner c=true:=by simp [inner,hl]
    rw [List.dropWhile_cons,if_pos hin] at g3
    rw [List.takeWhile_cons,if_pos hin] at g4
    rw [g4]
    simp only [Option.bind_some]
    by_cases hn:(c::r.takeWhile inner).length≤30
    · rw [if_pos hn]
      refine ⟨j,?_,g2,g3,?_⟩
      · have a1:=lst_len s j
        have a2:=lst_len s i
        rw [g3] at a1
        rw [hc] at a2
        have:=dropWhile_len (p:=inner) r
        simp at a2
        omega
      · simp only [hn,decide_true]
        rfl
    · rw [if_neg hn]
      simp only [hn,decide_false]
      exact ⟨_,_,_,_,_,_,rfl⟩
  | false =>
    simp only [cond_false,Bool.false_eq_true,if_false]
    have num:(digit c=true∨(c=45∧hdDigit r=true))→match (numS (c::r.takeWhile digit)).map fun n=>(numT n,r.dropWhile digit) with
      |some x=>∃j:Nat,i<j∧j≤s.size∧lst s j=x.2∧(Option.bind (lex_scanner_number.F (s,(i:Int),())) fun y7=>some (y7.1,y7.2.1,y7.2.2.1,y7.2.2.2.1,y7.2.2.2.2.1,y7.2.2.2.2.2.1,y7.2.2.2.2.2.2.1,y7.2.2.2.2.2.2.2.1,()))=some (x.1.1,x.1.2.1,x.1.2.2.1,x.1.2.2.2.1,x.1.2.2.2.2,true,s,(j:Int),())
      |none=>∃a b d e f j,(Option.bind (lex_scanner_number.F (s,(i:Int),())) fun y7=>some (y7.1,y7.2.1,y7.2.2.1,y7.2.2.2.1,y7.2.2.2.2.1,y7.2.2.2.2.2.1,y7.2.2.2.2.2.2.1,y7.2.2.2.2.2.2.2.1,()))=some (a,b,d,e,f,false,s,j,()):=by
      intro hd
      obtain ⟨j,g1,g2,g3,g4⟩:=number_s s hs i hc hd
      cases hn:numS (c::r.takeWhile digit) with
      |none=>
        rw [hn] at g4
        obtain ⟨n,g4⟩:=g4
        rw [g4]
        exact ⟨_,_,_,_,_,_,rfl⟩
      |some n=>
        rw [hn] at g4
        exact ⟨j,g1,g2,g3,by rw [g4];rfl⟩
    have w1:IntKind.i64.wrap ((i:Int)+(1:Int))=((i+1:Nat):Int):=wrap_s hi (by omega)
    have w2:IntKind.i64.wrap (((i+1:Nat):Int)-(1:Int))=(i:Int):=by rw [i64_wrap]<;>omega
    have w3:(decide (0≤(i:Int))&&(decide ((i:Int)≤((i+1:Nat):Int))&&decide (((i+1:Nat):Int)≤(s.size:Int))))=true:=by simp;omega
    have w4:s.extract i (i+1)=bs [c]:=by rw [ext_bs s i (i+1) (by omega),hc];simp
    have sgn:match (if c=39 then (textS r).bind fun x=>if x.1.length≤1000 then some (textT x.1,x.2) else none else if c∈signs then some (signT c,r) else none) with
      |some x=>∃j:Nat,i<j∧j≤s.size∧lst s j=x.2∧(bif decide (c=39) then Option.bind (lex_scanner_text.F (s,(i:Int),())) fun y8=>some (y8.1,y8.2.1,y8.2.2.1,y8.2.2.2.1,y8.2.2.2.2.1,y8.2.2.2.2.2.1,y8.2.2.2.2.2.2.1,y8.2.2.2.2.2.2.2.1,()) else
          Option.bind (strings_Contains.F ((⟨#[40,41,91,93,44,61,60,43,45,42,63]⟩:ByteArray),bs [c],())) fun y12=>some ((2:Int),bs [c],(0:Int),(0:Int),(⟨#[]⟩:ByteArray),y12.1,s,((i+1:Nat):Int),()))=some (x.1.1,x.1.2.1,x.1.2.2.1,x.1.2.2.2.1,x.1.2.2.2.2,true,s,(j:Int),())
      |none=>∃a b d e f j,(bif decide (c=39) then Option.bind (lex_scanner_text.F (s,(i:Int),())) fun y8=>some (y8.1,y8.2.1,y8.2.2.1,y8.2.2.2.1,y8.2.2.2.2.1,y8.2.2.2.2.2.1,y8.2.2.2.2.2.2.1,y8.2.2.2.2.2.2.2.1,()) else
          Option.bind (strings_Contains.F ((⟨#[40,41,91,93,44,61,60,43,45,42,63]⟩:ByteArray),bs [c],())) fun y12=>some ((2:Int),bs [c],(0:Int),(0:Int),(⟨#[]⟩:ByteArray),y12.1,s,((i+1:Nat):Int),()))=some (a,b,d,e,f,false,s,j,()):=by
      by_cases h9:c=39
      · subst h9
        have ht:=text_s s hs i hc
        simp only [if_true,decide_true,cond_true]
        cases hx:textS r with
        |none=>
          rw [hx] at ht
          simp only [Option.bind_none]
          rw [ht]
          exact ⟨_,_,_,_,_,_,rfl⟩
        |some x=>
          rw [hx] at ht
          obtain ⟨j,g1,g2,g3,g4⟩:=ht
          simp only [Option.bind_some]
          rw [g4]
          by_cases hn:x.1.length≤1000
          · rw [if_pos hn]
            exact ⟨j,g1,g2,g3,by simp only [hn,decide_true,Option.bind_some];rfl⟩
          · rw [if_neg hn]
            simp only [hn,decide_false,Option.bind_some]
            exact ⟨_,_,_,_,_,_,rfl⟩
      · simp only [h9,if_false,decide_false,cond_false]
        rw [contains_b]
        by_cases hg:c∈signs
        · rw [if_pos hg]
          exact ⟨i+1,by omega,by omega,h1,by simp only [hg,decide_true];rfl⟩
        · rw [if_neg hg]
          simp only [hg,decide_false]
          exact ⟨_,_,_,_,_,_,rfl⟩
    cases hd:digit c with
    |true=>
      simp only [cond_true,Option.bind_some,Bool.true_or,if_true]
      exact num (.inl hd)
    |false=>
      simp only [cond_false,Bool.false_or]
      by_cases h5:c=45
      · subst h5
        simp only [decide_true,cond_true,Option.bind_some,Bool.true_and]
        cases hh:hdDigit r with
        |true=>
          simp only [cond_true,if_true]
          exact num (.inr ⟨rfl,hh⟩)
        |false=>
          simp only [cond_false,Bool.false_eq_true,if_false,w1,w2,w3,cond_true,Int.toNat_natCast,w4]
          exact sgn
      · simp only [h5,decide_false,cond_false,Option.bind_some,Bool.false_and,Bool.false_eq_true,if_false,w1,w2,w3,cond_true,Int.toNat_natCast,w4]
        exact sgn
theorem lexS_blanks (l:List UInt8):lexS (l.dropWhile (inK [5]))=lexS l:=by
  rw [dropWhile_congr inK_blank]
  induction l with
  |nil=>rfl
  |cons c l ih=>
    by_cases h:c=32
    · subst h
      rw [List.dropWhile_cons,if_pos (by decide),ih,lexS_blank]
    · rw [List.dropWhile_cons,if_neg (by simpa using h)]
theorem head_blanks (l:List UInt8):(l.dropWhile (inK [5])).head?≠some 32:=by
  rw [dropWhile_congr inK_blank]
  induction l with
  |nil=>simp
  |cons c l ih=>
    by_cases h:c=32
    · subst h
      rw [List.dropWhile_cons,if_pos (by decide)]
      exact ih
    · rw [List.dropWhile_cons,if_neg (by simpa using h)]
      simpa using h
def lexR (out:List Tok):Option (List Tok)→Int×List Tok×Unit
  |none=>(60,[],())
  |some l=>(0,out++l,())
theorem lex_s (s : ByteArray) : lex_Lex.F (s,()) = some (if 20000 < s.size then (60,[],()) else lexR [] (lexS s.data.toList)) := by
  rw [lex_Lex.eq]
  unfold lex_Lex.B
  simp only []
  by_cases hb:20000<s.size
  · have:decide ((s.size:Int)>(20000:Int))=true:=by simp;omega
    simp only [this,cond_true,if_pos hb]
  · have:decide ((s.size:Int)>(20000:Int))=false:=by simp;omega
    simp only [this,cond_false,if_neg hb]
    have hs:s.size≤100000000:=by omega
    obtain ⟨j,g1,g2,g3,g4⟩:=run_s [5] (by decide) s hs 0 (by omega)
    have g4':lex_scanner_run.F ([(5:Int)],s,(0:Int),())=some (bs ((lst s 0).takeWhile (inK [5])),s,(j:Int),()):=g4
    rw [g4']
    simp only [Option.bind_some]
    rw [loop_f (m:=fun x=>s.size-x.2.2.1.toNat)
      (I:=fun x=>x.2.1=s∧∃k:Nat,x.2.2.1=(k:Int)∧k≤s.size∧x.1.length≤k∧(lst s k).head?≠some 32)
      (f:=fun x=>lexR x.1 (lexS (lst s x.2.2.1.toNat))) ?_ _ ⟨rfl,j,rfl,g2,by simp,by rw [g3];exact head_blanks _⟩]
    · simp only [Int.toNat_natCast]
      rw [g3,lexS_blanks]
      rfl
    · rintro ⟨out,a,b,⟨⟩⟩ ⟨ha,k,hk,hle,hlen,hh⟩
      simp only at ha hk hlen
      subst ha
      subst hk
      simp only [Int.toNat_natCast]
      by_cases hlt:k<a.size
      · obtain ⟨c,r,e⟩:=lst_at hlt
        have d1:decide ((k:Int)<(a.size:Int))=true:=by simp;omega
        have hc:c≠32:=by rw [e] at hh;simpa using hh
        have ht:=token_s a hs k e
        simp only [d1,cond_true]
        rw [e,lexS_cons r hc]
        cases hx:tokS (c::r) with
        |none=>
          rw [hx] at ht
          obtain ⟨_,_,_,_,_,_,g⟩:=ht
          right
          rw [g]
          rfl
        |some x=>
          rw [hx] at ht
          obtain ⟨m,t1,t2,t3,t4⟩:=ht
          left
          obtain ⟨n,r1,r2,r3,r4⟩:=run_s [5] (by decide) a hs m t2
          rw [t4]
          have d2:Nat.ble (out.length+ [(x.1.1,(x.1.2.1,(x.1.2.2.1,(x.1.2.2.2.1,x.1.2.2.2.2))))].length) 2513169434916=true:=by
            rw [Nat.ble_eq];simp;omega
          simp only [Option.bind_some,Bool.not_true,cond_false]
          rw [d2]
          simp only [cond_true,r4,Option.bind_some]
          refine ⟨_,rfl,⟨rfl,n,rfl,r2,by simp;omega,by rw [r3];exact head_blanks _⟩,by simp only [Int.toNat_natCast];omega,?_⟩
          simp only [Int.toNat_natCast,r3,t3,lexS_blanks]
          cases lexS x.2 with
          |none=>rfl
          |some l=>simp [lexR]
      · right
        have hd:decide ((k:Int)<(a.size:Int))=false:=by simp;omega
        have:lst a k=[]:=by
          have:=lst_len a k
          exact List.length_eq_zero_iff.1 (by omega)
        rw [this]
        simp only [hd,cond_false,lexS_nil,lexR,List.append_nil]
theorem takeWhile_self {p:UInt8→Bool} (l:List UInt8):decide (l.takeWhile p=l)=l.all p:=by
  induction l with
  |nil=>simp
  |cons c l ih=>
    simp only [List.takeWhile_cons,List.all_cons]
    cases h:p c with
    |true=>simp [←ih]
    |false=>simp
theorem Word_s (b : ByteArray) : lex_Word.F (b,()) = some (isWord b,()) := by
  rw [lex_Word.eq]
  unfold lex_Word.B isWord
  have hb:b=bs b.data.toList:=(bs_data b).symm
  generalize hl:b.data.toList=l at hb
  subst hb
  rw [bs_list] at hl
  simp only [show (⟨#[]⟩:ByteArray)=bs [] from rfl,beq_bs,bs_size]
  cases l with
  |nil=>simp [isWordL]
  |cons c l=>
    simp only [isWordL]
    have e0:decide (c::l=([]:List UInt8))=false:=by simp
    simp only [e0,cond_false]
    by_cases h30:(c::l).length≤30
    · have e1:decide ((((c::l).length:Nat):Int)>(30:Int))=false:=by rw [decide_eq_false_iff_not];omega
      have e2:(decide (0≤(0:Int))&&decide ((0:Int)<(((c::l).length:Nat):Int)))=true:=by simp
      have hst:lst (bs (c::l)) 0=c::l:=rfl
      have e3:byteAt (bs (c::l)) 0=(c.toNat:Int):=(lst_cons hst).2.2
      simp only [e1,cond_false,e2,cond_true,e3,of_s,Option.bind_some,bne,cls_letter]
      cases hc:letter c with
      |false=>simp
      |true=>
        simp only [Bool.not_true,cond_false,Option.bind_some]
        obtain ⟨j,g1,g2,g3,g4⟩:=run_s [1,2,3] (by decide) (bs (c::l)) (by rw [bs_size];omega) 0 (by omega)
        have g4':lex_scanner_run.F ([(1:Int),(2:Int),(3:Int)],bs (c::l),(0:Int),())=some (bs ((lst (bs (c::l)) 0).takeWhile (inK [1,2,3])),bs (c::l),(j:Int),()):=g4
        rw [g4',hst,takeWhile_congr inK_word]
        simp only [Option.bind_some,beq_bs,takeWhile_self,Bool.true_and]
        simp only [h30,decide_true,Bool.and_true]
    · have e1:decide ((((c::l).length:Nat):Int)>(30:Int))=true:=by rw [decide_eq_true_eq];omega
      simp only [e1,cond_true,Option.bind_some,h30,decide_false,Bool.and_false]
def idxOf (b:ByteArray):Int→List ByteArray→Int
  |_,[]=>-1
  |i,k::l=>if b=k then i else idxOf b (i+1) l
theorem idxOf_any (b:ByteArray):∀(l:List ByteArray) (i:Int),0≤i→decide (idxOf b i l≥0)=l.any fun k=>decide (k=b):=by
  intro l
  induction l with
  |nil=>intro i _;rfl
  |cons k l ih=>
    intro i hi
    rw [List.any_cons]
    by_cases h:b=k
    · have:idxOf b i (k::l)=i:=by simp [idxOf,h]
      rw [show decide (idxOf b i (k::l)≥0)=decide (i≥0) by rw [this]]
      simp [h,hi]
    · have:¬k=b:=fun e=>h e.symm
      have e:idxOf b i (k::l)=idxOf b (i+1) l:=by simp [idxOf,h]
      rw [show decide (idxOf b i (k::l)≥0)=decide (idxOf b (i+1) l≥0) by rw [e],ih _ (by omega)];simp [this]
theorem Index_s (l : List ByteArray) (hl : l.length < 1000) (b : ByteArray) : slices_Index_sl_string_string.F (l,b,()) = some (idxOf b 0 l,()) := by
  rw [slices_Index_sl_string_string.eq]
  unfold slices_Index_sl_string_string.B
  simp only []
  rw [loop_f (m:=fun x=>l.length-x.1.toNat) (I:=fun x=>∃k:Nat,x.1=(k:Int)∧k≤l.length) (f:=fun x=>(idxOf b x.1 (l.drop x.1.toNat),())) ?_ _ ⟨0,rfl,by omega⟩]
  · simp
  · rintro ⟨x,⟨⟩⟩ ⟨k,hk,hle⟩
    simp only at hk
    subst hk
    simp only [Int.toNat_natCast]
    by_cases hlt:k<l.length
    · have d1:decide ((k:Int)<(l.length:Int))=true:=by simp;omega
      have d0:decide (0≤(k:Int))=true:=by simp
      simp only [d1,d0,Bool.and_self,cond_true,getD_at hlt,beq_bytes,wrap_s hlt (show l.length<9223372036854775808 by omega)]
      rw [List.drop_eq_getElem_cons hlt,idxOf]
      by_cases he:b=l[k]
      · right
        simp only [he,decide_true,cond_true,if_true]
      · left
        simp only [he,decide_false,cond_false,if_false]
        refine ⟨_,rfl,⟨k+1,rfl,by omega⟩,by simp only [Int.toNat_natCast];omega,?_⟩
        simp only [Int.toNat_natCast]
        rfl
    · right
      have d1:decide ((k:Int)<(l.length:Int))=false:=by simp;omega
      simp only [d1,cond_false]
      rw [List.drop_eq_nil_of_le (by omega)]
      rfl
theorem Name_s (b:ByteArray):ddl_Name.F (b,())=some (isName b,()):=by
  rw [ddl_Name.eq]
  unfold ddl_Name.B isName
  simp only [Word_s,Option.bind_some]
  cases isWord b with
  |false=>rfl
  |true=>
    have hk:ddl_keywords.F ()=some (keywords,()):=by rw [ddl_keywords.eq];rfl
    have h1:=Index_s keywords (by decide) b
    have h2:=idxOf_any b keywords 0 (by decide)
    have hc:slices_Contains_sl_string_string.F (keywords,b,())=some (keywords.any fun k=>decide (k=b),()):=by
      rw [slices_Contains_sl_string_string.eq]
      unfold slices_Contains_sl_string_string.B
      simp only [h1,Option.bind_some,h2]
    simp only [cond_true,hk,Option.bind_some,hc,Bool.true_and]
end Go.Proofs.Ytleadolkcmagfaa
end
section
namespace Go.Proofs.Ytleadolkcmagfaa
open Go Lv Go.Proofs Go.RowKit Go.Shelf Dl
def res {α β:Type} (f:α→List Tok→β):Option (α×List Tok)→β⊕Int
  |some x=> .inl (f x.1 x.2)
  |none=> .inr 70
@[simp] theorem res_some {α β : Type} (f : α → List Tok → β) (x : α × List Tok) : res f (some x) = .inl (f x.1 x.2) := rfl
@[simp] theorem res_none {α β : Type} (f : α → List Tok → β) : res f none = (.inr 70 : β ⊕ Int) := rfl
theorem need_s (b:Bool):ddl_need.F (b,())=some (bif b then .inl () else .inr 70):=by
  rw [ddl_need.eq]
  cases b<;>rfl
theorem is_go (ws : List ByteArray) (hw : ws.length < 1000) (l : List Tok) (hl : l.length ≤ 100000000) : ddl_parser_is.F (ws,l,()) = some ((tkL ws l).isSome,l,()) := by
  rw [ddl_parser_is.eq]
  unfold ddl_parser_is.B
  simp only []
  rw [loop_f (m:=fun x=>ws.length-x.1.toNat) (I:=fun x=>∃k:Nat,x.1=(k:Int)∧k≤ws.length) (f:=fun x=>((tkL (ws.drop x.1.toNat) (l.drop x.1.toNat)).isSome,l,())) ?_ _ ⟨0,rfl,by omega⟩]
  · simp
  · rintro ⟨x,⟨⟩⟩ ⟨k,hk,hle⟩
    simp only at hk
    subst hk
    simp only [Int.toNat_natCast]
    by_cases hlt:k<ws.length
    · have d1:decide ((k:Int)<(ws.length:Int))=true:=by simp;omega
      have d0:decide (0≤(k:Int))=true:=by simp
      simp only [d1,d0,Bool.and_self,cond_true,getD_at hlt]
      rw [List.drop_eq_getElem_cons hlt]
      by_cases hkl:k<l.length
      · have d2:decide ((k:Int)≥(l.length:Int))=false:=by simp;omega
        have d3:decide ((k:Int)<(l.length:Int))=true:=by simp;omega
        simp only [d2,d3,cond_false,Bool.true_and,cond_true,getD_at hkl,beq_bytes]
        rw [List.drop_eq_getElem_cons hkl]
        simp only [tkL,tk]
        by_cases h1:l[k].1=1
        · right
          have:(l[k].1==(1:Int))=true:=by simp [h1]
          simp only [this,cond_true]
          simp [h1]
        · have e1:(l[k].1==(1:Int))=false:=by simp [h1]
          by_cases h2:l[k].2.1=ws[k]
          · left
            simp only [e1,h2,decide_true,Bool.not_true,cond_false,wrap_s hlt (show ws.length<9223372036854775808 by omega)]
            refine ⟨_,rfl,⟨k+1,rfl,by omega⟩,by simp only [Int.toNat_natCast];omega,?_⟩
            simp [h1]
          · right
            simp only [e1,h2,decide_false,Bool.not_false,cond_false,cond_true]
            simp
      · right
        have d2:decide ((k:Int)≥(l.length:Int))=true:=by simp;omega
        simp only [d2,cond_true]
        rw [List.drop_eq_nil_of_le (show l.length≤k by omega)]
        rfl
    · right
      have d1:decide ((k:Int)<(ws.length:Int))=false:=by simp;omega
      simp only [d1,cond_false]
      rw [List.drop_eq_nil_of_le (by omega)]
      rfl
theorem tkL_len:∀(ws:List ByteArray) (l r:List Tok),tkL ws l=some r→r=l.drop ws.length∧ws.length≤l.length:=by
  intro ws
  induction ws with
  |nil=>intro l r h;cases h;simp
  |cons w ws ih=>
    intro l r h
    simp only [tkL,Option.bind_eq_some_iff] at h
    obtain ⟨m,hm,h⟩:=h
    obtain ⟨e,hl⟩:=ih m r h
    cases l with
    |nil=>cases hm
    |cons t l=>
      simp only [tk] at hm
      split at hm
      · cases hm;exact ⟨by simpa using e,by simp;omega⟩
      · cases hm
theorem take_go (ws:List ByteArray) (hw:ws.length<1000) (l:List Tok) (hl:l.length≤100000000):ddl_parser_take.F (ws,l,())=some ((tkL ws l).isSome,(tkL ws l).getD l,()):=by
  rw [ddl_parser_take.eq]
  unfold ddl_parser_take.B
  simp only [is_go ws hw l hl,Option.bind_some]
  cases h:tkL ws l with
  |none=>simp
  |some r=>
    obtain ⟨e,h2⟩:=tkL_len ws l r h
    have d:(decide (0≤(ws.length:Int))&&(decide ((ws.length:Int)≤(l.length:Int))&&decide ((l.length:Int)≤(l.length:Int))))=true:=by simp;omega
    simp only [Option.isSome_some,Bool.not_true,cond_false,d,cond_true,Int.toNat_natCast,List.take_length]
    rw [←e]
    rfl
theorem tkL_one (s:ByteArray) (l:List Tok):tkL [s] l=tk s l:=by
  simp only [tkL]
  cases tk s l<;>rfl
theorem take_s (s:ByteArray) (l:List Tok) (hl:l.length≤100000000):ddl_parser_take.F ([s],l,())=some ((tk s l).isSome,(tk s l).getD l,()):=by
  rw [take_go [s] (by simp) l hl,tkL_one]
theorem is_s (s:ByteArray) (l:List Tok) (hl:l.length≤100000000):ddl_parser_is.F ([s],l,())=some ((tk s l).isSome,l,()):=by
  rw [is_go [s] (by simp) l hl,tkL_one]
theorem one_s (ws : List ByteArray) (hw : ws.length < 1000) (l : List Tok) (hl : l.length ≤ 100000000) : ddl_parser_one.F (ws,l,()) = some (res (fun i r => (i,r,())) (oneS 0 ws l)) := by
  rw [ddl_parser_one.eq]
  unfold ddl_parser_one.B
  simp only []
  rw [loop_f (S:=Int×(List tTokT)×Unit) (m:=fun x=>ws.length-x.1.toNat) (I:=fun x=>x.2.1=l∧∃k:Nat,x.1=(k:Int)∧k≤ws.length)
    (f:=fun x=>match oneS x.1 (ws.drop x.1.toNat) l with|some y=> .inr (.inl (y.1,y.2,()))|none=> .inl (l,())) ?_ _ ⟨rfl,0,rfl,by omega⟩]
  · simp only [Option.bind_some,Int.toNat_zero,List.drop_zero]
    cases oneS 0 ws l with
    |none=>simp only [need_s];rfl
    |some y=>rfl
  · rintro ⟨x,a,⟨⟩⟩ ⟨ha,k,hk,hle⟩
    simp only at hk ha
    subst hk
    subst ha
    simp only [Int.toNat_natCast]
    by_cases hlt:k<ws.length
    · have d1:decide ((k:Int)<(ws.length:Int))=true:=by simp;omega
      have d0:decide (0≤(k:Int))=true:=by simp
      simp only [d1,d0,Bool.and_self,cond_true,getD_at hlt,take_s _ a hl,Option.bind_some]
      rw [List.drop_eq_getElem_cons hlt]
      simp only [oneS]
      cases h:tk ws[k] a with
      |some r=>right;simp
      |none=>
        left
        simp only [Option.isSome_none,cond_false,Option.getD_none,wrap_s hlt (show ws.length<9223372036854775808 by omega)]
        refine ⟨_,rfl,⟨rfl,k+1,rfl,by omega⟩,by simp only [Int.toNat_natCast];omega,?_⟩
        simp only [Int.toNat_natCast]
        rfl
    · right
      have d1:decide ((k:Int)<(ws.length:Int))=false:=by simp;omega
      simp only [d1,cond_false]
      rw [List.drop_eq_nil_of_le (by omega)]
      rfl
theorem next_nil:ddl_parser_next.F ([],())=some (.inr 70):=by
  rw [ddl_parser_next.eq]
  unfold ddl_parser_next.B
  simp only [need_s]
  rfl
theorem next_cons (t:Tok) (l:List Tok) (hl:(t::l).length≤100000000):ddl_parser_next.F (t::l,())=some (.inl (t.1,t.2.1,t.2.2.1,t.2.2.2.1,t.2.2.2.2,l,())):=by
  rw [ddl_parser_next.eq]
  unfold ddl_parser_next.B
  have d1:decide (((t::l).length:Int)>(0:Int))=true:=by rw [decide_eq_true_eq];simp only [List.length_cons];omega
  have d2:(decide (0≤(0:Int))&&decide ((0:Int)<((t::l).length:Int)))=true:=by simp only [Bool.and_eq_true,decide_eq_true_eq,List.length_cons];omega
  have d3:(decide (0≤(1:Int))&&(decide ((1:Int)≤((t::l).length:Int))&&decide (((t::l).length:Int)≤((t::l).length:Int))))=true:=by simp only [Bool.and_eq_true,decide_eq_true_eq,List.length_cons];omega
  simp only [d1,need_s,cond_true,Option.bind_some,d2,d3,Int.toNat_natCast,List.take_length]
  rfl
theorem name_s (l:List Tok) (hl:l.length≤100000000):ddl_parser_name.F (l,())=some (res (fun a r=>(a,r,())) (nameS l)):=by
  rw [ddl_parser_name.eq]
  unfold ddl_parser_name.B
  cases l with
  |nil=>simp only [next_nil];rfl
  |cons t l=>
    simp only [next_cons t l hl,Option.bind_some,Name_s,need_s,nameS]
    by_cases h:t.1=0
    · have:(t.1==(0:Int))=true:=by simp [h]
      simp only [this,cond_true,h,true_and]
      cases hn:isName t.2.1<;>simp
    · have:(t.1==(0:Int))=false:=by simp [h]
      simp only [this,cond_false,h,false_and,if_false]
      rfl
theorem col_s (l : List Tok) (hl : l.length ≤ 100000000) : ddl_parser_col.F (l,()) = some (res (fun a r => (a,r,())) (colS l)) := by
  rw [ddl_parser_col.eq]
  unfold ddl_parser_col.B
  cases l with
  |nil=>simp only [next_nil];rfl
  |cons t l=>
    simp only [next_cons t l hl,Option.bind_some,need_s,colS]
    by_cases h1:t.1=1
    · have b1:(t.1==(1:Int))=true:=by simp [h1]
      by_cases h2:t.2.2.1=2
      · have b2:(t.2.2.1==(2:Int))=true:=by simp [h2]
        by_cases h3:0≤t.2.2.2.1
        · have b3:decide (t.2.2.2.1≥(0:Int))=true:=by simp;exact h3
          by_cases h4:t.2.2.2.1≤99
          · simp [b1,b2,b3,h1,h2,h3,h4]
          · simp [b1,b2,b3,h1,h2,h3,h4]
        · have b3:decide (t.2.2.2.1≥(0:Int))=false:=by simp;omega
          simp only [b1,b2,b3,cond_true,cond_false,Option.bind_some]
          simp [h3]
      · have b2:(t.2.2.1==(2:Int))=false:=by simp [h2]
        simp only [b1,b2,cond_true,cond_false,Option.bind_some]
        simp [h2]
    · have b1:(t.1==(1:Int))=false:=by simp [h1]
      simp only [b1,cond_false,Option.bind_some]
      simp [h1]
theorem getKV_put {α : Type} (k a : ByteArray) (x : α) : ∀ m : List (ByteArray × α),getKV k (putKV a x m) = if k = a then some x else getKV k m := by
  intro m
  induction m with
  |nil=>
    simp only [putKV,getKV]
    by_cases h:a=k
    · simp [h]
    · have:¬k=a:=fun e=>h e.symm
      simp [h,this]
  |cons y m ih=>
    obtain ⟨b,z⟩:=y
    simp only [putKV]
    by_cases h:b=a
    · subst h
      simp only [if_true,getKV]
      by_cases h2:b=k
      · simp [h2]
      · have:¬k=b:=fun e=>h2 e.symm
        simp [h2,this]
    · simp only [if_neg h,getKV,ih]
      by_cases h2:b=k
      · subst h2;simp [h]
      · simp [h2]
theorem getKV_nil {α:Type} (k:ByteArray):getKV k ([]:List (ByteArray×α))=none:=rfl
def cutC:List UInt8→ByteArray×Bool×Unit
  | []=>(bs [],false,())
  |c::d=>if c=99 then (bs d,true,()) else (bs (c::d),false,())
theorem cut_s (l : List UInt8) (hl : l.length ≤ 100000000) : strings_CutPrefix.F (bs l,(⟨#[99]⟩ : ByteArray),()) = some (cutC l) := by
  have hp:internal_stringslite_HasPrefix.F (bs l,(⟨#[99]⟩:ByteArray),())=some (decide (l.head?=some 99),()):=by
    rw [internal_stringslite_HasPrefix.eq]
    unfold internal_stringslite_HasPrefix.B
    have hc:(⟨#[99]⟩:ByteArray).size=1:=rfl
    simp only [bs_size,hc]
    cases l with
    |nil=>rfl
    |cons c d=>
      have d1:decide ((((c::d).length:Nat):Int)≥((1:Nat):Int))=true:=by rw [decide_eq_true_eq];simp only [List.length_cons];omega
      have d2:(decide (0≤(0:Int))&&(decide ((0:Int)≤((1:Nat):Int))&&decide (((1:Nat):Int)≤(((c::d).length:Nat):Int))))=true:=by simp only [Bool.and_eq_true,decide_eq_true_eq,List.length_cons];omega
      simp only [d1,d2,cond_true,Int.toNat_natCast]
      rw [show (bs (c::d)).extract (Int.toNat 0) 1=bs [c] by rw [show Int.toNat 0=0 from rfl,ext_bs _ 0 1 (by omega)];simp [lst],show (⟨#[99]⟩:ByteArray)=bs [99] from rfl,beq_bs]
      simp
  have hq:internal_stringslite_CutPrefix.F (bs l,(⟨#[99]⟩:ByteArray),())=some (cutC l):=by
    rw [internal_stringslite_CutPrefix.eq]
    unfold internal_stringslite_CutPrefix.B
    simp only [hp,Option.bind_some]
    cases l with
    |nil=>rfl
    |cons c d=>
      by_cases h:c=99
      · subst h
        have hc:(⟨#[99]⟩:ByteArray).size=1:=rfl
        have d2:(decide (0≤((1:Nat):Int))&&(decide (((1:Nat):Int)≤(((99::d).length:Nat):Int))&&decide ((((99::d).length:Nat):Int)≤(((99::d).length:Nat):Int))))=true:=by simp only [Bool.and_eq_true,decide_eq_true_eq,List.length_cons];omega
        simp only [List.head?_cons,decide_true,Bool.not_true,cond_false,hc,bs_size,d2,cond_true,Int.toNat_natCast,if_true]
        rw [ext_bs _ 1 _ (by simp only [List.length_cons];omega)]
        simp [lst,cutC]
      · simp [h,cutC]
  rw [strings_CutPrefix.eq]
  unfold strings_CutPrefix.B
  simp only [hq,Option.bind_some]
theorem column_s (l : List UInt8) (hl : l.length ≤ 100000000) : ∃ n,ddl_column.F (bs l,()) = some (n,(colP l).isSome,()) ∧ ∀ m,colP l = some m → n = m := by
  rw [ddl_column.eq]
  unfold ddl_column.B
  simp only [cut_s l hl,Option.bind_some]
  have at_s:∀w:List UInt8,w.length≤100000000→strconv_Atoi.F (bs w,())=some ((atoiR (bs w)).1,(atoiR (bs w)).2,()):=fun w hw=>by
    rw [strconv_Atoi.eq]
    show atoiF (bs w,())=_
    unfold atoiF
    simp only
    rw [if_pos (by rw [bs_size];omega)]
  cases l with
  |nil=>
    show ∃n,Option.bind (strconv_Atoi.F (bs [],())) _=_∧_
    rw [atoi_b [] (by simp)]
    exact ⟨_,rfl,fun m h=>by cases h⟩
  |cons c d=>
    simp only [colP,cutC]
    by_cases h:c=99
    · subst h
      simp only [if_true]
      rw [atoi_b d (by simp only [List.length_cons] at hl;omega)]
      simp only [cond_true]
      unfold atoiR
      simp only [bs_list]
      cases ha:Lib.atoiAll d with
      |ok v=>
        obtain ⟨b1,b2⟩:=itoa_bound ha
        simp only [cond_true]
        by_cases h99:v≤99
        · have:decide (v≤(99:Int))=true:=by simp [h99]
          simp only [this,cond_true]
          rw [itoa_b v b1 b2]
          simp only [beq_bs]
          by_cases hi:Lib.itoa v=d
          · refine ⟨v,?_,?_⟩
            · simp [hi,h99]
            · intro m hm;simp [hi,h99] at hm;exact hm
          · exact ⟨v,by simp [hi,h99],fun m hm=>by simp [hi] at hm⟩
        · have:decide (v≤(99:Int))=false:=by simp;omega
          simp only [this,cond_false]
          exact ⟨v,by simp [h99],fun m hm=>by simp [h99] at hm⟩
      |_=>exact ⟨_,rfl,fun m hm=>by cases hm⟩
    · simp only [if_neg h]
      rw [atoi_b (c::d) (by omega)]
      exact ⟨_,rfl,fun m hm=>by cases hm⟩
end Go.Proofs.Ytleadolkcmagfaa
end
section
namespace Go.Proofs.Ytleadolkcmagfaa
open Go Lv Go.Proofs Go.RowKit Go.Shelf Dl
abbrev TokSm (l:List Tok):Prop:=l.length≤100000000∧∀t∈l,t.2.1.size≤100000000
theorem opKV_eq (b:ByteArray):getKV b (putKV (⟨#[110,111,116]⟩:ByteArray) (9:Int) (putKV (⟨#[111,114]⟩:ByteArray) (8:Int) (putKV (⟨#[97,110,100]⟩:ByteArray) (7:Int) (putKV (⟨#[60]⟩:ByteArray) (6:Int) (putKV (⟨#[61]⟩:ByteArray) (5:Int) (putKV (⟨#[42]⟩:ByteArray) (4:Int) (putKV (⟨#[45]⟩:ByteArray) (3:Int) (putKV (⟨#[43]⟩:ByteArray) (2:Int) ([]:List (ByteArray×Int))))))))))=opOf b:=by
  simp only [opOf,getKV_put,getKV_nil]
theorem coKV_eq (b:ByteArray):getKV b (putKV (⟨#[116,114,117,101]⟩:ByteArray) ((1:Int),((1:Int),(⟨#[]⟩:ByteArray))) (putKV (⟨#[102,97,108,115,101]⟩:ByteArray) ((1:Int),((0:Int),(⟨#[]⟩:ByteArray))) (putKV (⟨#[110,117,108,108]⟩:ByteArray) ((0:Int),((0:Int),(⟨#[]⟩:ByteArray))) ([]:List (ByteArray×tValueT)))))=constOf b:=by
  simp only [constOf,getKV_put,getKV_nil]
theorem step_s (l : List Tok) (hl : TokSm l) : ddl_parser_step.F (l,()) = some (res (fun x r => (x.1,x.2.1,x.2.2.1,x.2.2.2.1,x.2.2.2.2,r,())) (stepS l)) := by
  rw [ddl_parser_step.eq]
  unfold ddl_parser_step.B
  simp only [agreeL_one,agreeL_two,agreeL_three,take_go [(⟨#[110,117,108,108]⟩:ByteArray),(⟨#[63]⟩:ByteArray)] (by decide) l hl.1,Option.bind_some,stepS]
  cases h:tkL [(⟨#[110,117,108,108]⟩:ByteArray),(⟨#[63]⟩:ByteArray)] l with
  |some r=>rfl
  |none=>
    simp only [Option.isSome_none,cond_false,Option.getD_none]
    cases l with
    |nil=>simp only [next_nil];rfl
    |cons t l=>
      simp only [next_cons t l hl.1,Option.bind_some]
      by_cases h1:t.1=1
      · have b1:(t.1==(1:Int))=true:=by simp [h1]
        simp only [b1,cond_true,h1,if_true]
        rfl
      · have b1:(t.1==(1:Int))=false:=by simp [h1]
        simp only [b1,cond_false,if_neg h1]
        simp only [opKV_eq,coKV_eq]
        cases ho:opOf t.2.1 with
        |some op=>rfl
        |none=>
          simp only [Option.isSome_none,cond_false]
          cases hc:constOf t.2.1 with
          |some v=>rfl
          |none=>
            simp only [Option.isSome_none,cond_false]
            obtain ⟨n,e1,e2⟩:=column_s t.2.1.data.toList (hl.2 t (by simp))
            rw [bs_data] at e1
            simp only [e1,Option.bind_some,need_s]
            cases hp:colP t.2.1.data.toList with
            |none=>rfl
            |some m=>
              rw [e2 m hp]
              rfl
theorem TokSm.suf {l r:List Tok} (h:TokSm l) (hs:r<:+l):TokSm r:=⟨Nat.le_trans hs.length_le h.1,fun x hx=>h.2 x (hs.subset hx)⟩
theorem tk_suf {s:ByteArray} {l r:List Tok} (h:tk s l=some r):r<:+l:=by
  cases l with
  |nil=>cases h
  |cons t l=>
    simp only [tk] at h
    split at h
    · cases h;exact List.suffix_cons _ _
    · cases h
theorem tkL_suf:∀{ws:List ByteArray} {l r:List Tok},tkL ws l=some r→r<:+l:=by
  intro ws l r h
  rw [(tkL_len ws l r h).1]
  exact List.drop_suffix _ _
theorem oneS_suf:∀{ws:List ByteArray} {i:Int} {l:List Tok} {x},oneS i ws l=some x→x.2<:+l:=by
  intro ws
  induction ws with
  |nil=>intro i l x h;cases h
  |cons w ws ih=>
    intro i l x h
    simp only [oneS] at h
    split at h
    · rename_i r hr;cases h;exact tk_suf hr
    · exact ih h
theorem nameS_suf {l:List Tok} {x} (h:nameS l=some x):x.2<:+l:=by
  cases l with
  |nil=>cases h
  |cons t l=>
    simp only [nameS] at h
    split at h
    · cases h;exact List.suffix_cons _ _
    · cases h
theorem colS_suf {l:List Tok} {x} (h:colS l=some x):x.2<:+l:=by
  cases l with
  |nil=>cases h
  |cons t l=>
    simp only [colS] at h
    split at h
    · cases h;exact List.suffix_cons _ _
    · cases h
theorem stepS_suf {l : List Tok} {x} (h : stepS l = some x) : x.2 <:+ l := by
  simp only [stepS] at h
  split at h
  · rename_i r hr;cases h;exact tkL_suf hr
  · cases l with
    |nil=>cases h
    |cons t l=>
      simp only at h
      split at h
      · cases h;exact List.suffix_cons _ _
      · split at h
        · cases h;exact List.suffix_cons _ _
        · split at h
          · cases h;exact List.suffix_cons _ _
          · simp only [Option.map_eq_some_iff] at h
            obtain ⟨n,_,rfl⟩:=h
            exact List.suffix_cons _ _
theorem stepsS_eq (n:Nat) (l:List Tok):stepsS n l=match tk (⟨#[93]⟩:ByteArray) l with
    |some r=>some ([],r)
    |none=>match n with
      |0=>none
      |n+1=>(stepS l).bind fun x=>(stepsS n x.2).map fun y=>(x.1::y.1,y.2):=by rw [stepsS.eq_def];try (cases n<;>rfl)
theorem stepsS_suf:∀{n:Nat} {l:List Tok} {x},stepsS n l=some x→x.2<:+l:=by
  intro n
  induction n with
  |zero=>
    intro l x h
    rw [stepsS_eq] at h
    split at h
    · rename_i r hr;cases h;exact tk_suf hr
    · cases h
  |succ n ih=>
    intro l x h
    rw [stepsS_eq] at h
    split at h
    · rename_i r hr;cases h;exact tk_suf hr
    · simp only [Option.bind_eq_some_iff,Option.map_eq_some_iff] at h
      obtain ⟨y,hy,z,hz,rfl⟩:=h
      exact (ih hz).trans (stepS_suf hy)
theorem exprS_suf {l:List Tok} {x} (h:exprS l=some x):x.2<:+l:=by
  simp only [exprS,Option.bind_eq_some_iff] at h
  obtain ⟨r,hr,h⟩:=h
  exact (stepsS_suf h).trans (tk_suf hr)
theorem expr_s (l : List Tok) (hl : TokSm l) : ddl_parser_expr.F (l,()) = some (res (fun x r => (r,x,())) (exprS l)) := by
  rw [ddl_parser_expr.eq]
  unfold ddl_parser_expr.B
  simp only [take_s _ l hl.1,Option.bind_some,need_s,exprS]
  cases h:tk (⟨#[91]⟩:ByteArray) l with
  |none=>rfl
  |some r=>
    simp only [Option.isSome_some,cond_true,Option.getD_some,Option.bind_some]
    have hr:=hl.suf (tk_suf h)
    rw [loop_f (S:=(List tNodeT)×(List tTokT)×Unit) (m:=fun x=>200-x.1.length) (I:=fun x=>x.1.length≤100∧TokSm x.2.1)
      (f:=fun x=>match stepsS (100-x.1.length) x.2.1 with|some y=> .inl (y.2,x.1++y.1,())|none=> .inr 70) ?_ _ ⟨by simp,hr⟩]
    · cases stepsS 100 r<;>rfl
    · rintro ⟨out,q,⟨⟩⟩ ⟨ho,hq⟩
      simp only at ho hq
      simp only [take_s _ q hq.1,Option.bind_some]
      cases h1:tk (⟨#[93]⟩:ByteArray) q with
      |some r1=>
        right
        simp only [Option.isSome_some,Bool.not_true,cond_false,Option.getD_some]
        rw [stepsS_eq,h1]
        simp
      |none=>
        simp only [Option.isSome_none,Bool.not_false,cond_true,Option.getD_none,step_s q hq]
        rw [stepsS_eq,h1]
        cases h2:stepS q with
        |none=>
          right
          simp only [res_none,Option.bind_some]
          cases h3:100-out.length with
          |zero=>rfl
          |succ n=>rfl
        |some x=>
          have d1:Nat.ble (out.length+ [(x.1.1,(x.1.2.1,(x.1.2.2.1,(x.1.2.2.2.1,x.1.2.2.2.2))))].length) 2932031007402=true:=by rw [Nat.ble_eq];simp;omega
          simp only [res_some,Option.bind_some]
          rw [d1]
          simp only [cond_true,need_s,Option.bind_some]
          cases h3:100-out.length with
          |zero=>
            right
            have:decide (((out++ [(x.1.1,(x.1.2.1,(x.1.2.2.1,(x.1.2.2.2.1,x.1.2.2.2.2))))]).length:Int)≤(100:Int))=false:=by simp;omega
            simp only [this,cond_false]
          |succ n=>
            left
            have:decide (((out++ [(x.1.1,(x.1.2.1,(x.1.2.2.1,(x.1.2.2.2.1,x.1.2.2.2.2))))]).length:Int)≤(100:Int))=true:=by simp;omega
            simp only [this,cond_true]
            refine ⟨_,rfl,⟨by simp;omega,hq.suf (stepS_suf h2)⟩,by simp;omega,?_⟩
            simp only [List.length_append,List.length_singleton]
            rw [show 100-(out.length+1)=n by omega]
            cases stepsS n x.2<;>simp
theorem flag_suf (s:ByteArray) (l:List Tok):(flag s l).2<:+l:=by
  unfold flag
  cases h:tk s l with
  |none=>exact List.suffix_refl _
  |some r=>exact tk_suf h
theorem refS_suf {l:List Tok} {x} (h:refS l=some x):x.2<:+l:=by
  unfold refS at h
  split at h
  · cases h;exact List.suffix_refl _
  · rename_i r hr
    simp only [Option.bind_eq_some_iff,Option.map_eq_some_iff] at h
    obtain ⟨y,hy,z,hz,rfl⟩:=h
    exact ((oneS_suf hz).trans (nameS_suf hy)).trans (tk_suf hr)
theorem columnS_suf {l:List Tok} {x} (h:columnS l=some x):x.2<:+l:=by
  simp only [columnS,Option.bind_eq_some_iff,Option.map_eq_some_iff] at h
  obtain ⟨y,hy,z,hz,u,hu,rfl⟩:=h
  exact ((((refS_suf hu).trans (flag_suf _ _)).trans (flag_suf _ _)).trans (oneS_suf hz)).trans (nameS_suf hy)
theorem oneS_le:∀{ws:List ByteArray} {i:Int} {l:List Tok} {x},oneS i ws l=some x→i≤x.1∧x.1<i+ws.length:=by
  intro ws
  induction ws with
  |nil=>intro i l x h;cases h
  |cons w ws ih=>
    intro i l x h
    simp only [oneS] at h
    split at h
    · cases h;simp;omega
    · have:=ih h
      simp;omega
theorem flag_eq (s:ByteArray) (l:List Tok):((tk s l).isSome,(tk s l).getD l,())=((flag s l).1,(flag s l).2,()):=by
  unfold flag
  cases tk s l<;>rfl
theorem flag_none {s:ByteArray} {l:List Tok} (h:tk s l=none):flag s l=(false,l):=by unfold flag;rw [h]
theorem flag_some {s:ByteArray} {l r:List Tok} (h:tk s l=some r):flag s l=(true,r):=by unfold flag;rw [h]
theorem columnOf_s (l : List Tok) (hl : TokSm l) : ddl_parser_columnOf.F (l,()) = some (res (fun x r => (x.1,x.2.1,x.2.2.1,x.2.2.2.1,x.2.2.2.2.1,x.2.2.2.2.2,r,())) (columnS l)) := by
  rw [ddl_parser_columnOf.eq]
  unfold ddl_parser_columnOf.B
  simp only [name_s l hl.1,Option.bind_some,columnS]
  cases h1:nameS l with
  |none=>rfl
  |some y=>
    have hy:=hl.suf (nameS_suf h1)
    simp only [res_some,Option.bind_some,one_s _ (show [(⟨#[98,111,111,108]⟩:ByteArray),(⟨#[105,110,116]⟩:ByteArray),(⟨#[116,101,120,116]⟩:ByteArray)].length<1000 by decide) y.2 hy.1]
    cases h2:oneS 0 kinds y.2 with
    |none=>rfl
    |some z=>
      have hz:=hy.suf (oneS_suf h2)
      have hb:=oneS_le h2
      have hb2:z.1<0+3:=hb.2
      have hw:IntKind.i64.wrap ((1:Int)+z.1)=1+z.1:=by rw [i64_wrap]<;>omega
      have hu:=hz.suf (flag_suf (⟨#[110,117,108,108]⟩:ByteArray) z.2)
      have hv:=hu.suf (flag_suf (⟨#[117,110,105,113,117,101]⟩:ByteArray) (flag (⟨#[110,117,108,108]⟩:ByteArray) z.2).2)
      simp only [res_some,hw,take_s _ z.2 hz.1,flag_eq,Option.bind_some,take_s _ _ hu.1,take_s _ _ hv.1]
      unfold refS
      cases h3:tk (⟨#[114,101,102]⟩:ByteArray) (flag (⟨#[117,110,105,113,117,101]⟩:ByteArray) (flag (⟨#[110,117,108,108]⟩:ByteArray) z.2).2).2 with
      |none=>
        have hf:flag (⟨#[114,101,102]⟩:ByteArray) (flag (⟨#[117,110,105,113,117,101]⟩:ByteArray) (flag (⟨#[110,117,108,108]⟩:ByteArray) z.2).2).2=(false,(flag (⟨#[117,110,105,113,117,101]⟩:ByteArray) (flag (⟨#[110,117,108,108]⟩:ByteArray) z.2).2).2):=by
          exact flag_none h3
        simp only [hf]
        rfl
      |some r=>
        have hr:=hv.suf (tk_suf h3)
        have hf:flag (⟨#[114,101,102]⟩:ByteArray) (flag (⟨#[117,110,105,113,117,101]⟩:ByteArray) (flag (⟨#[110,117,108,108]⟩:ByteArray) z.2).2).2=(true,r):=by
          exact flag_some h3
        simp only [hf,cond_true,name_s r hr.1,Option.bind_some]
        cases h4:nameS r with
        |none=>rfl
        |some a=>
          have ha:=hr.suf (nameS_suf h4)
          simp only [res_some,one_s _ (show [(⟨#[114,101,115,116,114,105,99,116]⟩:ByteArray),(⟨#[99,97,115,99,97,100,101]⟩:ByteArray),(⟨#[115,101,116,110,117,108,108]⟩:ByteArray)].length<1000 by decide) a.2 ha.1,Option.bind_some]
          cases oneS 0 acts a.2<;>rfl
def tailS {α : Type} (p : List Tok → Option (α × List Tok)) (n : Nat) (l : List Tok) : Option (List α × List Tok) := match tk (⟨#[44]⟩ : ByteArray) l with
  |none=>some ([],l)
  |some r=>match n with
    |0=>none
    |n+1=>sepS p n r
theorem sepS_eq {α:Type} (p:List Tok→Option (α×List Tok)) (n:Nat) (l:List Tok):sepS p n l=(p l).bind fun x=>(tailS p n x.2).map fun y=>(x.1::y.1,y.2):=by
  cases n with
  |zero=>
    rw [sepS]
    cases p l with
    |none=>rfl
    |some x=>simp only [Option.bind_some,tailS];cases tk (⟨#[44]⟩:ByteArray) x.2<;>rfl
  |succ n=>
    rw [sepS]
    cases p l with
    |none=>rfl
    |some x=>simp only [Option.bind_some,tailS];cases tk (⟨#[44]⟩:ByteArray) x.2<;>rfl
theorem sepS_suf {α:Type} {p:List Tok→Option (α×List Tok)} (hp:∀{l x},p l=some x→x.2<:+l):∀{n:Nat} {l:List Tok} {x},sepS p n l=some x→x.2<:+l:=by
  intro n
  induction n with
  |zero=>
    intro l x h
    rw [sepS] at h
    simp only [Option.bind_eq_some_iff] at h
    obtain ⟨y,hy,h⟩:=h
    split at h
    · cases h;exact hp hy
    · cases h
  |succ n ih=>
    intro l x h
    rw [sepS] at h
    simp only [Option.bind_eq_some_iff] at h
    obtain ⟨y,hy,h⟩:=h
    split at h
    · cases h;exact hp hy
    · rename_i r hr
      simp only [Option.map_eq_some_iff] at h
      obtain ⟨z,hz,rfl⟩:=h
      exact ((ih hz).trans (tk_suf hr)).trans (hp hy)
theorem comma_loop {α S R : Type} {body : S → Option (S ⊕ R)} (p : List Tok → Option (α × List Tok)) (hp : ∀ {l x},p l = some x → x.2 <:+ l) (mk : Int → List α → List Tok → S) (fin : List α → List Tok → Option R) (bad : R)
    (h0:∀(k:Nat) acc l,k≤40→acc.length≤k→TokSm l→tk (⟨#[44]⟩:ByteArray) l=none→body (mk k acc l)=Option.map Sum.inr (fin acc l))
    (h1:∀acc l r,acc.length≤40→TokSm l→tk (⟨#[44]⟩:ByteArray) l=some r→body (mk 40 acc l)=some (.inr bad))
    (h2:∀(k:Nat) acc l r,k<40→acc.length≤k→TokSm l→tk (⟨#[44]⟩:ByteArray) l=some r→p r=none→body (mk k acc l)=some (.inr bad))
    (h3:∀(k:Nat) acc l r x,k<40→acc.length≤k→TokSm l→tk (⟨#[44]⟩:ByteArray) l=some r→p r=some x→body (mk k acc l)=some (.inl (mk (k+1:Nat) (acc++ [x.1]) x.2))):
    ∀ (n k : Nat),n + k = 40 → ∀ acc l,acc.length ≤ k → TokSm l → loopM body (mk k acc l) = match tailS p n l with
      |some y=>fin (acc++y.1) y.2
      |none=>some bad:=by
  intro n
  induction n with
  |zero=>
    intro k hk acc l ha hl
    have:k=40:=by omega
    subst this
    rw [loopM_q]
    unfold tailS
    cases h:tk (⟨#[44]⟩:ByteArray) l with
    |none=>
      rw [h0 40 acc l (by omega) ha hl h]
      simp only [List.append_nil]
      cases fin acc l<;>rfl
    |some r=>
      have:=h1 acc l r ha hl h
      rw [show ((40:Nat):Int)=40 from rfl,this]
  |succ n ih=>
    intro k hk acc l ha hl
    rw [loopM_q]
    unfold tailS
    cases h:tk (⟨#[44]⟩:ByteArray) l with
    |none=>
      rw [h0 k acc l (by omega) ha hl h]
      simp only [List.append_nil]
      cases fin acc l<;>rfl
    |some r=>
      simp only
      rw [sepS_eq]
      cases hx:p r with
      |none=>rw [h2 k acc l r (by omega) ha hl h hx];rfl
      |some x=>
        rw [h3 k acc l r x (by omega) ha hl h hx]
        simp only [Option.bind_some]
        rw [ih (k+1) (by omega) _ _ (by simp;omega) (hl.suf ((hp hx).trans (tk_suf h)))]
        cases tailS p n x.2 with
        |none=>rfl
        |some y=>simp
theorem checksS_eq (n:Nat) (l:List Tok):checksS n l=match tk (⟨#[99,104,101,99,107]⟩:ByteArray) l with
    |none=>some ([],l)
    |some r=>match n with
      |0=>none
      |n+1=>(exprS r).bind fun x=>(checksS n x.2).map fun y=>(x.1::y.1,y.2):=by rw [checksS.eq_def];try (cases n<;>rfl)
theorem table_s (l : List Tok) (hl : TokSm l) : ddl_parser_table.F (l,()) = some (res (fun x r => (x.1,r,x.2.1,x.2.2,())) (tableS l)) := by
  rw [ddl_parser_table.eq]
  unfold ddl_parser_table.B
  simp only [agreeL_one,agreeL_two,agreeL_three,name_s l hl.1,Option.bind_some,tableS]
  cases h1:nameS l with
  |none=>rfl
  |some y=>
    have hy:=hl.suf (nameS_suf h1)
    simp only [res_some,Option.bind_some,take_s _ y.2 hy.1,need_s]
    cases h2:tk (⟨#[40]⟩:ByteArray) y.2 with
    |none=>rfl
    |some r=>
      have hr:=hy.suf (tk_suf h2)
      simp only [Option.isSome_some,cond_true,Option.getD_some,Option.bind_some,columnOf_s r hr]
      rw [sepS_eq]
      cases h3:columnS r with
      |none=>rfl
      |some c=>
        have hc:=hr.suf (columnS_suf h3)
        have d1:Nat.ble [(c.1.1,(c.1.2.1,(c.1.2.2.1,(c.1.2.2.2.1,(c.1.2.2.2.2.1,c.1.2.2.2.2.2)))))].length 2513169434916=true:=by rw [Nat.ble_eq];simp
        simp only [res_some,Option.bind_some]
        rw [d1]
        simp only [cond_true,Option.bind_some]
        refine (comma_loop columnS columnS_suf (mk:=fun n acc l=>(n,y.1,acc,[],l,())) (fin:=fun acc l=>some (res (fun x r=>(y.1,r,acc,x,())) ((tk (⟨#[41]⟩:ByteArray) l).bind fun l=>checksS 40 l))) (bad:=.inr 70) ?_ ?_ ?_ ?_ 39 1 rfl [c.1] c.2 (by simp) hc).trans ?_
        · intro k acc q hk ha hq hn
          simp only [take_s _ q hq.1,Option.bind_some,hn,Option.isSome_none,cond_false,Option.getD_none]
          cases h5:tk (⟨#[41]⟩:ByteArray) q with
          |none=>rfl
          |some v=>
            have hv:=hq.suf (tk_suf h5)
            simp only [Option.isSome_some,cond_true,Option.getD_some,Option.bind_some]
            rw [loop_f (S:=(List tTokT)×ByteArray×(List tColumnT)×(List (List tNodeT))×Unit) (m:=fun x=>200-x.2.2.2.1.length) (I:=fun x=>x.2.1=y.1∧x.2.2.1=acc∧x.2.2.2.1.length≤40∧TokSm x.1)
              (f:=fun x=>match checksS (40-x.2.2.2.1.length) x.1 with|some z=> .inl (z.2,y.1,acc,x.2.2.2.1++z.1,())|none=> .inr (.inr 70)) ?_ _ ⟨rfl,rfl,by simp,hv⟩]
            · simp only [List.length_nil,Option.bind_some]
              cases checksS 40 v<;>rfl
            · rintro ⟨q',n',c',out,⟨⟩⟩ ⟨hn',hc',ho,hq'⟩
              simp only at hn' hc' ho hq'
              subst hn'
              subst hc'
              simp only [take_s _ q' hq'.1,Option.bind_some]
              rw [checksS_eq]
              cases h6:tk (⟨#[99,104,101,99,107]⟩:ByteArray) q' with
              |none=>
                right
                simp
              |some r'=>
                have hr':=hq'.suf (tk_suf h6)
                simp only [Option.isSome_some,cond_true,Option.getD_some,expr_s r' hr',Option.bind_some]
                cases h7:exprS r' with
                |none=>
                  right
                  simp only [res_none,Option.bind_some]
                  cases h3:40-out.length with
                  |zero=>rfl
                  |succ n=>rfl
                |some e=>
                  have d2:Nat.ble (out.length+ [e.1].length) 5864062014805=true:=by rw [Nat.ble_eq];simp;omega
                  simp only [res_some]
                  rw [d2]
                  simp only [cond_true,Option.bind_some]
                  cases h3:40-out.length with
                  |zero=>
                    right
                    have:decide (((out++ [e.1]).length:Int)≤(40:Int))=false:=by simp;omega
                    simp only [this,cond_false]
                  |succ n=>
                    left
                    have:decide (((out++ [e.1]).length:Int)≤(40:Int))=true:=by simp;omega
                    simp only [this,cond_true]
                    refine ⟨_,rfl,⟨rfl,rfl,by simp;omega,hr'.suf (exprS_suf h7)⟩,by simp;omega,?_⟩
                    simp only [List.length_append,List.length_singleton]
                    rw [show 40-(out.length+1)=n by omega]
                    cases checksS n e.2<;>simp
        · intro acc q r hk ha hq
          simp only [take_s _ q ha.1,Option.bind_some,hq,Option.isSome_some,cond_true]
          rfl
        · intro k acc q r hk ha hq hr hx
          have hq2:=hq.suf (tk_suf hr)
          have d2:decide (((k+1:Nat):Int)≤(40:Int))=true:=by simp;omega
          simp only [take_s _ q hq.1,Option.bind_some,hr,Option.isSome_some,cond_true,Option.getD_some,wrap_s (show k<40 by omega) (by decide),d2,columnOf_s r hq2,hx,res_none]
        · intro k acc q r x hk ha hq hr hx
          have hq2:=hq.suf (tk_suf hr)
          have d2:decide (((k+1:Nat):Int)≤(40:Int))=true:=by simp;omega
          have d3:Nat.ble (acc.length+ [(x.1.1,(x.1.2.1,(x.1.2.2.1,(x.1.2.2.2.1,(x.1.2.2.2.2.1,x.1.2.2.2.2.2)))))].length) 2513169434916=true:=by rw [Nat.ble_eq];simp;omega
          simp only [take_s _ q hq.1,Option.bind_some,hr,Option.isSome_some,cond_true,Option.getD_some,wrap_s (show k<40 by omega) (by decide),d2,columnOf_s r hq2,hx,res_some]
          rw [d3]
          rfl
        · cases tailS columnS 39 c.2 with
          |none=>rfl
          |some u=>
            simp only [Option.map_some,Option.bind_some,List.cons_append,List.nil_append]
            cases tk (⟨#[41]⟩:ByteArray) u.2 with
            |none=>rfl
            |some v=>simp only [Option.bind_some];cases checksS 40 v<;>rfl
end Go.Proofs.Ytleadolkcmagfaa
end
section
namespace Go.Proofs.Ytleadolkcmagfaa
open Go Lv Go.Proofs Go.RowKit Go.Shelf Dl
theorem bind_is {α β:Type} {x:Option α} {K:α→Option β} (v:α) (h:x=some v):x.bind K=K v:=by rw [h];rfl
theorem joinS_suf {l:List Tok} {x} (h:joinS l=some x):x.2<:+l:=by
  unfold joinS at h
  split at h
  · cases h;exact List.suffix_refl _
  · rename_i r hr
    simp only [Option.bind_eq_some_iff,Option.map_eq_some_iff] at h
    obtain ⟨y,hy,r2,hr2,a,ha,r3,hr3,b,hb,rfl⟩:=h
    exact (((((colS_suf hb).trans (tk_suf hr3)).trans (colS_suf ha)).trans (tk_suf hr2)).trans (nameS_suf hy)).trans (tk_suf hr)
theorem whereS_suf {l:List Tok} {x} (h:whereS l=some x):x.2<:+l:=by
  unfold whereS at h
  split at h
  · cases h;exact List.suffix_refl _
  · rename_i r hr
    exact (exprS_suf h).trans (tk_suf hr)
theorem pickS_suf {l:List Tok} {x} (h:pickS l=some x):x.2<:+l:=by
  unfold pickS at h
  split at h
  · cases h;exact List.suffix_refl _
  · exact sepS_suf colS_suf h
theorem aggS_suf {l:List Tok} {x} (h:aggS l=some x):x.2<:+l:=by
  simp only [aggS,Option.bind_eq_some_iff] at h
  obtain ⟨y,hy,h⟩:=h
  split at h
  · cases h;exact oneS_suf hy
  · simp only [Option.map_eq_some_iff] at h
    obtain ⟨z,hz,rfl⟩:=h
    exact (colS_suf hz).trans (oneS_suf hy)
theorem view_s (l : List Tok) (hl : TokSm l) : ddl_parser_view.F (l,()) = some (res (fun x r => (x.1,x.2.1,x.2.2.1,x.2.2.2.1.1,x.2.2.2.1.2,x.2.2.2.2.2.2.1,r,x.2.2.2.2.1,x.2.2.2.2.2.1,x.2.2.2.2.2.2.2,())) (viewS l)) := by
  rw [ddl_parser_view.eq]
  unfold ddl_parser_view.B
  simp only [agreeL_one,agreeL_two,agreeL_three,name_s l hl.1,Option.bind_some,viewS]
  cases h1:nameS l with
  |none=>rfl
  |some y=>
    have hy:=hl.suf (nameS_suf h1)
    simp only [res_some,Option.bind_some,take_s _ y.2 hy.1,need_s]
    cases h2:tk (⟨#[102,114,111,109]⟩:ByteArray) y.2 with
    |none=>rfl
    |some r=>
      have hr:=hy.suf (tk_suf h2)
      simp only [Option.isSome_some,cond_true,Option.getD_some,Option.bind_some,name_s r hr.1]
      cases h3:nameS r with
      |none=>rfl
      |some f=>
        have hf:=hr.suf (nameS_suf h3)
        simp only [res_some,Option.bind_some]
        refine (bind_is (match joinS f.2 with|some j=> .inl (j.2,y.1,f.1,j.1.1,j.1.2.1,j.1.2.2,false,[],[],[],())|none=> .inr (.inr 70)) ?_).trans ?_
        · simp only [take_s _ f.2 hf.1,Option.bind_some]
          unfold joinS
          cases h4:tk (⟨#[106,111,105,110]⟩:ByteArray) f.2 with
          |none=>rfl
          |some q=>
            have hq:=hf.suf (tk_suf h4)
            simp only [Option.isSome_some,cond_true,Option.getD_some,Option.bind_some,name_s q hq.1]
            cases h5:nameS q with
            |none=>rfl
            |some n=>
              have hn:=hq.suf (nameS_suf h5)
              simp only [res_some,Option.bind_some,take_s _ n.2 hn.1]
              cases h6:tk (⟨#[111,110]⟩:ByteArray) n.2 with
              |none=>rfl
              |some u=>
                have hu:=hn.suf (tk_suf h6)
                simp only [Option.isSome_some,cond_true,Option.getD_some,Option.bind_some,col_s u hu.1]
                cases h7:colS u with
                |none=>rfl
                |some a=>
                  have ha:=hu.suf (colS_suf h7)
                  have d0:(decide (0≤(0:Int))&&decide ((0:Int)<(2:Int)))=true:=by decide
                  have d1:(decide (0≤(1:Int))&&decide ((1:Int)<(2:Int)))=true:=by decide
                  simp only [res_some,Option.bind_some,take_s _ a.2 ha.1,d0,cond_true]
                  cases h8:tk (⟨#[61]⟩:ByteArray) a.2 with
                  |none=>rfl
                  |some e=>
                    have he:=ha.suf (tk_suf h8)
                    simp only [Option.isSome_some,cond_true,Option.getD_some,Option.bind_some,col_s e he.1]
                    cases h9:colS e with
                    |none=>rfl
                    |some b=>simp only [res_some,Option.bind_some,d1,cond_true,Option.map_some]
        cases h4:joinS f.2 with
        |none=>rfl
        |some j=>
          have hj:=hf.suf (joinS_suf h4)
          simp only [Option.bind_some]
          refine (bind_is (match whereS j.2 with|some w=> .inl (w.2,y.1,f.1,j.1.1,j.1.2.1,j.1.2.2,false,w.1,[],[],())|none=> .inr (.inr 70)) ?_).trans ?_
          · simp only [take_s _ j.2 hj.1,Option.bind_some]
            unfold whereS
            cases h5:tk (⟨#[119,104,101,114,101]⟩:ByteArray) j.2 with
            |none=>rfl
            |some q=>
              have hq:=hj.suf (tk_suf h5)
              simp only [Option.isSome_some,cond_true,Option.getD_some,Option.bind_some,expr_s q hq]
              cases exprS q<;>rfl
          cases h5:whereS j.2 with
          |none=>rfl
          |some w=>
            have hw:=hj.suf (whereS_suf h5)
            simp only [Option.bind_some,take_s _ w.2 hw.1]
            cases h6:tk (⟨#[112,105,99,107]⟩:ByteArray) w.2 with
            |none=>rfl
            |some q=>
              have hq:=hw.suf (tk_suf h6)
              simp only [Option.isSome_some,cond_true,Option.getD_some,Option.bind_some]
              refine (bind_is (match pickS q with|some p=> .inl (p.2,y.1,f.1,j.1.1,j.1.2.1,j.1.2.2,false,w.1,p.1,[],())|none=> .inr (.inr 70)) ?_).trans ?_
              · unfold pickS
                cases q with
                |nil=>rfl
                |cons t q'=>
                  have d1:decide (((t::q').length:Int)>(0:Int))=true:=by rw [decide_eq_true_eq];simp only [List.length_cons];omega
                  simp only [d1,cond_true,is_s _ (t::q') hq.1,Option.bind_some]
                  cases h7:tk (⟨#[103,114,111,117,112]⟩:ByteArray) (t::q') with
                  |some u=>rfl
                  |none=>
                    rw [if_neg (by simp),sepS_eq]
                    simp only [Option.isSome_none,Bool.not_false,cond_true,col_s (t::q') hq.1,Option.bind_some]
                    cases h8:colS (t::q') with
                    |none=>rfl
                    |some a=>
                      have ha:=hq.suf (colS_suf h8)
                      have d2:Nat.ble (([]:List Int).length+ [a.1].length) 17592186044416=true:=by rw [Nat.ble_eq];simp
                      simp only [res_some]
                      rw [d2]
                      simp only [cond_true,Option.bind_some,List.nil_append]
                      refine (comma_loop colS colS_suf (mk:=fun n acc l=>(n,y.1,f.1,j.1.1,j.1.2.1,j.1.2.2,false,w.1,acc,[],l,())) (fin:=fun acc l=>some (.inl (l,y.1,f.1,j.1.1,j.1.2.1,j.1.2.2,false,w.1,acc,[],()))) (bad:=.inr (.inr 70)) ?_ ?_ ?_ ?_ 39 1 rfl [a.1] a.2 (by simp) ha).trans ?_
                      · intro k acc q hk ha hq hn
                        simp only [take_s _ q hq.1,Option.bind_some,hn,Option.isSome_none,cond_false,Option.getD_none,Option.map_some]
                      · intro acc q r hk ha hq
                        simp only [take_s _ q ha.1,Option.bind_some,hq,Option.isSome_some,cond_true]
                        rfl
                      · intro k acc q r hk ha hq hr hx
                        have hq2:=hq.suf (tk_suf hr)
                        have d2:decide (((k+1:Nat):Int)≤(40:Int))=true:=by simp;omega
                        simp only [take_s _ q hq.1,Option.bind_some,hr,Option.isSome_some,cond_true,Option.getD_some,wrap_s (show k<40 by omega) (by decide),d2,col_s r hq2.1,hx,res_none]
                      · intro k acc q r x hk ha hq hr hx
                        have hq2:=hq.suf (tk_suf hr)
                        have d2:decide (((k+1:Nat):Int)≤(40:Int))=true:=by simp;omega
                        have d3:Nat.ble (acc.length+ [x.1].length) 17592186044416=true:=by rw [Nat.ble_eq];simp;omega
                        simp only [take_s _ q hq.1,Option.bind_some,hr,Option.isSome_some,cond_true,Option.getD_some,wrap_s (show k<40 by omega) (by decide),d2,col_s r hq2.1,hx,res_some]
                        rw [d3]
                        rfl
                      · cases tailS colS 39 a.2 with
                        |none=>rfl
                        |some u=>rfl
              cases h7:pickS q with
              |none=>rfl
              |some p=>
                have hp:=hq.suf (pickS_suf h7)
                simp only [Option.bind_some,take_s _ p.2 hp.1]
                unfold groupS
                cases h8:tk (⟨#[103,114,111,117,112]⟩:ByteArray) p.2 with
                |none=>rfl
                |some g=>
                  have hg:=hp.suf (tk_suf h8)
                  simp only [Option.isSome_some,cond_true,Option.getD_some]
                  cases g with
                  |nil=>rfl
                  | cons t g' =>
                    have d1:decide (((t::g').length:Int)>(0:Int))=true:=by rw [decide_eq_true_eq];simp only [List.length_cons];omega
                    rw [if_neg (by simp),sepS_eq]
                    simp only [d1,cond_true]
                    refine (bind_is (match aggS (t::g') with|some a=> .inl (y.1,f.1,j.1.1,j.1.2.1,j.1.2.2,true,w.1,p.1,[a.1],a.2,())|none=> .inr (.inr 70)) ?_).trans ?_
                    · simp only [one_s _ (show [(⟨#[99,111,117,110,116]⟩:ByteArray),(⟨#[115,117,109]⟩:ByteArray),(⟨#[109,105,110]⟩:ByteArray),(⟨#[109,97,120]⟩:ByteArray)].length<1000 by decide) (t::g') hg.1,Option.bind_some,aggS]
                      cases h9:oneS 0 fns (t::g') with
                      |none=>rfl
                      |some a=>
                        have ha:=hg.suf (oneS_suf h9)
                        simp only [res_some,Option.bind_some]
                        by_cases h0:a.1=0
                        · have b0:(a.1 !=(0:Int))=false:=by simp [h0]
                          simp only [b0,cond_false,h0,if_true]
                          rfl
                        · have b0:(a.1 !=(0:Int))=true:=by simp [h0]
                          simp only [b0,cond_true,if_neg h0,col_s a.2 ha.1,Option.bind_some]
                          cases colS a.2<;>rfl
                    cases h9:aggS (t::g') with
                    |none=>rfl
                    |some a=>
                      have ha:=hg.suf (aggS_suf h9)
                      simp only [Option.bind_some]
                      refine (comma_loop aggS aggS_suf (mk:=fun n acc l=>(n,y.1,f.1,j.1.1,j.1.2.1,j.1.2.2,true,w.1,p.1,acc,l,())) (fin:=fun acc l=>some (.inl (y.1,f.1,j.1.1,j.1.2.1,j.1.2.2,true,l,w.1,p.1,acc,()))) (bad:=.inr 70) ?_ ?_ ?_ ?_ 39 1 rfl [a.1] a.2 (by simp) ha).trans ?_
                      · intro k acc q hk ha hq hn
                        simp only [take_s _ q hq.1,Option.bind_some,hn,Option.isSome_none,cond_false,Option.getD_none,Option.map_some]
                      · intro acc q r hk ha hq
                        simp only [take_s _ q ha.1,Option.bind_some,hq,Option.isSome_some,cond_true]
                        rfl
                      · intro k acc q r hk ha hq hr hx
                        have hq2:=hq.suf (tk_suf hr)
                        have d2:decide (((k+1:Nat):Int)≤(40:Int))=true:=by simp;omega
                        simp only [take_s _ q hq.1,Option.bind_some,hr,Option.isSome_some,cond_true,Option.getD_some,wrap_s (show k<40 by omega) (by decide),d2,one_s _ (show [(⟨#[99,111,117,110,116]⟩:ByteArray),(⟨#[115,117,109]⟩:ByteArray),(⟨#[109,105,110]⟩:ByteArray),(⟨#[109,97,120]⟩:ByteArray)].length<1000 by decide) r hq2.1]
                        unfold aggS at hx
                        cases h9:oneS 0 fns r with
                        |none=>rfl
                        |some a=>
                          have ha:=hq2.suf (oneS_suf h9)
                          rw [h9] at hx
                          simp only [Option.bind_some] at hx
                          simp only [res_some]
                          by_cases h0:a.1=0
                          · rw [if_pos h0] at hx;cases hx
                          · have b0:(a.1 !=(0:Int))=true:=by simp [h0]
                            rw [if_neg h0] at hx
                            simp only [b0,cond_true,col_s a.2 ha.1,Option.bind_some]
                            cases h10:colS a.2 with
                            |none=>rfl
                            |some z=>rw [h10] at hx;cases hx
                      · intro k acc q r x hk ha' hq hr hx
                        have hq2:=hq.suf (tk_suf hr)
                        have d2:decide (((k+1:Nat):Int)≤(40:Int))=true:=by simp;omega
                        have d3:∀z:Agg,Nat.ble (acc.length+ [z].length) 8796093022208=true:=fun z=>by rw [Nat.ble_eq];simp;omega
                        simp only [take_s _ q hq.1,Option.bind_some,hr,Option.isSome_some,cond_true,Option.getD_some,wrap_s (show k<40 by omega) (by decide),d2,one_s _ (show [(⟨#[99,111,117,110,116]⟩:ByteArray),(⟨#[115,117,109]⟩:ByteArray),(⟨#[109,105,110]⟩:ByteArray),(⟨#[109,97,120]⟩:ByteArray)].length<1000 by decide) r hq2.1]
                        unfold aggS at hx
                        cases h9:oneS 0 fns r with
                        |none=>rw [h9] at hx;cases hx
                        |some a=>
                          have ha:=hq2.suf (oneS_suf h9)
                          rw [h9] at hx
                          simp only [Option.bind_some] at hx
                          simp only [res_some]
                          by_cases h0:a.1=0
                          · rw [if_pos h0] at hx;cases hx
                            have b0:(a.1 !=(0:Int))=false:=by simp [h0]
                            simp only [b0,cond_false]
                            rw [d3]
                            simp only [cond_true,h0]
                          · have b0:(a.1 !=(0:Int))=true:=by simp [h0]
                            rw [if_neg h0] at hx
                            simp only [b0,cond_true,col_s a.2 ha.1,Option.bind_some]
                            cases h10:colS a.2 with
                            |none=>rw [h10] at hx;cases hx
                            |some z=>
                              rw [h10] at hx;cases hx
                              simp only [res_some]
                              rw [d3]
                              simp only [cond_true]
                      · cases tailS aggS 39 a.2 with
                        |none=>rfl
                        |some u=>rfl
def flatP (x:Dl.Def×Int):Int×ByteArray×ByteArray×ByteArray×ByteArray×Int×Int×Bool×Int×(List tColumnT)×(List (List tNodeT))×(List tNodeT)×(List Int)×(List tAggT)×Unit:=
  (x.1.1,x.1.2.1.1,x.1.2.2.1,x.1.2.2.2.1,x.1.2.2.2.2.1,x.1.2.2.2.2.2.1.1,x.1.2.2.2.2.2.1.2,x.1.2.2.2.2.2.2.2.2.1,x.2,x.1.2.1.2.1,x.1.2.1.2.2,x.1.2.2.2.2.2.2.1,x.1.2.2.2.2.2.2.2.1,x.1.2.2.2.2.2.2.2.2.2,())
theorem lenT_ge (x:List Tok):x.length≤lenT x:=by
  induction x with
  |nil=>simp
  |cons t x ih=>simp only [lenT,List.map_cons,List.sum_cons,List.length_cons] at ih ⊢;omega
theorem tok_size {t:Tok} (h:TokOk t):t.2.1.size≤30:=by
  cases h with
  |@word w h=>
    show (bs w).size≤30
    rw [bs_size]
    cases w with
    |nil=>simp
    |cons c w=>simp only [isWordL,Bool.and_eq_true,decide_eq_true_eq] at h;exact h.2
  |@sign c h=>show (bs [c]).size≤30;rw [bs_size];simp
  |num _ _=>show e0.size≤30;decide
  |text _=>show e0.size≤30;decide
theorem lex_sm {s:List UInt8} (hs:s.length≤20000) {l:List Tok} (h:lexS s=some l):TokSm l:=by
  obtain ⟨h1,h2⟩:=lexS_ok _ s (Nat.le_refl _) l h
  have:=lenT_ge l
  exact ⟨by omega,fun t ht=>by have:=tok_size (h1 t ht);omega⟩
theorem len0 {α:Type} (l:List α):((l.length:Int)==(0:Int))=decide (l=[]):=by
  cases l with
  |nil=>rfl
  |cons a l=>simp;omega
theorem Parse_s (s : ByteArray) : ddl_Parse.F (s,()) = some (flatP (readS s.data.toList)) := by
  rw [ddl_Parse.eq]
  unfold ddl_Parse.B
  simp only [lex_s,Option.bind_some,readS]
  have hsz:s.data.toList.length=s.size:=rfl
  rw [hsz]
  by_cases hb:20000<s.size
  · rw [if_pos hb,if_pos hb];rfl
  · rw [if_neg hb,if_neg hb]
    cases h1:lexS s.data.toList with
    |none=>rfl
    |some l=>
      have hl:=lex_sm (s:=s.data.toList) (by rw [hsz];omega) h1
      simp only [lexR,List.nil_append,one_s _ (show [(⟨#[116,97,98,108,101]⟩:ByteArray),(⟨#[118,105,101,119]⟩:ByteArray)].length<1000 by decide) l hl.1,parseS,defS]
      cases h2:oneS 0 [(⟨#[116,97,98,108,101]⟩:ByteArray),(⟨#[118,105,101,119]⟩:ByteArray)] l with
      |none=>rfl
      |some y=>
        have hy:=hl.suf (oneS_suf h2)
        simp only [res_some,Option.bind_some,need_s,len0]
        by_cases h0:y.1=0
        · have b0:(y.1==(0:Int))=true:=by simp [h0]
          simp only [b0,cond_true,if_pos h0,table_s y.2 hy,Option.bind_some,bne_self_eq_false]
          cases h3:tableS y.2 with
          |none=>rfl
          |some z=>
            simp only [res_some,Option.map_some,Option.bind_some]
            by_cases h4:z.2=[]
            · simp only [h4,decide_true,cond_true,if_true,h0];rfl
            · simp only [h4,decide_false,cond_false,if_false];rfl
        · have b0:(y.1==(0:Int))=false:=by simp [h0]
          simp only [b0,cond_false,if_neg h0,view_s y.2 hy,Option.bind_some,bne_self_eq_false]
          cases h3:viewS y.2 with
          |none=>rfl
          |some z=>
            simp only [res_some,Option.map_some,Option.bind_some]
            by_cases h4:z.2=[]
            · simp only [h4,decide_true,cond_true,if_true];rfl
            · simp only [h4,decide_false,cond_false,if_false];rfl
end Go.Proofs.Ytleadolkcmagfaa
end
section
namespace Go.Proofs.Ytleadolkcmagfaa
open Go Lv Go.Proofs Go.RowKit Go.Shelf Dl
def eqF {α R:Type} [DecidableEq α] (tt ff:R) (x y:List α):R:=if x=y then tt else ff
theorem eq_loop {α R : Type} [DecidableEq α] (a b : List α) (hl : a.length = b.length) (ha : a.length < 4611686018427387904) {body : Int × Unit → Option ((Int × Unit) ⊕ R)} (tt ff : R)
    (h1:∀(i:Nat) (hi:i<a.length),body ((i:Int),())=some (if a[i]=b[i]'(by omega) then .inl (((i+1:Nat):Int),()) else .inr ff))
    (h2:body ((a.length:Int),())=some (.inr tt)):loopM body ((0:Int),())=some (if a=b then tt else ff):=by
  rw [loop_f (m:=fun x=>a.length-x.1.toNat) (I:=fun x=>∃k:Nat,x.1=(k:Int)∧k≤a.length) (f:=fun x=>eqF tt ff (a.drop x.1.toNat) (b.drop x.1.toNat)) ?_ _ ⟨0,rfl,by omega⟩]
  · simp [eqF]
  · rintro ⟨x,⟨⟩⟩ ⟨k,hk,hle⟩
    simp only at hk
    subst hk
    simp only [Int.toNat_natCast]
    by_cases hlt:k<a.length
    · rw [h1 k hlt,List.drop_eq_getElem_cons hlt,List.drop_eq_getElem_cons (show k<b.length by omega)]
      by_cases he:a[k]=b[k]'(by omega)
      · left
        rw [if_pos he]
        refine ⟨_,rfl,⟨k+1,rfl,by omega⟩,by simp only [Int.toNat_natCast];omega,?_⟩
        simp only [Int.toNat_natCast,eqF,List.cons.injEq,he,true_and]
      · right
        rw [if_neg he];unfold eqF;rw [if_neg (fun e=>he (List.cons.inj e).1)]
    · right
      have:k=a.length:=by omega
      subst this
      rw [h2,List.drop_length,List.drop_eq_nil_of_le (by omega)];unfold eqF;rw [if_pos rfl]
theorem len_ne {α:Type} (a b:List α):((a.length:Int) !=(b.length:Int))= !decide (a.length=b.length):=by
  by_cases h:a.length=b.length
  · simp [h]
  · have:¬(a.length:Int)=(b.length:Int):=by omega
    simp [h,this,bne]
theorem ty_eq (t:Ty) (ht:t.plain=true) [DecidableEq t.T] (x y:t.T):t.eq x y=decide (x=y):=by
  have:=Ty.eq_dec t ht x y
  by_cases h:x=y
  · rw [this.2 h];simp [h]
  · have h2:¬t.eq x y=true:=fun e=>h (this.1 e)
    simp [h,h2]
theorem node_eq (x y:tNodeT):Ty.eq tNode x y=decide (x=y):=@ty_eq tNode rfl (inferInstanceAs (DecidableEq tNodeT)) x y
theorem column_eq (x y:Col):Ty.eq tColumn x y=decide (x=y):=@ty_eq tColumn rfl (inferInstanceAs (DecidableEq Col)) x y
theorem agg_eq (x y:Agg):Ty.eq tAgg x y=decide (x=y):=@ty_eq tAgg rfl (inferInstanceAs (DecidableEq Agg)) x y
theorem i_ne (a b:Int):(a !=b)= !decide (a=b):=by by_cases h:a=b<;>simp [h]
abbrev Ln {α:Type} (l:List α):Prop:=l.length<1000000000000000
theorem dec_ne {α:Type} [DecidableEq α] {a b:List α} (h:¬a.length=b.length):decide (a=b)=false:=by
  rw [decide_eq_false_iff_not];exact fun e=>h (by rw [e])
theorem ite_dec {p:Prop} [Decidable p]:(if p then ((true:Bool),()) else (false,()))=(decide p,()):=by by_cases h:p<;>simp [h]
theorem eqNode_s (a b:List tNodeT) (ha:Ln a):slices_Equal_api_Expr_api_Node.F (a,b,())=some (decide (a=b),()):=by
  rw [slices_Equal_api_Expr_api_Node.eq]
  unfold slices_Equal_api_Expr_api_Node.B
  simp only [len_ne]
  by_cases hl:a.length=b.length
  · simp only [hl,decide_true,Bool.not_true,cond_false]
    rw [eq_loop a b hl (by omega) (true,()) (false,()) ?_ ?_,ite_dec]
    · intro i hi
      have d1:decide ((i:Int)<(b.length:Int))=true:=by simp;omega
      have d0:decide (0≤(i:Int))=true:=by simp
      simp only [d1,d0,Bool.and_self,cond_true,Int.toNat_natCast,getD_at hi,getD_at (show i<b.length by omega),node_eq,wrap_s hi (show a.length<9223372036854775808 by omega)]
      by_cases he:a[i]=b[i]'(by omega)<;>simp [he]
    · have d1:decide ((a.length:Int)<(b.length:Int))=false:=by simp;omega
      simp only [d1,cond_false]
  · simp only [hl,decide_false,Bool.not_false,cond_true,dec_ne hl]
theorem eqCol_s (a b:List Col) (ha:Ln a):slices_Equal_sl_api_Column_api_Column.F (a,b,())=some (decide (a=b),()):=by
  rw [slices_Equal_sl_api_Column_api_Column.eq]
  unfold slices_Equal_sl_api_Column_api_Column.B
  simp only [len_ne]
  by_cases hl:a.length=b.length
  · simp only [hl,decide_true,Bool.not_true,cond_false]
    rw [eq_loop a b hl (by omega) (true,()) (false,()) ?_ ?_,ite_dec]
    · intro i hi
      have d1:decide ((i:Int)<(b.length:Int))=true:=by simp;omega
      have d0:decide (0≤(i:Int))=true:=by simp
      simp only [d1,d0,Bool.and_self,cond_true,Int.toNat_natCast,getD_at hi,getD_at (show i<b.length by omega),column_eq,wrap_s hi (show a.length<9223372036854775808 by omega)]
      by_cases he:a[i]=b[i]'(by omega)<;>simp [he]
    · have d1:decide ((a.length:Int)<(b.length:Int))=false:=by simp;omega
      simp only [d1,cond_false]
  · simp only [hl,decide_false,Bool.not_false,cond_true,dec_ne hl]
theorem eqAgg_s (a b:List Agg) (ha:Ln a):slices_Equal_sl_api_Agg_api_Agg.F (a,b,())=some (decide (a=b),()):=by
  rw [slices_Equal_sl_api_Agg_api_Agg.eq]
  unfold slices_Equal_sl_api_Agg_api_Agg.B
  simp only [len_ne]
  by_cases hl:a.length=b.length
  · simp only [hl,decide_true,Bool.not_true,cond_false]
    rw [eq_loop a b hl (by omega) (true,()) (false,()) ?_ ?_,ite_dec]
    · intro i hi
      have d1:decide ((i:Int)<(b.length:Int))=true:=by simp;omega
      have d0:decide (0≤(i:Int))=true:=by simp
      simp only [d1,d0,Bool.and_self,cond_true,Int.toNat_natCast,getD_at hi,getD_at (show i<b.length by omega),agg_eq,wrap_s hi (show a.length<9223372036854775808 by omega)]
      by_cases he:a[i]=b[i]'(by omega)<;>simp [he]
    · have d1:decide ((a.length:Int)<(b.length:Int))=false:=by simp;omega
      simp only [d1,cond_false]
  · simp only [hl,decide_false,Bool.not_false,cond_true,dec_ne hl]
theorem eqInt_s (a b:List Int) (ha:Ln a):slices_Equal_sl_int_int.F (a,b,())=some (decide (a=b),()):=by
  rw [slices_Equal_sl_int_int.eq]
  unfold slices_Equal_sl_int_int.B
  simp only [len_ne]
  by_cases hl:a.length=b.length
  · simp only [hl,decide_true,Bool.not_true,cond_false]
    rw [eq_loop a b hl (by omega) (true,()) (false,()) ?_ ?_,ite_dec]
    · intro i hi
      have d1:decide ((i:Int)<(b.length:Int))=true:=by simp;omega
      have d0:decide (0≤(i:Int))=true:=by simp
      simp only [d1,d0,Bool.and_self,cond_true,Int.toNat_natCast,getD_at hi,getD_at (show i<b.length by omega),i_ne,wrap_s hi (show a.length<9223372036854775808 by omega)]
      by_cases he:a[i]=b[i]'(by omega)<;>simp [he]
    · have d1:decide ((a.length:Int)<(b.length:Int))=false:=by simp;omega
      simp only [d1,cond_false]
  · simp only [hl,decide_false,Bool.not_false,cond_true,dec_ne hl]
theorem rInts_s (a b:List Int) (ha:Ln a):R07_Ints.F (a,b,())=some (decide (a=b),()):=by
  rw [R07_Ints.eq]
  unfold R07_Ints.B
  simp only [len_ne]
  by_cases hl:a.length=b.length
  · simp only [hl,decide_true,Bool.not_true,cond_false]
    rw [eq_loop a b hl (by omega) (true,()) (false,()) ?_ ?_,ite_dec]
    · intro i hi
      have d1:decide ((i:Int)<(b.length:Int))=true:=by simp;omega
      have d0:decide (0≤(i:Int))=true:=by simp
      simp only [d1,d0,Bool.and_self,cond_true,Int.toNat_natCast,getD_at hi,getD_at (show i<b.length by omega),i_ne,wrap_s hi (show a.length<9223372036854775808 by omega)]
      by_cases he:a[i]=b[i]'(by omega)<;>simp [he]
    · have d1:decide ((a.length:Int)<(b.length:Int))=false:=by simp;omega
      simp only [d1,cond_false]
  · simp only [hl,decide_false,Bool.not_false,cond_true,dec_ne hl]
def sameB (x y:Dl.Def):Bool:=decide (x.1=y.1)&&((decide (x.2.1.1=y.2.1.1)&&(decide (x.2.1.2.1=y.2.1.2.1)&&decide (x.2.1.2.2=y.2.1.2.2)))&&
  (decide (x.2.2.1=y.2.2.1)&&(decide (x.2.2.2.1=y.2.2.2.1)&&(decide (x.2.2.2.2.1=y.2.2.2.2.1)&&(decide (x.2.2.2.2.2.1=y.2.2.2.2.2.1)&&(decide (x.2.2.2.2.2.2.1=y.2.2.2.2.2.2.1)&&(decide (x.2.2.2.2.2.2.2.1=y.2.2.2.2.2.2.2.1)&&(decide (x.2.2.2.2.2.2.2.2.1=y.2.2.2.2.2.2.2.2.1)&&decide (x.2.2.2.2.2.2.2.2.2=y.2.2.2.2.2.2.2.2.2)))))))))
theorem sameB_iff (x y:Dl.Def):sameB x y=true↔x=y:=by
  obtain ⟨a1,⟨a2,a3,a4⟩,a5,a6,a7,a8,a9,a10,a11,a12⟩:=x
  obtain ⟨b1,⟨b2,b3,b4⟩,b5,b6,b7,b8,b9,b10,b11,b12⟩:=y
  simp only [sameB,Bool.and_eq_true,decide_eq_true_eq,Prod.mk.injEq]
structure DLn (x:Dl.Def):Prop where
  cols:Ln x.2.1.2.1
  checks:Ln x.2.1.2.2
  each:∀e∈x.2.1.2.2,Ln e
  whr:Ln x.2.2.2.2.2.2.1
  pick:Ln x.2.2.2.2.2.2.2.1
  aggs:Ln x.2.2.2.2.2.2.2.2.2
theorem same_s (a1 : Int) (a2 : ByteArray) (a3 : List Col) (a4 : List (List tNodeT)) (a5 a6 a7 : ByteArray) (a8 a8' : Int) (a9 : List tNodeT) (a10 : List Int) (a11 : Bool) (a12 : List Agg) (b1 : Int) (b2 : ByteArray) (b3 : List Col) (b4 : List (List tNodeT)) (b5 b6 b7 : ByteArray) (b8 b8' : Int) (b9 : List tNodeT) (b10 : List Int) (b11 : Bool) (b12 : List Agg)
    (h:DLn (a1,((a2,(a3,a4)),(a5,(a6,(a7,((a8,a8'),(a9,(a10,(a11,a12)))))))))):
    ddl_Same.F (a1,a2,a3,a4,a5,a6,a7,a8,a8',a9,a10,a11,a12,b1,b2,b3,b4,b5,b6,b7,b8,b8',b9,b10,b11,b12,())=
      some (sameB (a1,((a2,(a3,a4)),(a5,(a6,(a7,((a8,a8'),(a9,(a10,(a11,a12))))))))) (b1,((b2,(b3,b4)),(b5,(b6,(b7,((b8,b8'),(b9,(b10,(b11,b12))))))))),()):=by
  rw [ddl_Same.eq]
  unfold ddl_Same.B
  have h0:(a1==b1)=decide (a1=b1):=by by_cases e:a1=b1<;>simp [e]
  have hg:(a11==b11)=decide (a11=b11):=by cases a11<;>cases b11<;>rfl
  have tail:∀(c:Bool) {R:Type} (K:(Bool×Unit)⊕R→Option (Bool×Unit)),Option.bind (
      (bif decide (a5=b5) then (bif decide (a6=b6) then (bif decide (a7=b7) then (bif decide (((a8,a8'):Agg)=(b8,b8')) then
      (bif decide (a9=b9) then (bif decide (a10=b10) then (bif decide (a11=b11) then some (.inl (decide (a12=b12),())) else some (.inl (false,()))) else some (.inl (false,()))) else some (.inl (false,()))) else some (.inl (false,()))) else some (.inl (false,()))) else some (.inl (false,()))) else some (.inl (false,()))):Option ((Bool×Unit)⊕R)) K=
      K (.inl (decide (a5=b5)&&(decide (a6=b6)&&(decide (a7=b7)&&(decide (((a8,a8'):Agg)=(b8,b8'))&&(decide (a9=b9)&&(decide (a10=b10)&&(decide (a11=b11)&&decide (a12=b12))))))),())):=by
    intro c R K
    cases decide (a5=b5)<;>try rfl
    cases decide (a6=b6)<;>try rfl
    cases decide (a7=b7)<;>try rfl
    cases decide (((a8,a8'):Agg)=(b8,b8'))<;>try rfl
    cases decide (a9=b9)<;>try rfl
    cases decide (a10=b10)<;>try rfl
    cases decide (a11=b11)<;>rfl
  simp only [len_ne,beq_bytes,agg_eq,eqNode_s _ _ h.whr,eqInt_s _ _ h.pick,eqAgg_s _ _ h.aggs,eqCol_s _ _ h.cols,Option.bind_some,h0,hg]
  have col:∀(c:Bool) {R:Type} (K:(Bool×Unit)⊕R→Option (Bool×Unit)),Option.bind ((bif decide (a2=b2) then (bif decide (a3=b3) then some (.inl (c,())) else some (.inl (false,()))) else some (.inl (false,()))):Option ((Bool×Unit)⊕R)) K=
      K (.inl (decide (a2=b2)&&(decide (a3=b3)&&c),())):=by
    intro c R K
    cases decide (a2=b2)<;>try rfl
    cases decide (a3=b3)<;>rfl
  have fin:∀(x y:Bool),(bif decide (a1=b1) then (bif x then some (y,()) else some (false,())) else some (false,()):Option (Bool×Unit))=some (decide (a1=b1)&&(x&&y),()):=by
    intro x y
    cases decide (a1=b1)<;>cases x<;>rfl
  have hS:∀(a b:List tNodeT),Ln a→ddl_Same_1.F (a,b,())=some (decide (a=b),()):=fun a b ha=>by
    rw [ddl_Same_1.eq]
    unfold ddl_Same_1.B
    simp only [eqNode_s a b ha,Option.bind_some]
  by_cases hl:a4.length=b4.length
  · simp only [hl,decide_true,Bool.not_true,cond_false]
    rw [eq_loop a4 b4 hl (by have:=h.checks;simp only at this;omega) (decide (a1=b1)&&((decide (a2=b2)&&(decide (a3=b3)&&true))&&(decide (a5=b5)&&(decide (a6=b6)&&(decide (a7=b7)&&(decide (((a8,a8'):Agg)=(b8,b8'))&&(decide (a9=b9)&&(decide (a10=b10)&&(decide (a11=b11)&&decide (a12=b12))))))))),()) (false,()) ?_ ?_]
    · simp only [sameB]
      by_cases he:a4=b4
      · simp [he]
      · simp [he]
    · intro i hi
      have hlen:=h.checks
      simp only at hlen
      have d1:decide ((i:Int)<(b4.length:Int))=true:=by simp;omega
      have d0:decide (0≤(i:Int))=true:=by simp
      simp only [d1,d0,Bool.and_self,cond_true,Int.toNat_natCast,getD_at hi,getD_at (show i<b4.length by omega),hS _ _ (h.each _ (List.getElem_mem hi)),Option.bind_some,wrap_s hi (show a4.length<9223372036854775808 by omega)]
      by_cases he:a4[i]=b4[i]'(by omega)
      · simp only [he,decide_true,Bool.not_true,cond_false,if_true]
      · simp only [he,decide_false,Bool.not_false,cond_true,if_false]
        have cf:∀{R:Type} (K:(Bool×Unit)⊕R→Option (Bool×Unit)),Option.bind ((bif decide (a2=b2) then (bif decide (a3=b3) then some (.inl (false,())) else some (.inl (false,()))) else some (.inl (false,()))):Option ((Bool×Unit)⊕R)) K=K (.inl (false,())):=by
          intro R K
          rw [col]
          simp
        rw [cf]
        simp only []
        rw [tail false]
        simp only [cond_false]
        cases decide (a1=b1)<;>rfl
    · have d1:decide ((a4.length:Int)<(b4.length:Int))=false:=by simp;omega
      simp only [d1,cond_false]
      rw [col]
      simp only []
      rw [tail false]
      simp only [fin,Option.map_some]
  · simp only [hl,decide_false,Bool.not_false,cond_true,sameB,dec_ne hl,Bool.and_false,Bool.false_and]
    have cf:∀{R:Type} (K:(Bool×Unit)⊕R→Option (Bool×Unit)),Option.bind ((bif decide (a2=b2) then (bif decide (a3=b3) then some (.inl (false,())) else some (.inl (false,()))) else some (.inl (false,()))):Option ((Bool×Unit)⊕R)) K=K (.inl (false,())):=by
      intro R K
      rw [col]
      simp
    rw [cf]
    simp only []
    rw [tail false]
    simp only [cond_false]
    cases decide (a1=b1)<;>rfl
end Go.Proofs.Ytleadolkcmagfaa
end
section
namespace Go.Proofs.Ytleadolkcmagfaa
open Go Lv Go.Proofs Go.RowKit Go.Shelf Dl
def big3 (e:List tNodeT):Bool:=e.any (fun x=>decide (1000<x.2.2.2.2.size))||decide (120<e.length)
structure Sm (d:Dl.Def):Prop where
  cols:d.2.1.2.1.length≤400
  checks:d.2.1.2.2.length≤400
  each:∀e∈d.2.1.2.2,big3 e=false
  whr:big3 d.2.2.2.2.2.2.1=false
  pick:d.2.2.2.2.2.2.2.1.length≤400
  aggs:d.2.2.2.2.2.2.2.2.2.length≤400
  names:∀c∈d.2.1.2.1,c.1.size≤100∧c.2.2.2.2.1.size≤100
  n1:d.2.1.1.size≤100
  n2:d.2.2.1.size≤100
  n3:d.2.2.2.1.size≤100
  n4:d.2.2.2.2.1.size≤100
end Go.Proofs.Ytleadolkcmagfaa
end
section
namespace Go.Proofs.Ytleadolkcmagfaa
open Go Lv Go.Proofs Go.RowKit Go.Shelf Dl
abbrev I64 (n:Int):Prop:=-9223372036854775808≤n∧n≤9223372036854775807
theorem add_s (p o:List ByteArray) (h:o.length+p.length≤1000000000):ddl_printer_add.F (p,o,())=some (o++p,()):=by
  rw [ddl_printer_add.eq]
  unfold ddl_printer_add.B
  have:Nat.ble (o.length+p.length) 8796093022208=true:=by rw [Nat.ble_eq];omega
  simp only [this,cond_true]
theorem addIf_s (b:Bool) (p o:List ByteArray) (h:o.length+p.length≤1000000000):ddl_printer_addIf.F (b,p,o,())=some (o++(if b then p else []),()):=by
  rw [ddl_printer_addIf.eq]
  unfold ddl_printer_addIf.B
  cases b
  · simp
  · simp only [cond_true,add_s p o h,Option.bind_some,if_true]
theorem word1_s (n:Int) (ws:List ByteArray):ddl_word.F (n,ws,())=some (wordW n ws,()):=by
  rw [ddl_word.eq]
  unfold ddl_word.B wordW
  simp only []
  by_cases h1:n<0
  · simp [h1]
  · by_cases h2:(ws.length:Int)≤n
    · have d2:decide (n≥(ws.length:Int))=true:=by simp;omega
      simp [h1,h2,d2]
    · have d2:decide (n≥(ws.length:Int))=false:=by simp;omega
      have d3:(decide (0≤n)&&decide (n<(ws.length:Int)))=true:=by simp;omega
      have d1:decide (n<0)=false:=by simp;omega
      simp only [d1,d2,d3,cond_false,cond_true]
      rw [if_neg (by omega)]
theorem val_eq (x y:Val):Ty.eq tValue x y=decide (x=y):=@ty_eq tValue rfl (inferInstanceAs (DecidableEq Val)) x y
theorem b_eq (n m:Int):(n==m)=decide (n=m):=by by_cases h:n=m<;>simp [h]
theorem lmay_s (a b:Int) (s:ByteArray):lex_May.F ((1:Int),e0,a,b,s,())=some (vMay (a,(b,s)),()):=by
  rw [lex_May.eq]
  unfold lex_May.B
  simp only [beq_bytes]
  have e1:((1:Int)==(0:Int))=false:=by decide
  have e2:((1:Int)==(1:Int))=true:=by decide
  have e3:decide (e0=(⟨#[]⟩:ByteArray))=true:=by decide
  simp only [e1,e2,e3,cond_false,cond_true]
  rw [value_May.eq]
  unfold value_May.B vMay
  simp only [beq_bytes,val_eq,b_eq]
  by_cases h0:a=0
  · subst h0
    simp only [decide_true,cond_true,Option.bind_some]
    cases decide (((0:Int),(b,s))=((0:Int),((0:Int),(⟨#[]⟩:ByteArray))))<;>simp
  by_cases h1:a=1
  · subst h1
    simp only [h0,decide_false,cond_false,decide_true,cond_true]
    cases hb0:decide (b=0)<;>cases hb1:decide (b=1)<;>cases hs:decide (s=(⟨#[]⟩:ByteArray))<;>simp
  by_cases h2:a=2
  · subst h2
    simp only [h0,h1,decide_false,cond_false,decide_true,cond_true,Option.bind_some]
    cases hs:decide (s=(⟨#[]⟩:ByteArray)) with
    |true=>have:=of_decide_eq_true hs;subst this;simp
    |false=>have:=of_decide_eq_false hs;simp [this]
  by_cases h3:a=3
  · subst h3
    simp only [h0,h1,h2,decide_false,cond_false,decide_true,cond_true]
    have d:decide ((s.size:Int)≤(1000:Int))=decide (s.size≤1000):=by simp only [decide_eq_decide];omega
    rw [d]
    cases hb:decide (b=0) with
    |false=>have:=of_decide_eq_false hb;simp [this]
    |true=>
      have:=of_decide_eq_true hb
      subst this
      cases hs:decide (s.size≤1000) with
      |true=>have:=of_decide_eq_true hs;simp [this]
      |false=>have:=of_decide_eq_false hs;simp [this]
  · simp only [h0,h1,h2,h3,decide_false,cond_false,Option.bind_some]
    simp
theorem join_b {Q:Type} (l:List ByteArray) (h1:l.length≤1000000000) (h2:(joinL (l.map fun w=>w.data.toList)).length≤140737488355328) (K:TS strings_Join.so→Option Q):Option.bind (strings_Join.F (l,(⟨#[32]⟩:ByteArray),())) K=K (bs (joinL (l.map fun w=>w.data.toList)),()):=by
  have e:joinB l (⟨#[32]⟩:ByteArray)=bs (joinL (l.map fun w=>w.data.toList)):=by
    unfold joinB
    show bs (Lib.join _ [32])=_
    rw [join_joinL]
  have ha:strings_Join.F (l,(⟨#[32]⟩:ByteArray),())=some (bs (joinL (l.map fun w=>w.data.toList)),()):=by
    rw [strings_Join.eq]
    show (if l.length≤140737488355328∧(joinB l (⟨#[32]⟩:ByteArray)).size≤140737488355328 then some (joinB l (⟨#[32]⟩:ByteArray),()) else none)=_
    rw [e,if_pos ⟨by omega,by rw [bs_size];exact h2⟩]
  rw [ha];rfl
theorem rep_b {Q:Type} (w:List UInt8) (hw:w.length≤1000) (K:TS strings_ReplaceAll.so→Option Q):Option.bind (strings_ReplaceAll.F (bs w,(⟨#[39]⟩:ByteArray),(⟨#[39,39]⟩:ByteArray),())) K=K (bs (dbl w),()):=by
  have ha:strings_ReplaceAll.F (bs w,(⟨#[39]⟩:ByteArray),(⟨#[39,39]⟩:ByteArray),())=some (bs (dbl w),()):=by
    rw [strings_ReplaceAll.eq]
    show replaceF _=_
    unfold replaceF
    simp only
    have hc:Lib.countB (bs w) (⟨#[39]⟩:ByteArray)≤w.length:=count_le w
    have h1:((⟨#[39,39]⟩:ByteArray)).size=2:=rfl
    have h2:((⟨#[39]⟩:ByteArray)).size=1:=rfl
    rw [if_pos ⟨by rw [bs_size];omega,by rw [h2];decide,by rw [bs_size,h1];omega⟩]
    have:replaceB (bs w) (⟨#[39]⟩:ByteArray) (⟨#[39,39]⟩:ByteArray)=bs (dbl w):=by
      unfold replaceB
      show bs (Lib.replaceAll w [39] [39,39])=_
      rw [replaceAll_dbl]
    rw [this]
  rw [ha];rfl
theorem dbl_le (w:List UInt8):(dbl w).length≤2*w.length:=by
  induction w with
  |nil=>simp [dbl]
  |cons c r ih=>simp only [dbl];split<;>simp<;>omega
theorem vtext_s (v:Val) (hm:vMay v=true) (hi:I64 v.2.1):value_Text.F (v.1,v.2.1,v.2.2,())=some (bs (showT (1,(e0,v))),()):=by
  obtain ⟨a,b,s⟩:=v
  rw [value_Text.eq]
  unfold value_Text.B
  simp only [vMay,Bool.or_eq_true,Bool.and_eq_true,decide_eq_true_eq] at hm
  simp only [b_eq]
  rcases hm with ⟨h1,h2⟩|⟨h1,h2,h3⟩
  · subst h1;subst h2
    have e1:decide ((2:Int)=0)=false:=by decide
    have e2:decide ((2:Int)=1)=false:=by decide
    have e3:decide ((2:Int)=2)=true:=by decide
    simp only [e1,e2,e3,cond_false,cond_true]
    rw [itoa_b b hi.1 hi.2]
    rfl
  · subst h1;subst h2
    have e1:decide ((3:Int)=0)=false:=by decide
    have e2:decide ((3:Int)=1)=false:=by decide
    have e3:decide ((3:Int)=2)=false:=by decide
    have e4:decide ((3:Int)=3)=true:=by decide
    simp only [e1,e2,e3,e4,cond_false,cond_true]
    have hs:s=bs s.data.toList:=(bs_data s).symm
    generalize s.data.toList=w at hs
    subst hs
    rw [bs_size] at h3
    have h5:=dbl_le w
    have hmax:IntKind.i64.max=9223372036854775807:=by decide
    rw [rep_b w h3]
    simp only [bs_app,bs_size,hmax]
    have d1:(!decide (((([39]:List UInt8).length+(dbl w).length:Nat):Int)>9223372036854775807))=true:=by simp;omega
    have d2:(!decide (((([39]++dbl w:List UInt8).length+([39]:List UInt8).length:Nat):Int)>9223372036854775807))=true:=by simp;omega
    rw [d1]
    simp only [cond_true]
    rw [d2]
    rfl
theorem itoa_len {n:Int} (h:I64 n):(Lib.itoa n).length≤21:=Lib.itoa_length_le n h.1 h.2
theorem showV_le {v:Val} (hm:vMay v=true) (hi:I64 v.2.1):(showT (1,(e0,v))).length≤2100:=by
  obtain ⟨a,b,s⟩:=v
  simp only [vMay,Bool.or_eq_true,Bool.and_eq_true,decide_eq_true_eq] at hm
  rcases hm with ⟨h1,h2⟩|⟨h1,h2,h3⟩
  · subst h1;subst h2
    have:showT (1,(e0,(2,(b,e0))))=Lib.itoa b:=rfl
    rw [this]
    have hi:I64 b:=hi
    have:=itoa_len hi
    omega
  · subst h1;subst h2
    have:showT (1,(e0,(3,(0,s))))=39::dbl s.data.toList++ [39]:=rfl
    rw [this]
    have h4:=dbl_le s.data.toList
    have h5:s.data.toList.length=s.size:=rfl
    simp only [List.length_cons,List.length_append,List.length_nil]
    omega
theorem lprint_s (v:Val) (hm:vMay v=true) (hi:I64 v.2.1):lex_Print.F ([((1:Int),(e0,v))],())=some (bs (showT (1,(e0,v))),()):=by
  rw [lex_Print.eq]
  unfold lex_Print.B
  simp only []
  rw [loopM_q]
  have c1:decide ((0:Int)<(([((1:Int),(e0,v))]:List tTokT).length:Int))=true:=rfl
  have c2:decide (0≤(0:Int))=true:=by decide
  have g:List.getD ([((1:Int),(e0,v))]:List tTokT) (Int.toNat 0) tTok.z=((1:Int),(e0,v)):=rfl
  have hmay:lex_May.F ((1:Int),e0,v.1,v.2.1,v.2.2,())=some (true,()):=by rw [lmay_s];rw [hm]
  have e2:((1:Int)==(1:Int))=true:=by decide
  have e3:IntKind.i64.wrap ((0:Int)+(1:Int))=1:=by decide
  simp only [c1,c2,Bool.and_self,g,cond_true,hmay,Option.bind_some,Bool.not_true,cond_false,e2,vtext_s v hm hi]
  have d1:Nat.ble (([]:List ByteArray).length+ [bs (showT (1,(e0,v)))].length) 8796093022208=true:=by rw [Nat.ble_eq];simp
  rw [d1]
  simp only [cond_true,e3]
  rw [loopM_q]
  have c3:decide ((1:Int)<(([((1:Int),(e0,v))]:List tTokT).length:Int))=false:=rfl
  simp only [c3,cond_false,Option.bind_some,List.nil_append]
  rw [join_b [bs (showT (1,(e0,v)))] (by simp) (by have:=showV_le hm hi;simpa [joinL] using (by omega:(showT (1,(e0,v))).length≤140737488355328))]
  rfl
theorem constant_s (v:Val) (hi:I64 v.2.1):ddl_constant.F (v.1,v.2.1,v.2.2,())=some (constW v,()):=by
  obtain ⟨a,b,s⟩:=v
  rw [ddl_constant.eq]
  unfold ddl_constant.B constW
  simp only [bytes_beq,b_eq]
  by_cases h0:a=0∧b=0∧s=e0
  · obtain ⟨rfl,rfl,rfl⟩:=h0
    simp
    rfl
  have n0:¬((a,(b,s)):Val)=(0,(0,e0)):=fun e=>by cases e;exact h0 ⟨rfl,rfl,rfl⟩
  have b0:(decide (a=0)&&decide (b=0)&&decide (s=e0))=false:=by
    cases h:(decide (a=0)&&decide (b=0)&&decide (s=e0)) with
    |false=>rfl
    |true=>simp only [Bool.and_eq_true,decide_eq_true_eq] at h;exact absurd ⟨h.1.1,h.1.2,h.2⟩ h0
  by_cases h1:a=1∧b=0∧s=e0
  · obtain ⟨rfl,rfl,rfl⟩:=h1
    simp
    rfl
  have n1:¬((a,(b,s)):Val)=(1,(0,e0)):=fun e=>by cases e;exact h1 ⟨rfl,rfl,rfl⟩
  have b1:(decide (a=1)&&decide (b=0)&&decide (s=e0))=false:=by
    cases h:(decide (a=1)&&decide (b=0)&&decide (s=e0)) with
    |false=>rfl
    |true=>simp only [Bool.and_eq_true,decide_eq_true_eq] at h;exact absurd ⟨h.1.1,h.1.2,h.2⟩ h1
  by_cases h2:a=1∧b=1∧s=e0
  · obtain ⟨rfl,rfl,rfl⟩:=h2
    simp
    rfl
  have n2:¬((a,(b,s)):Val)=(1,(1,e0)):=fun e=>by cases e;exact h2 ⟨rfl,rfl,rfl⟩
  have b2:(decide (a=1)&&decide (b=1)&&decide (s=e0))=false:=by
    cases h:(decide (a=1)&&decide (b=1)&&decide (s=e0)) with
    |false=>rfl
    |true=>simp only [Bool.and_eq_true,decide_eq_true_eq] at h;exact absurd ⟨h.1.1,h.1.2,h.2⟩ h2
  rw [if_neg n0,if_neg n1,if_neg n2]
  rw [b0,b1,b2]
  simp only [cond_false]
  rw [lmay_s]
  simp only [Option.bind_some]
  cases hm:vMay (a,(b,s)) with
  |false=>rfl
  |true=>
    simp only [Bool.not_true,cond_false,if_true]
    exact (bind_is _ (lprint_s (a,(b,s)) hm hi)).trans rfl
theorem constant_b {Q:Type} (v:Val) (hi:I64 v.2.1) (K:TS ddl_constant.so→Option Q):Option.bind (ddl_constant.F (v.1,v.2.1,v.2.2,())) K=K (constW v,()):=by rw [constant_s v hi];rfl
def EFit (e:List tNodeT):Prop:=e.length≤120∧∀x∈e,I64 x.1∧I64 x.2.1∧I64 x.2.2.2.1
theorem itoa_w {Q:Type} (n:Int) (h:I64 n) (K:TS strconv_Itoa.so→Option Q):Option.bind (strconv_Itoa.F (n,())) K=K (bs (Lib.itoa n),()):=itoa_b n h.1 h.2 K
theorem pexpr_s (e : List tNodeT) (o : List ByteArray) (he : EFit e) (ho : o.length ≤ 900000000) : ddl_printer_expr.F (e,o,()) = some (o ++ exprW e,()) := by
  rw [ddl_printer_expr.eq]
  unfold ddl_printer_expr.B
  have hl:=he.1
  simp only [add_s [(⟨#[91]⟩:ByteArray)] o (by simp;omega),Option.bind_some]
  rw [loop_f (S:=Int×(List ByteArray)×Unit) (m:=fun x=>e.length-x.1.toNat) (I:=fun x=>∃k:Nat,x.1=(k:Int)∧k≤e.length∧x.2.1.length≤900000001+k)
    (f:=fun x=> .inl (x.2.1++(e.drop x.1.toNat).map stepW,())) ?_ _ ⟨0,rfl,by omega,by simp;omega⟩]
  · simp only [Int.toNat_zero,List.drop_zero,Option.bind_some]
    rw [add_s [(⟨#[93]⟩:ByteArray)] _ (by simp;omega)]
    simp only [Option.bind_some,exprW]
    simp
  · rintro ⟨x,out,⟨⟩⟩ ⟨k,hk,hle,hlen⟩
    simp only at hk hlen
    subst hk
    simp only [Int.toNat_natCast]
    by_cases hlt:k<e.length
    · left
      obtain ⟨hx0,hx1,hx2⟩:=he.2 _ (List.getElem_mem hlt)
      have d1:decide ((k:Int)<(e.length:Int))=true:=by simp;omega
      have d0:decide (0≤(k:Int))=true:=by simp
      simp only [d1,d0,Bool.and_self,cond_true,getD_at hlt,b_eq,wrap_s hlt (show e.length<9223372036854775808 by omega)]
      rw [List.drop_eq_getElem_cons hlt]
      have fin:∀w,w=stepW e[k]→∃s':Int×(List ByteArray)×Unit,(some (.inl (((k+1:Nat):Int),out++ [w],())):Option ((Int×(List ByteArray)×Unit)⊕((List ByteArray)×Unit)⊕((List ByteArray)×Unit)))=some (.inl s')∧(∃k:Nat,s'.1=(k:Int)∧k≤e.length∧s'.2.1.length≤900000001+k)∧e.length-s'.1.toNat<e.length-k∧
          (Sum.inl (s'.2.1++(e.drop s'.1.toNat).map stepW,()):((List ByteArray)×Unit)⊕((List ByteArray)×Unit))=.inl (out++(e[k]::e.drop (k+1)).map stepW,()):=by
        rintro w rfl
        refine ⟨_,rfl,⟨k+1,rfl,by omega,by simp;omega⟩,by simp only [Int.toNat_natCast];omega,?_⟩
        simp only [Int.toNat_natCast,List.map_cons,List.append_assoc,List.cons_append,List.nil_append]
      by_cases h0:e[k].1=0
      · simp only [h0,decide_true,cond_true]
        rw [itoa_w _ hx1]
        have hmax:IntKind.i64.max=9223372036854775807:=by decide
        have hi:=itoa_len hx1
        have d2:(!decide ((((⟨#[99]⟩:ByteArray).size+(bs (Lib.itoa e[k].2.1)).size:Nat):Int)>IntKind.i64.max))=true:=by rw [bs_size,bs_size,hmax];simp;omega
        simp only []
        rw [d2]
        simp only [cond_true]
        rw [add_s _ out (by simp;omega)]
        refine fin _ ?_
        unfold stepW
        rw [if_pos h0]
        exact bs_app [99] (Lib.itoa e[k].2.1)
      · simp only [h0,decide_false,cond_false]
        by_cases h1:e[k].1=1
        · simp only [h1,decide_true,cond_true]
          rw [constant_b e[k].2.2 hx2]
          simp only []
          rw [add_s _ out (by simp;omega)]
          refine fin _ ?_
          unfold stepW
          rw [if_neg h0,if_pos h1]
        · simp only [h1,decide_false,cond_false,word1_s,Option.bind_some]
          rw [add_s _ out (by simp;omega)]
          refine fin _ ?_
          unfold stepW
          rw [if_neg h0,if_neg h1]
          rfl
    · right
      have d1:decide ((k:Int)<(e.length:Int))=false:=by simp;omega
      simp only [d1,cond_false]
      rw [List.drop_eq_nil_of_le (by omega)]
      simp
structure Fit (d:Dl.Def):Prop where
  cols:d.2.1.2.1.length≤400
  checks:d.2.1.2.2.length≤400
  pick:d.2.2.2.2.2.2.2.1.length≤400
  aggs:d.2.2.2.2.2.2.2.2.2.length≤400
  each:∀e∈d.2.1.2.2,EFit e
  whr:EFit d.2.2.2.2.2.2.1
  names:∀c∈d.2.1.2.1,c.1.size≤100∧c.2.2.2.2.1.size≤100∧I64 c.2.1
  n1:d.2.1.1.size≤100
  n2:d.2.2.1.size≤100
  n3:d.2.2.2.1.size≤100
  n4:d.2.2.2.2.1.size≤100
  o1:I64 d.2.2.2.2.2.1.1
  o2:I64 d.2.2.2.2.2.1.2
  pk:∀n∈d.2.2.2.2.2.2.2.1,I64 n
  ag:∀a∈d.2.2.2.2.2.2.2.2.2,I64 a.2
theorem each_loop {α R:Type} (l:List α) (hl:l.length≤400) (f:α→List ByteArray) (hf:∀x∈l,(f x).length≤8) (base:Nat) (hb:base≤100000000) (fin:List ByteArray→Option R) {body:Int×(List ByteArray)×Unit→Option ((Int×(List ByteArray)×Unit)⊕R)}
    (h1:∀(k:Nat) (hk:k<l.length) out,out.length≤base+9*k→body ((k:Int),out,())=some (.inl (((k+1:Nat):Int),out++((if 0<k then [(⟨#[44]⟩:ByteArray)] else [])++f l[k]),())))
    (h2:∀out,out.length≤base+9*l.length→body ((l.length:Int),out,())=Option.map Sum.inr (fin out)):
    ∀(n k:Nat),n+k=l.length→∀out,out.length≤base+9*k→loopM body ((k:Int),out,())=fin (out++sepW f (decide (0<k)) (l.drop k)):=by
  intro n
  induction n with
  |zero=>
    intro k hk out ho
    have:k=l.length:=by omega
    subst this
    rw [loopM_q,h2 out ho,List.drop_length]
    simp only [sepW,List.append_nil]
    cases fin out<;>rfl
  |succ n ih=>
    intro k hk out ho
    have hlt:k<l.length:=by omega
    rw [loopM_q,h1 k hlt out ho]
    simp only
    have hfl:=hf _ (List.getElem_mem hlt)
    have hc:(if 0<k then [(⟨#[44]⟩:ByteArray)] else ([]:List ByteArray)).length≤1:=by split<;>simp
    rw [ih (k+1) (by omega) _ (by simp only [List.length_append];omega),List.drop_eq_getElem_cons hlt]
    have e1:decide (0<k+1)=true:=by simp
    rw [e1]
    simp only [sepW,decide_eq_true_eq,List.append_assoc]
theorem colW_len (c:Col):(colW c).length≤8:=by
  unfold colW
  simp only [List.length_append,List.length_cons,List.length_nil]
  have h1:(if c.2.2.1 then [(⟨#[110,117,108,108]⟩:ByteArray)] else ([]:List ByteArray)).length≤1:=by split<;>simp
  have h2:(if c.2.2.2.1 then [(⟨#[117,110,105,113,117,101]⟩:ByteArray)] else ([]:List ByteArray)).length≤1:=by split<;>simp
  have h3:(if c.2.2.2.2.1=e0 then [] else [(⟨#[114,101,102]⟩:ByteArray),c.2.2.2.2.1,wordW c.2.2.2.2.2 acts]).length≤3:=by split<;>simp
  omega
theorem sepW_len {α:Type} (f:α→List ByteArray):∀(l:List α) (b:Bool),(∀x∈l,(f x).length≤8)→(sepW f b l).length≤9*l.length:=by
  intro l
  induction l with
  |nil=>intro b _;simp [sepW]
  |cons x l ih=>
    intro b h
    have h1:=ih true (fun y hy=>h y (List.mem_cons_of_mem _ hy))
    have h2:=h x (by simp)
    have h3:(if b then [(⟨#[44]⟩:ByteArray)] else ([]:List ByteArray)).length≤1:=by split<;>simp
    simp only [sepW,List.length_append,List.length_cons]
    omega
theorem exprW_len (e:List tNodeT):(exprW e).length=e.length+2:=by simp [exprW]
theorem checksW_len:∀(l:List (List tNodeT)),(∀e∈l,EFit e)→(l.flatMap checkW).length≤123*l.length:=by
  intro l
  induction l with
  |nil=>intro _;simp
  |cons e l ih=>
    intro h
    have h1:=ih (fun y hy=>h y (List.mem_cons_of_mem _ hy))
    have h2:=(h e (by simp)).1
    rw [List.flatMap_cons]
    simp only [List.length_append,checkW,List.length_cons,exprW_len]
    omega
theorem ptable_s (n : ByteArray) (c : List Col) (k : List (List tNodeT)) (hc : c.length ≤ 400) (hk : k.length ≤ 400) (he : ∀ e ∈ k,EFit e) : ddl_printer_table.F (n,c,k,[],()) = some (tableW (n,(c,k)),()) := by
  rw [ddl_printer_table.eq]
  unfold ddl_printer_table.B
  simp only [add_s [(⟨#[116,97,98,108,101]⟩:ByteArray),n,(⟨#[40]⟩:ByteArray)] [] (by simp),Option.bind_some,List.nil_append]
  refine (each_loop c hc colW (fun c _=>colW_len c) 10 (by decide) (fin:=fun out=>some (out++([(⟨#[41]⟩:ByteArray)]++k.flatMap checkW),())) ?_ ?_ c.length 0 (by omega) [(⟨#[116,97,98,108,101]⟩:ByteArray),n,(⟨#[40]⟩:ByteArray)] (by simp)).trans ?_
  · intro i hi out ho
    have d1:decide ((i:Int)<(c.length:Int))=true:=by simp;omega
    have d0:decide (0≤(i:Int))=true:=by simp
    have dg:decide ((i:Int)>(0:Int))=decide (0<i):=by simp only [decide_eq_decide];omega
    simp only [d1,d0,dg,Bool.and_self,cond_true,Int.toNat_natCast,getD_at hi,beq_bytes,addIf_s _ [(⟨#[44]⟩:ByteArray)] out (by simp;omega),Option.bind_some,word1_s,wrap_s hi (show c.length<9223372036854775808 by omega)]
    have hcm:((if decide (0<i)=true then [(⟨#[44]⟩:ByteArray)] else ([]:List ByteArray))).length≤1:=by split<;>simp
    rw [add_s _ _ (by simp only [List.length_append,List.length_cons,List.length_nil];omega)]
    simp only [Option.bind_some]
    rw [addIf_s _ _ _ (by simp only [List.length_append,List.length_cons,List.length_nil];omega)]
    simp only [Option.bind_some]
    have hn:((if c[i].2.2.1=true then [(⟨#[110,117,108,108]⟩:ByteArray)] else ([]:List ByteArray))).length≤1:=by split<;>simp
    rw [addIf_s _ _ _ (by simp only [List.length_append,List.length_cons,List.length_nil];omega)]
    simp only [Option.bind_some]
    have hu:((if c[i].2.2.2.1=true then [(⟨#[117,110,105,113,117,101]⟩:ByteArray)] else ([]:List ByteArray))).length≤1:=by split<;>simp
    rw [addIf_s _ _ _ (by simp only [List.length_append,List.length_cons,List.length_nil];omega)]
    simp only [Option.bind_some,colW,decide_eq_true_eq,List.append_assoc,List.cons_append,List.nil_append]
    congr 6
    by_cases hr:c[i].2.2.2.2.1=e0
    · simp [hr]
    · simp [hr]
  · intro out ho
    have d1:decide ((c.length:Int)<(c.length:Int))=false:=by simp
    simp only [d1,cond_false,add_s [(⟨#[41]⟩:ByteArray)] out (by simp;omega),Option.bind_some]
    rw [loop_f (S:=Int×(List ByteArray)×Unit) (m:=fun x=>k.length-x.1.toNat) (I:=fun x=>∃i:Nat,x.1=(i:Int)∧i≤k.length∧x.2.1.length≤100000+123*i)
      (f:=fun x=>(x.2.1++(k.drop x.1.toNat).flatMap checkW,())) ?_ _ ⟨0,rfl,by omega,by simp;omega⟩]
    · simp
    · rintro ⟨x,out',⟨⟩⟩ ⟨i,hi',hle,hlen⟩
      simp only at hi' hlen
      subst hi'
      simp only [Int.toNat_natCast]
      by_cases hlt:i<k.length
      · left
        have hE:=he _ (List.getElem_mem hlt)
        have d1:decide ((i:Int)<(k.length:Int))=true:=by simp;omega
        have d0:decide (0≤(i:Int))=true:=by simp
        simp only [d1,d0,Bool.and_self,cond_true,getD_at hlt,add_s [(⟨#[99,104,101,99,107]⟩:ByteArray)] out' (by simp;omega),Option.bind_some,pexpr_s _ (out'++ [(⟨#[99,104,101,99,107]⟩:ByteArray)]) hE (by simp;omega),wrap_s hlt (show k.length<9223372036854775808 by omega)]
        have:=hE.1
        refine ⟨_,rfl,⟨i+1,rfl,by omega,by simp only [List.length_append,exprW_len,List.length_cons,List.length_nil];omega⟩,by simp only [Int.toNat_natCast];omega,?_⟩
        simp only [Int.toNat_natCast]
        rw [List.drop_eq_getElem_cons hlt,List.flatMap_cons]
        simp [checkW]
      · right
        have d1:decide ((i:Int)<(k.length:Int))=false:=by simp;omega
        simp only [d1,cond_false]
        rw [List.drop_eq_nil_of_le (by omega)]
        simp
  · simp [tableW]
end Go.Proofs.Ytleadolkcmagfaa
end
section
namespace Go.Proofs.Ytleadolkcmagfaa
open Go Lv Go.Proofs Go.RowKit Go.Shelf Dl
theorem aggW_len (a:Agg):(aggW a).length≤8:=by
  unfold aggW
  split<;>simp
theorem ite_len {p:Prop} [Decidable p] (a b:List ByteArray) (n:Nat) (ha:a.length≤n) (hb:b.length≤n):(if p then a else b).length≤n:=by split<;>assumption
theorem pview_s (vn vf vw : ByteArray) (o1 o2 : Int) (wh : List tNodeT) (pk : List Int) (gr : Bool) (ag : List Agg) (h1 : I64 o1) (h2 : I64 o2) (hw : EFit wh) (hp : pk.length ≤ 400) (hpi : ∀ n ∈ pk,I64 n) (ha : ag.length ≤ 400) (hai : ∀ a ∈ ag,I64 a.2) :
    ddl_printer_view.F (vn,vf,vw,o1,o2,wh,pk,gr,ag,[],())=some (viewW (vn,(vf,(vw,((o1,o2),(wh,(pk,(gr,ag))))))),()):=by
  rw [ddl_printer_view.eq]
  unfold ddl_printer_view.B
  have d0:(decide (0≤(0:Int))&&decide ((0:Int)<(2:Int)))=true:=by decide
  have d1:(decide (0≤(1:Int))&&decide ((1:Int)<(2:Int)))=true:=by decide
  simp only [add_s [(⟨#[118,105,101,119]⟩:ByteArray),vn,(⟨#[102,114,111,109]⟩:ByteArray),vf] [] (by simp),Option.bind_some,List.nil_append,d0,d1,cond_true]
  rw [itoa_w o1 h1]
  simp only []
  rw [itoa_w o2 h2]
  have hb:(!decide (vw=e0))=decide (¬vw=e0):=by by_cases h:vw=e0<;>simp [h]
  simp only [beq_bytes]
  rw [addIf_s _ [(⟨#[106,111,105,110]⟩:ByteArray),vw,(⟨#[111,110]⟩:ByteArray),bs (Lib.itoa o1),(⟨#[61]⟩:ByteArray),bs (Lib.itoa o2)] [(⟨#[118,105,101,119]⟩:ByteArray),vn,(⟨#[102,114,111,109]⟩:ByteArray),vf] (by simp)]
  simp only [Option.bind_some]
  generalize hA:[(⟨#[118,105,101,119]⟩:ByteArray),vn,(⟨#[102,114,111,109]⟩:ByteArray),vf]++(if (!decide (vw=(⟨#[]⟩:ByteArray)))=true then [(⟨#[106,111,105,110]⟩:ByteArray),vw,(⟨#[111,110]⟩:ByteArray),bs (Lib.itoa o1),(⟨#[61]⟩:ByteArray),bs (Lib.itoa o2)] else [])=A
  have hAl:A.length≤10:=by rw [←hA,List.length_append];have:=ite_len (p:=(!decide (vw=(⟨#[]⟩:ByteArray)))=true) [(⟨#[106,111,105,110]⟩:ByteArray),vw,(⟨#[111,110]⟩:ByteArray),bs (Lib.itoa o1),(⟨#[61]⟩:ByteArray),bs (Lib.itoa o2)] [] 6 (by simp) (by simp);simp only [List.length_cons,List.length_nil] at this ⊢;omega
  have hA':A=[(⟨#[118,105,101,119]⟩:ByteArray),vn,(⟨#[102,114,111,109]⟩:ByteArray),vf]++(if vw=e0 then [] else [(⟨#[106,111,105,110]⟩:ByteArray),vw,(⟨#[111,110]⟩:ByteArray),bs (Lib.itoa o1),(⟨#[61]⟩:ByteArray),bs (Lib.itoa o2)]):=by
    rw [←hA]
    by_cases h:vw=e0<;>simp [h]
  refine (bind_is (.inl (A++(if wh=[] then [] else (⟨#[119,104,101,114,101]⟩:ByteArray)::exprW wh),())) ?_).trans ?_
  · by_cases h:wh=[]
    · subst h;simp
    · have dw:decide ((wh.length:Int)>(0:Int))=true:=by
        cases wh with
        |nil=>exact absurd rfl h
        |cons a b=>rw [decide_eq_true_eq];simp only [List.length_cons];omega
      simp only [dw,cond_true,add_s [(⟨#[119,104,101,114,101]⟩:ByteArray)] A (by simp;omega),Option.bind_some,pexpr_s wh (A++ [(⟨#[119,104,101,114,101]⟩:ByteArray)]) hw (by simp;omega),if_neg h]
      simp
  simp only []
  have hE:(if wh=[] then [] else (⟨#[119,104,101,114,101]⟩:ByteArray)::exprW wh).length≤123:=ite_len _ _ _ (by simp) (by simp only [List.length_cons,exprW_len];have:=hw.1;omega)
  generalize hB:A++(if wh=[] then [] else (⟨#[119,104,101,114,101]⟩:ByteArray)::exprW wh)=B
  have hBl:B.length≤200:=by rw [←hB,List.length_append];omega
  rw [add_s [(⟨#[112,105,99,107]⟩:ByteArray)] B (by simp;omega)]
  simp only [Option.bind_some]
  refine (each_loop pk hp pickW (fun n _=>by simp [pickW]) 300 (by decide) (fin:=fun out=>some (out++(if gr then [(⟨#[103,114,111,117,112]⟩:ByteArray)] else [])++sepW aggW false ag,())) ?_ ?_ pk.length 0 (by omega) (B++ [(⟨#[112,105,99,107]⟩:ByteArray)]) (by simp;omega)).trans ?_
  · intro i hi out ho
    have d1:decide ((i:Int)<(pk.length:Int))=true:=by simp;omega
    have d0:decide (0≤(i:Int))=true:=by simp
    have dg:decide ((i:Int)>(0:Int))=decide (0<i):=by simp only [decide_eq_decide];omega
    simp only [d1,d0,dg,Bool.and_self,cond_true,Int.toNat_natCast,getD_at hi,addIf_s _ [(⟨#[44]⟩:ByteArray)] out (by simp;omega),Option.bind_some,wrap_s hi (show pk.length<9223372036854775808 by omega)]
    rw [itoa_w _ (hpi _ (List.getElem_mem hi))]
    simp only []
    have hcm:=ite_len (p:=decide (0<i)=true) [(⟨#[44]⟩:ByteArray)] [] 1 (by simp) (by simp)
    rw [add_s _ _ (by simp only [List.length_append,List.length_cons,List.length_nil];omega)]
    simp only [Option.bind_some,pickW,decide_eq_true_eq,List.append_assoc]
  · intro out ho
    have d1:decide ((pk.length:Int)<(pk.length:Int))=false:=by simp
    simp only [d1,cond_false,addIf_s gr [(⟨#[103,114,111,117,112]⟩:ByteArray)] out (by simp;omega),Option.bind_some]
    have hg:=ite_len (p:=gr=true) [(⟨#[103,114,111,117,112]⟩:ByteArray)] [] 1 (by simp) (by simp)
    refine congrArg (Option.map Sum.inr) ?_
    refine (each_loop ag ha aggW (fun a _=>aggW_len a) 10000 (by decide) (fin:=fun out=>some (out,())) ?_ ?_ ag.length 0 (by omega) (out++(if gr=true then [(⟨#[103,114,111,117,112]⟩:ByteArray)] else [])) (by simp only [List.length_append];omega)).trans ?_
    · intro i hi out ho
      have d1:decide ((i:Int)<(ag.length:Int))=true:=by simp;omega
      have d0:decide (0≤(i:Int))=true:=by simp
      have dg:decide ((i:Int)>(0:Int))=decide (0<i):=by simp only [decide_eq_decide];omega
      simp only [d1,d0,dg,Bool.and_self,cond_true,Int.toNat_natCast,getD_at hi,addIf_s _ [(⟨#[44]⟩:ByteArray)] out (by simp;omega),Option.bind_some,word1_s,wrap_s hi (show ag.length<9223372036854775808 by omega)]
      have hcm:=ite_len (p:=decide (0<i)=true) [(⟨#[44]⟩:ByteArray)] [] 1 (by simp) (by simp)
      rw [add_s _ _ (by simp only [List.length_append,List.length_cons,List.length_nil];omega)]
      simp only [Option.bind_some]
      rw [itoa_w _ (hai _ (List.getElem_mem hi))]
      simp only []
      rw [addIf_s _ _ _ (by simp only [List.length_append,List.length_cons,List.length_nil];omega)]
      simp only [Option.bind_some,aggW,decide_eq_true_eq,List.append_assoc,i_ne]
      congr 6
      by_cases h0:ag[i].1=0<;>simp [h0]
    · intro out ho
      have d1:decide ((ag.length:Int)<(ag.length:Int))=false:=by simp
      simp only [d1,cond_false]
      rfl
    · simp only [List.drop_zero]
      rfl
  · rw [←hB,hA']
    simp only [List.drop_zero,viewW]
    rfl
theorem wordW_size {n:Int} {ws:List ByteArray} (h:∀w∈ws,w.size≤30):(wordW n ws).size≤30:=by
  unfold wordW
  split
  · decide
  · rw [List.getD_eq_getElem?_getD]
    cases hg:ws[n.toNat]? with
    |none=>decide
    |some w=>exact h w (List.mem_of_getElem? hg)
theorem stepW_size {x:tNodeT} (h:I64 x.2.1∧I64 x.2.2.2.1):(stepW x).size≤2100:=by
  unfold stepW
  split
  · rw [bs_size];have:=itoa_len h.1;simp only [List.length_cons];omega
  · split
    · unfold constW
      split
      · decide
      split
      · decide
      split
      · decide
      split
      · rename_i hm;rw [bs_size];exact showV_le hm h.2
      · decide
    · have:=@wordW_size (IntKind.i64.wrap (x.1-2)) opWords (by decide);omega
abbrev WB (l:List ByteArray):Prop:=∀w∈l,w.size≤2100
theorem WB.app {a b:List ByteArray} (h:WB a) (h':WB b):WB (a++b):=fun w hw=>by rcases List.mem_append.1 hw with hw|hw;exact h w hw;exact h' w hw
theorem WB.cons {a:ByteArray} {b:List ByteArray} (h:a.size≤2100) (h':WB b):WB (a::b):=fun w hw=>by rcases List.mem_cons.1 hw with rfl|hw;exact h;exact h' w hw
theorem WB.nil:WB []:=fun w hw=>by cases hw
theorem WB.ite {p:Prop} [Decidable p] {a b:List ByteArray} (h:WB a) (h':WB b):WB (if p then a else b):=by split<;>assumption
theorem WB.expr {e:List tNodeT} (h:EFit e):WB (exprW e):=by
  unfold exprW
  refine WB.app (.cons (by decide) fun w hw=>?_) (.cons (by decide) .nil)
  obtain ⟨x,hx,rfl⟩:=List.mem_map.1 hw
  exact stepW_size (h.2 x hx).2
theorem WB.sep {α:Type} {f:α→List ByteArray}:∀(l:List α) (b:Bool),(∀x∈l,WB (f x))→WB (sepW f b l):=by
  intro l
  induction l with
  |nil=>intro b _;exact .nil
  |cons x l ih=>
    intro b h
    exact ((WB.ite (.cons (by decide) .nil) .nil).app (h x (by simp))).app (ih true fun y hy=>h y (List.mem_cons_of_mem _ hy))
theorem WB.checks:∀(l:List (List tNodeT)),(∀e∈l,EFit e)→WB (l.flatMap checkW):=by
  intro l
  induction l with
  |nil=>intro _;exact .nil
  |cons e l ih=>
    intro h
    rw [List.flatMap_cons]
    exact WB.app (.cons (by decide) (.expr (h e (by simp)))) (ih fun y hy=>h y (List.mem_cons_of_mem _ hy))
theorem fit_words {d : Dl.Def} (h : Fit d) : WB (defW d) ∧ (defW d).length ≤ 1000000 := by
  obtain ⟨k,⟨tn,c,ck⟩,vn,vf,vw,⟨o1,o2⟩,wh,pk,gr,ag⟩:=d
  unfold defW
  split
  · refine ⟨?_,?_⟩
    · unfold tableW
      refine ((WB.app ?_ (.sep c false fun x hx=>?_)).app (.cons (by decide) .nil)).app (.checks _ h.each)
      · exact .cons (by decide) (.cons (Nat.le_trans h.n1 (by decide)) (.cons (by decide) .nil))
      · obtain ⟨n1,n2,_⟩:=h.names x hx
        unfold colW
        refine WB.app (.cons (by omega) (.cons (by have:=@wordW_size (IntKind.i64.wrap (x.2.1-1)) kinds (by decide);omega) .nil)) (WB.app (.ite (.cons (by decide) .nil) .nil) (WB.app (.ite (.cons (by decide) .nil) .nil) (.ite .nil ?_)))
        exact .cons (by decide) (.cons (by omega) (.cons (by have:=@wordW_size x.2.2.2.2.2 acts (by decide);omega) .nil))
    · unfold tableW
      have l1:=sepW_len colW c false (fun x _=>colW_len x)
      have l2:=checksW_len ck h.each
      have l3:c.length≤400:=h.cols
      have l4:ck.length≤400:=h.checks
      simp only [List.length_append,List.length_cons,List.length_nil]
      omega
  · have i1:=itoa_len h.o1
    have i2:=itoa_len h.o2
    simp only at i1 i2
    refine ⟨?_,?_⟩
    · unfold viewW
      refine ((((((WB.app ?_ (.ite .nil ?_)).app (.ite .nil (.cons (by decide) (.expr h.whr)))).app (.cons (by decide) .nil)).app (.sep pk false fun n hn=>?_)).app (.ite (.cons (by decide) .nil) .nil))).app (.sep ag false fun a ha=>?_)
      · exact .cons (by decide) (.cons (by have:vn.size≤100:=h.n2;simp only;omega) (.cons (by decide) (.cons (by have:vf.size≤100:=h.n3;simp only;omega) .nil)))
      · exact .cons (by decide) (.cons (by have:vw.size≤100:=h.n4;simp only;omega) (.cons (by decide) (.cons (by rw [bs_size];simp only;omega) (.cons (by decide) (.cons (by rw [bs_size];simp only;omega) .nil)))))
      · exact .cons (by rw [bs_size];have:=itoa_len (h.pk n hn);omega) .nil
      · unfold aggW
        exact .cons (by have:=@wordW_size a.1 fns (by decide);omega) (.ite .nil (.cons (by rw [bs_size];have:=itoa_len (h.ag a ha);omega) .nil))
    · unfold viewW
      have l1:=sepW_len pickW pk false (fun n _=>by simp [pickW])
      have l2:=sepW_len aggW ag false (fun a _=>aggW_len a)
      have l3:pk.length≤400:=h.pick
      have l4:ag.length≤400:=h.aggs
      have l5:wh.length≤120:=h.whr.1
      have l6:=ite_len (p:=wh=[]) [] ((⟨#[119,104,101,114,101]⟩:ByteArray)::exprW wh) 123 (by simp) (by simp only [List.length_cons,exprW_len];omega)
      have l7:=ite_len (p:=vw=e0) [] [(⟨#[106,111,105,110]⟩:ByteArray),vw,(⟨#[111,110]⟩:ByteArray),bs (Lib.itoa o1),(⟨#[61]⟩:ByteArray),bs (Lib.itoa o2)] 6 (by simp) (by simp)
      have l8:=ite_len (p:=gr=true) [(⟨#[103,114,111,117,112]⟩:ByteArray)] [] 1 (by simp) (by simp)
      simp only [List.length_append,List.length_cons,List.length_nil] at l6 l7 l8 ⊢
      omega
theorem joinL_le:∀(l:List ByteArray),WB l→(joinL (l.map fun w=>w.data.toList)).length≤2101*l.length:=by
  intro l
  induction l with
  |nil=>intro _;simp [joinL]
  |cons w l ih=>
    intro h
    have h1:=ih fun y hy=>h y (List.mem_cons_of_mem _ hy)
    have h2:w.data.toList.length≤2100:=h w (by simp)
    cases l with
    |nil=>simp only [List.map_cons,List.map_nil,joinL,List.length_cons,List.length_nil];omega
    |cons v l=>
      rw [List.map_cons,joinL_cons _ (by simp)]
      simp only [List.length_append,List.length_cons] at h1 ⊢
      omega
theorem Fit.ln {d:Dl.Def} (h:Fit d):DLn d:=⟨by have:=h.cols;omega,by have:=h.checks;omega,fun e he=>by have:=(h.each e he).1;omega,by have:=h.whr.1;omega,by have:=h.pick;omega,by have:=h.aggs;omega⟩
theorem Print_s (k : Int) (tn : ByteArray) (c : List Col) (ck : List (List tNodeT)) (vn vf vw : ByteArray) (o1 o2 : Int) (wh : List tNodeT) (pk : List Int) (gr : Bool) (ag : List Agg)
    (h:Fit (k,((tn,(c,ck)),(vn,(vf,(vw,((o1,o2),(wh,(pk,(gr,ag)))))))))):
    ddl_Print.F (k,tn,c,ck,vn,vf,vw,o1,o2,wh,pk,gr,ag,())=some (bs (printS (k,((tn,(c,ck)),(vn,(vf,(vw,((o1,o2),(wh,(pk,(gr,ag)))))))))),()):=by
  have hln:=h.ln
  obtain ⟨w1,w2⟩:=fit_words h
  have w3:=joinL_le _ w1
  generalize hd:((k,((tn,(c,ck)),(vn,(vf,(vw,((o1,o2),(wh,(pk,(gr,ag))))))))):Dl.Def)=d at hln w1 w2 w3 h
  rw [ddl_Print.eq]
  unfold ddl_Print.B
  simp only []
  refine (bind_is (.inl (defW d,())) ?_).trans ?_
  · subst hd
    unfold defW
    by_cases h0:k=0
    · subst h0
      have:((0:Int)==(0:Int))=true:=by decide
      simp only [this,cond_true]
      rw [ptable_s tn c ck h.cols h.checks h.each]
      rfl
    · have:(k==(0:Int))=false:=by simp [h0]
      simp only [this,cond_false,if_neg h0]
      rw [pview_s vn vf vw o1 o2 wh pk gr ag h.o1 h.o2 h.whr h.pick h.pk h.aggs h.ag]
      rfl
  simp only []
  rw [join_b (defW d) (by omega) (by omega)]
  simp only [bs_size]
  have ht:joinL ((defW d).map fun w=>w.data.toList)=textW d:=rfl
  rw [ht]
  unfold printS
  by_cases hb:20000<(textW d).length
  · have:decide (((textW d).length:Int)>(20000:Int))=true:=by simp;omega
    rw [this,if_pos hb]
    rfl
  · have:decide (((textW d).length:Int)>(20000:Int))=false:=by simp;omega
    rw [this,if_neg hb]
    simp only [cond_false,Parse_s,bs_list,Option.bind_some]
    generalize hr:readS (textW d)=r
    obtain ⟨q,e⟩:=r
    obtain ⟨q1,⟨q2,q3,q4⟩,q5,q6,q7,⟨q8,q8'⟩,q9,q10,q11,q12⟩:=q
    simp only [flatP]
    by_cases he:e=0
    · subst he
      have:((0:Int) !=(0:Int))=false:=by decide
      simp only [this,cond_false]
      have hsm:=same_s k tn c ck vn vf vw o1 o2 wh pk gr ag q1 q2 q3 q4 q5 q6 q7 q8 q8' q9 q10 q11 q12 (hd▸hln)
      rw [hsm,hd]
      simp only [Option.bind_some]
      by_cases hq:d=(q1,((q2,(q3,q4)),(q5,(q6,(q7,((q8,q8'),(q9,(q10,(q11,q12)))))))))
      · rw [(sameB_iff _ _).2 hq,←hq,if_pos rfl]
        rfl
      · have:sameB d (q1,((q2,(q3,q4)),(q5,(q6,(q7,((q8,q8'),(q9,(q10,(q11,q12)))))))))=false:=by
          cases hs:sameB d (q1,((q2,(q3,q4)),(q5,(q6,(q7,((q8,q8'),(q9,(q10,(q11,q12))))))))) with
          |false=>rfl
          |true=>exact absurd ((sameB_iff _ _).1 hs) hq
        rw [this,if_neg (fun e=>hq (Prod.mk.inj e).1.symm)]
        rfl
    · have:(e !=(0:Int))=true:=by simp [he]
      simp only [this,cond_true]
      rw [if_neg (fun e'=>he (Prod.mk.inj e').2)]
theorem May_s (k:Int) (tn:ByteArray) (c:List Col) (ck:List (List tNodeT)) (vn vf vw:ByteArray) (o1 o2:Int) (wh:List tNodeT) (pk:List Int) (gr:Bool) (ag:List Agg)
    (h:Fit (k,((tn,(c,ck)),(vn,(vf,(vw,((o1,o2),(wh,(pk,(gr,ag)))))))))):
    ddl_May.F (k,tn,c,ck,vn,vf,vw,o1,o2,wh,pk,gr,ag,())=some (!decide (printS (k,((tn,(c,ck)),(vn,(vf,(vw,((o1,o2),(wh,(pk,(gr,ag)))))))))=[]),()):=by
  rw [ddl_May.eq]
  unfold ddl_May.B
  simp only [Print_s k tn c ck vn vf vw o1 o2 wh pk gr ag h,Option.bind_some]
  rw [show (⟨#[]⟩:ByteArray)=bs [] from rfl,beq_bs]
end Go.Proofs.Ytleadolkcmagfaa
end
