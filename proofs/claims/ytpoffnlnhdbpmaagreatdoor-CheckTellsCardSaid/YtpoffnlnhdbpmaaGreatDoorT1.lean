import Derived.WalkKit
import Derived.MapKept
set_option linter.all false
set_option linter.unusedVariables false
set_option linter.unusedSimpArgs false
set_option linter.unusedSectionVars false
section
namespace Lv
open Go
inductive Ty where
 |int (k:IntKind)|bool|str|val|unit|pair (a b:Ty)|sl (e:Nat) (t:Ty)
@[reducible] def Ty.T : Ty → Type
 | .int _=>Int
 | .bool=>Bool
 | .str=>ByteArray
 | .val=>Value
 | .unit=>Unit
 | .pair a b=>a.T×b.T
 | .sl _ t=>List t.T
def Ty.again:Ty→Bool
 | .int _=>true
 | .pair (.int .i64) (.pair (.int .i64) .str)=>true
 |_=>false
def Ty.n:Ty→Nat
 | .unit=>0
 | .pair a b=>a.n+b.n
 |_=>1
def Ty.z:(t:Ty)→t.T
 | .int _=>(0:Int)
 | .bool=>false
 | .str=>(⟨#[]⟩:ByteArray)
 | .val=>Value.nilIface
 | .unit=>()
 | .pair a b=>(a.z,b.z)
 | .sl _ _=> []
def kb:IntKind→IntKind→Bool
 | .i8,.i8=>true| .i16,.i16=>true| .i32,.i32=>true| .i64,.i64=>true
 | .u8,.u8=>true| .u16,.u16=>true| .u32,.u32=>true| .u64,.u64=>true
 |_,_=>false
def Ty.b:Ty→Ty→Bool
 | .int k,.int l=>kb k l
 | .bool,.bool=>true
 | .str,.str=>true
 | .val,.val=>true
 | .unit,.unit=>true
 | .pair a b,.pair c d=>a.b c&&b.b d
 | .sl e t,.sl f u=>Nat.beq e f&&t.b u
 |_,_=>false
theorem pX {a b:IntKind} (h:kb a b=true):a=b:=by cases a<;>cases b<;>first|rfl|cases h
theorem Ty.b_eq:∀{a b:Ty},a.b b=true→a=b
 | .int k,.int l,h=>by rw [pX h]
 | .bool,.bool,_=>rfl
 | .str,.str,_=>rfl
 | .val,.val,_=>rfl
 | .unit,.unit,_=>rfl
 | .pair a b,.pair c d,h=>by
  have h':=Bool.and_eq_true_iff.1 h
  rw [Ty.b_eq h'.1,Ty.b_eq h'.2]
 | .sl e t,.sl f u,h=>by
  have h':=Bool.and_eq_true_iff.1 h
  rw [Nat.eq_of_beq_eq_true h'.1,Ty.b_eq h'.2]
inductive Cell where
 |int (k:IntKind) (i:Int)
 |bool (b:Bool)
 |str (s:ByteArray)
 |val (v:Value)
 |sl (e:Nat) (t:Ty) (xs:List t.T)
 |ref (l:Nat)
 |sub (l n lo len:Nat)
 |ptr (l off:Nat)
 |elp (l n i off:Nat)
 |rdp (t:Ty) (x:t.T) (off:Nat)
 |ifc (b:Bool)
 |np (l:Nat)
 |bs (l k:Nat)
inductive fE where
 |v (agg:Bool) (cs:List Cell)
 |tup (l:List (Bool×List Cell))
inductive Ob where
 |box (e:Nat) (cs:List Cell)
 |arr (e:Nat) (t:Ty) (xs:List t.T)
 |frz (e:Nat) (t:Ty) (xs:List t.T)
 |clo (f:Nat) (first caps:List (Bool×List Cell))
 |mp (g:Bool×Bool) (t:Ty) (kvs:List (Value×t.T))
abbrev cT:=Nat→Option Ob
structure St where
 env:Nat→Option fE
 hp:cT
 nx:Nat
 dt:List Nat
def Ty.ex:(t:Ty)→t.T→List Cell
 | .int k,x=> [.int k x]
 | .bool,x=> [.bool x]
 | .str,x=> [.str x]
 | .val,x=> [.val x]
 | .unit,_=> []
 | .pair a b,x=>a.ex x.1++b.ex x.2
 | .sl e t,xs=> [.sl e t xs]
def castL (t u:Ty) (h:t.b u=true) (xs:List t.T):List u.T:=Ty.b_eq h▸xs
def kB (e:Nat) (t:Ty) (f:Nat) (u:Ty) (xs:List u.T):Option (List t.T):=
 if Nat.beq e f=true then (if h:u.b t=true then some (castL u t h xs) else none) else none
def mQ (e : Nat) (t : Ty) (hp : cT) : Cell → Option (List t.T)
  | .sl f u xs=>kB e t f u xs
  | .ref l=>match hp l with
    |some (.arr f u xs)=>kB e t f u xs
    |some (.frz f u xs)=>kB e t f u xs
    |_=>none
  | .sub l n lo len=>match hp l with
    |some (.arr f u xs)=>if Nat.beq n u.n=true then kB e t f u ((xs.drop lo).take len) else none
    |some (.frz f u xs)=>if Nat.beq n u.n=true then kB e t f u ((xs.drop lo).take len) else none
    |_=>none
  | .val (.slice none 0 0)=>some []
  |_=>none
def Cell.raw:Cell→Option Value
 | .int k i=>some (.int k i)
 | .bool b=>some (.bool b)
 | .str s=>some (.string s)
 | .val v=>some v
 |_=>none
def Bw (k:IntKind):List Cell→Option Int
 | [.int l i]=>if kb k l=true then some i else none
 |_=>none
def xq:List Cell→Option Bool
 | [.bool b]=>some b
 |_=>none
def Bx:List Cell→Option ByteArray
 | [.str s]=>some s
 |_=>none
def Bz:List Cell→Option Value
 | [c]=>c.raw
 |_=>none
def xu:List Cell→Option Unit
 | []=>some ()
 |_=>none
def BA (e:Nat) (t:Ty) (hp:cT):List Cell→Option (List t.T)
 | [c]=>mQ e t hp c
 |_=>none
def Ty.co (hp : cT) : (t : Ty) → List Cell → Option t.T
  | .int k,cs=>Bw k cs
  | .bool,cs=>xq cs
  | .str,cs=>Bx cs
  | .val,cs=>Bz cs
  | .unit,cs=>xu cs
  | .pair a b,cs=>match a.co hp (cs.take a.n),b.co hp (cs.drop a.n) with
    |some x,some y=>some (x,y)
    |_,_=>none
  | .sl e t,cs=>BA e t hp cs
abbrev Ups:=List (Nat×Option Ob)
def names (u:Ups):List Nat:=u.map (·.1)
def mR (x:Nat):List Nat→Bool
 | []=>false
 |y::r=>Nat.beq x y||mR x r
def wk (hp:cT) (l:Nat):Ups:=match hp l with
 |some (.arr e t xs)=> [(l,some (.frz e t xs))]
 |_=> []
def ja (hp:cT):List Cell→Ups
 | []=> []
 | .ref l::r=>wk hp l++ja hp r
 | .sub l _ _ _::r=>wk hp l++ja hp r
 |_::r=>ja hp r
inductive TK where
 |int (k:IntKind)|bool|str|sl (e:Nat)|st (fs:List (Nat×Nat))|arr (n e:Nat)|ptr|other|ifc|map (k e:Nat)
structure TI where
 kind:TK
 size:Nat
 bytes:Nat
 cap:Nat
 zero:List Value
 ty:Option Ty
def TI.agg (i:TI):Bool:=match i.kind with| .st _=>true| .arr _ _=>true|_=>false
def rI:List (Nat×TI)→Nat→Option TI
 | [],_=>none
 |(u,i)::r,t=>if Nat.beq u t=true then some i else rI r t
def Cell.of:Value→Cell
 | .int k i=> .int k i
 | .bool b=> .bool b
 | .string s=> .str s
 |v=> .val v
def fE.of:Value→fE
 | .agg cs=> .v true (cs.toList.map Cell.of)
 |u=> .v false [Cell.of u]
def oneV:Value→Bool
 | .agg _=>false
 | .tuple _=>false
 |_=>true
def tM:Value→Bool
 | .agg cs=>cs.toList.all oneV
 | .tuple _=>false
 |_=>true
abbrev Env:=Nat→Option fE
def opd (env:Env):Operand→Option fE
 | .tmp t=>env t
 | .const v=>if tM v=true then some (fE.of v) else none
 | .global g=>some (.v false [.val (.pointer (some ⟨g,0,none⟩))])
 | .func f=>some (.v false [.val (.func (.func f) #[] #[])])
inductive CSh where
 |int (k:IntKind)|bool|str|val|fn (f:Nat)|sl (e:Nat) (t:Ty)|ref (l:Nat)|ptr (l off:Nat)|ifc|np (l:Nat)
inductive SSh where
 |v (agg:Bool) (cs:List CSh)
 |tup (l:List (Bool×List CSh))
inductive OSh where
 |box (e:Nat) (cs:List CSh)
 |arr (e:Nat) (t:Ty)
 |mp (g:Bool×Bool) (t:Ty)
structure Sh where
 sl:List (Nat×SSh)
 ob:List (Nat×Bool×OSh)
 kp:List Nat
 nn:Nat
 fx:List (Nat×Nat)
@[reducible] def TL : List CSh → Type → Type
 | [],τ=>τ
 | .int _::r,τ=>Int×TL r τ
 | .bool::r,τ=>Bool×TL r τ
 | .str::r,τ=>ByteArray×TL r τ
 | .val::r,τ=>Value×TL r τ
 | .sl _ t::r,τ=>List t.T×TL r τ
 | .fn _::r,τ=>TL r τ
 | .ref _::r,τ=>TL r τ
 | .ptr _ _::r,τ=>TL r τ
 | .ifc::r,τ=>Bool×TL r τ
 | .np _::r,τ=>TL r τ
@[reducible] def TLs : List (Bool × List CSh) → Type → Type
 | [],τ=>τ
 |(_,cs)::r,τ=>TL cs (TLs r τ)
@[reducible] def TSl : List (Nat × SSh) → Type → Type
 | [],τ=>τ
 |(_,.v _ cs)::r,τ=>TL cs (TSl r τ)
 |(_,.tup l)::r,τ=>TLs l (TSl r τ)
@[reducible] def TO : List (Nat × Bool × OSh) → Type
 | []=>Unit
 |(_,_,.box _ cs)::r=>TL cs (TO r)
 |(_,_,.arr _ t)::r=>List t.T×TO r
 |(_,_,.mp _ t)::r=>List (Value×t.T)×TO r
@[reducible] def TS (s : Sh) : Type := TSl s.sl (TO s.ob)
abbrev Ren:=Nat→Option Nat
def xv (k:IntKind):List Cell→Option (Int×List Cell)
 | .int l i::c=>if kb k l=true then some (i,c) else none
 |_=>none
def tN:List Cell→Option (Bool×List Cell)
 | .bool b::c=>some (b,c)
 |_=>none
def xw:List Cell→Option (ByteArray×List Cell)
 | .str b::c=>some (b,c)
 |_=>none
def xx:List Cell→Option (Value×List Cell)
 |x::c=>match x.raw with|some v=>some (v,c)|none=>none
 |_=>none
def hdSl (hp:cT) (e:Nat) (t:Ty):List Cell→Option (List t.T×List Cell)
 |x::c=>match mQ e t hp x with|some xs=>some (xs,c)|none=>none
 |_=>none
def hdFn (f:Nat):List Cell→Option (List Cell)
 | .val (.func (.func g) ⟨[]⟩ ⟨[]⟩)::c=>if Nat.beq f g=true then some c else none
 |_=>none
def xy (ren:Ren) (l:Nat):List Cell→Option (List Cell)
 | .ref m::c=>match ren l with|some m'=>if Nat.beq m m'=true then some c else none|none=>none
 | .val (.slice none 0 0)::c=>match ren l with|some _=>none|none=>some c
 |_=>none
def xz (ren : Ren) (l o : Nat) : List Cell → Option (List Cell)
  | .ptr m p::c=>match ren l with
    |some m'=>if (Nat.beq m m'&&Nat.beq o p)=true then some c else none
    |none=>none
  |_=>none
def xA:List Cell→Option (Bool×List Cell)
 | .ifc b::c=>some (b,c)
 | .val .nilIface::c=>some (true,c)
 | .val (.iface _ _)::c=>some (false,c)
 |_=>none
def hdNp (ren : Ren) (l : Nat) : List Cell → Option (List Cell)
  | .np m::c=>match ren l with
    |some m'=>if Nat.beq m m'=true then some c else none
    |none=>none
  | .ptr m 0::c=>match ren l with
    |some m'=>if Nat.beq m m'=true then some c else none
    |none=>none
  | .val (.pointer none)::c=>match ren l with
    |some _=>some c
    |none=>none
  |_=>none
def hdNil:List Cell→Bool
 | []=>true
 |_=>false
def toC (hp:cT) (ren:Ren):{τ:Type}→(cs:List CSh)→List Cell→Option τ→Option (TL cs τ)
 |_,[],c,q=>if hdNil c=true then q else none
 |_,.int k::r,c,q=>match xv k c with|some (i,d)=>(match toC hp ren r d q with|some y=>some (i,y)|none=>none)|none=>none
 |_,.bool::r,c,q=>match tN c with|some (i,d)=>(match toC hp ren r d q with|some y=>some (i,y)|none=>none)|none=>none
 |_,.str::r,c,q=>match xw c with|some (i,d)=>(match toC hp ren r d q with|some y=>some (i,y)|none=>none)|none=>none
 |_,.val::r,c,q=>match xx c with|some (i,d)=>(match toC hp ren r d q with|some y=>some (i,y)|none=>none)|none=>none
 |_,.sl e t::r,c,q=>match hdSl hp e t c with|some (i,d)=>(match toC hp ren r d q with|some y=>some (i,y)|none=>none)|none=>none
 |_,.fn f::r,c,q=>match hdFn f c with|some d=>toC hp ren r d q|none=>none
 |_,.ref l::r,c,q=>match xy ren l c with|some d=>toC hp ren r d q|none=>none
 |_,.ptr l o::r,c,q=>match xz ren l o c with|some d=>toC hp ren r d q|none=>none
 |_,.ifc::r,c,q=>match xA c with|some (i,d)=>(match toC hp ren r d q with|some y=>some (i,y)|none=>none)|none=>none
 |_,.np l::r,c,q=>match hdNp ren l c with|some d=>toC hp ren r d q|none=>none
def xB (hp:cT) (ren:Ren):{τ:Type}→(l:List (Bool×List CSh))→List (Bool×List Cell)→Option τ→Option (TLs l τ)
 |_,[],[],k=>k
 |_,(a,cs)::r,(b,ds)::c,k=>if (a==b)=true then toC hp ren cs ds (xB hp ren r c k) else none
 |_,_,_,_=>none
def wl (env : Env) (hp : cT) (ren : Ren) : {τ : Type} → (l : List (Nat × SSh)) → Option τ → Option (TSl l τ)
  |_,[],k=>k
  |_,(t,.v a cs)::r,k=>match env t with
    |some (.v b ds)=>if (a==b)=true then toC hp ren cs ds (wl env hp ren r k) else none
    |_=>none
  |_,(t,.tup l)::r,k=>match env t with
    |some (.tup ds)=>xB hp ren l ds (wl env hp ren r k)
    |_=>none
def castM (t u:Ty) (h:t.b u=true) (xs:List (Value×t.T)):List (Value×u.T):=Ty.b_eq h▸xs
def tO (a b:Bool×Bool) (t u:Ty) (xs:List (Value×u.T)):Option (List (Value×t.T)):=
 if (a==b)=true then (if h:u.b t=true then some (castM u t h xs) else none) else none
def toO (hp : cT) (ren : Ren) : (l : List (Nat × Bool × OSh)) → Option (TO l)
  | []=>some ()
  |(l,_,.box e cs)::r=>match ren l with
    |some m=>match hp m with
      |some (.box f ds)=>if Nat.beq e f=true then toC hp ren cs ds (toO hp ren r) else none
      |_=>none
    |none=>none
  |(l,_,.arr e t)::r=>match ren l with
    |some m=>match hp m with
      |some (.arr f u xs)=>(match kB e t f u xs with
        |some ys=>(match toO hp ren r with|some y=>some (ys,y)|none=>none)
        |none=>none)
      |_=>none
    |none=>match toO hp ren r with|some y=>some ([],y)|none=>none
  |(l,_,.mp g t)::r=>match ren l with
    |some m=>match hp m with
      |some (.mp f u xs)=>(match tO g f t u xs with
        |some ys=>(match toO hp ren r with|some y=>some (ys,y)|none=>none)
        |none=>none)
      |_=>none
    |none=>none
def oH:List CSh→List Cell→List (Nat×Nat)
 | .ref l::r,.ref m::c=>(l,m)::oH r c
 | .ptr l _::r,.ptr m _::c=>(l,m)::oH r c
 |_::r,_::c=>oH r c
 |_,_=> []
def pY:List (Bool×List CSh)→List (Bool×List Cell)→List (Nat×Nat)
 |(_,cs)::r,(_,ds)::c=>oH cs ds++pY r c
 |_,_=> []
def oI (env:Env):List (Nat×SSh)→List (Nat×Nat)
 | []=> []
 |(t,.v _ cs)::r=>(match env t with|some (.v _ ds)=>oH cs ds|_=> [])++oI env r
 |(t,.tup l)::r=>(match env t with|some (.tup ds)=>pY l ds|_=> [])++oI env r
def rJ:List (Nat×Nat)→Nat→Option Nat
 | [],_=>none
 |(l,m)::r,k=>if Nat.beq l k=true then some m else rJ r k
def xC (hp : cT) : List (Nat × Bool × OSh) → List (Nat × Nat) → List (Nat × Nat)
  | [],a=>a
  |(l,_,.box _ cs)::r,a=>xC hp r (match rJ a l with
    |some m=>(match hp m with|some (.box _ ds)=>a++oH cs ds|_=>a)
    |none=>a)
  |_::r,a=>xC hp r a
def rK (hp : cT) : List (Nat × Nat) → List (Nat × Nat)
  | []=> []
  |(l,m)::r=>match hp m with
    |some _=>(l,m)::rK hp r
    |none=>rK hp r
def cp (sh:Sh) (env:Env) (hp:cT):Ren:=rJ (xC hp sh.ob (rK hp sh.fx++oI env sh.sl))
def uY (ren:Ren) (m:Nat):List (Nat×Bool×OSh)→Bool
 | []=>true
 |(l,_)::r=>(match ren l with|some k=> !Nat.beq k m|none=>true)&&uY ren m r
def injO (ren:Ren):List (Nat×Bool×OSh)→Bool
 | []=>true
 |(l,_)::r=>(match ren l with|some m=>uY ren m r|none=>true)&&injO ren r
def qz (hp:cT):List CSh→List Cell→Ups
 | .sl _ _::r,c::d=>ja hp [c]++qz hp r d
 |_::r,_::d=>qz hp r d
 |_,_=> []
def rL (hp:cT):List (Bool×List CSh)→List (Bool×List Cell)→Ups
 |(_,cs)::r,(_,ds)::c=>qz hp cs ds++rL hp r c
 |_,_=> []
def kE (env:Env) (hp:cT):List (Nat×SSh)→Ups
 | []=> []
 |(t,.v _ cs)::r=>(match env t with|some (.v _ ds)=>qz hp cs ds|_=> [])++kE env hp r
 |(t,.tup l)::r=>(match env t with|some (.tup ds)=>rL hp l ds|_=> [])++kE env hp r
def mS (hp : cT) (ren : Ren) : List (Nat × Bool × OSh) → Ups
  | []=> []
  |(l,_,.box _ cs)::r=>(match ren l with
    |some m=>(match hp m with|some (.box _ ds)=>qz hp cs ds|_=> [])
    |none=> [])++mS hp ren r
  |_::r=>mS hp ren r
def iP (ren:Ren):List (Nat×Bool×OSh)→Ups
 | []=> []
 |(l,_)::r=>(match ren l with|some m=> [(m,none)]|none=> [])++iP ren r
def eC (sh:Sh) (env:Env) (hp:cT):Ups:=
 (kE env hp sh.sl++mS hp (cp sh env hp) sh.ob)++iP (cp sh env hp) sh.ob
def jZ (sh:Sh) (env:Env) (hp:cT):Ups:=iP (cp sh env hp) sh.ob++(kE env hp sh.sl++mS hp (cp sh env hp) sh.ob).map fun p=>(p.1,none)
def iM:List Nat→List Nat→Bool
 | [],_=>true
 |x::r,l=> !mR x l&&iM r l
def hY (sh:Sh) (env:Env) (hp:cT):Ups:=kE env hp sh.sl++mS hp (cp sh env hp) sh.ob
def oJ (sh : Sh) (env : Env) (hp : cT) : Option (TS sh) :=
  if (injO (cp sh env hp) sh.ob&&iM (names (hY sh env hp)) (names (iP (cp sh env hp) sh.ob)))=true then
    wl env hp (cp sh env hp) sh.sl (toO hp (cp sh env hp) sh.ob) else none
def put {α:Type} (f:Nat→Option α) (t:Nat) (s:Option α):Nat→Option α:=fun i=>if Nat.beq i t=true then s else f i
def ups (hp:cT):Ups→cT
 | []=>hp
 |(l,o)::r=>ups (put hp l o) r
def ofC (f:Nat→Nat):{τ:Type}→(cs:List CSh)→TL cs τ→List Cell×τ
 |_,[],y=>([],y)
 |_,.int k::r,x=>(.int k x.1::(ofC f r x.2).1,(ofC f r x.2).2)
 |_,.bool::r,x=>(.bool x.1::(ofC f r x.2).1,(ofC f r x.2).2)
 |_,.str::r,x=>(.str x.1::(ofC f r x.2).1,(ofC f r x.2).2)
 |_,.val::r,x=>(.val x.1::(ofC f r x.2).1,(ofC f r x.2).2)
 |_,.sl e t::r,x=>(.sl e t x.1::(ofC f r x.2).1,(ofC f r x.2).2)
 |_,.fn g::r,x=>(.val (.func (.func g) #[] #[])::(ofC f r x).1,(ofC f r x).2)
 |_,.ref l::r,x=>(.ref (f l)::(ofC f r x).1,(ofC f r x).2)
 |_,.ptr l o::r,x=>(.ptr (f l) o::(ofC f r x).1,(ofC f r x).2)
 |_,.ifc::r,x=>(.ifc x.1::(ofC f r x.2).1,(ofC f r x.2).2)
 |_,.np l::r,x=>(.np (f l)::(ofC f r x).1,(ofC f r x).2)
def mr (f:Nat→Nat):{τ:Type}→(l:List (Bool×List CSh))→TLs l τ→List (Bool×List Cell)×τ
 |_,[],y=>([],y)
 |_,(a,cs)::r,x=>((a,(ofC f cs x).1)::(mr f r (ofC f cs x).2).1,(mr f r (ofC f cs x).2).2)
def jt (f:Nat→Nat) (env:Env):{τ:Type}→(l:List (Nat×SSh))→TSl l τ→Env×τ
 |_,[],y=>(env,y)
 |_,(t,.v a cs)::r,x=>(put (jt f env r (ofC f cs x).2).1 t (some (.v a (ofC f cs x).1)),(jt f env r (ofC f cs x).2).2)
 |_,(t,.tup l)::r,x=>(put (jt f env r (mr f l x).2).1 t (some (.tup (mr f l x).1)),(jt f env r (mr f l x).2).2)
def ofO (f:Nat→Nat) (hp:cT):(l:List (Nat×Bool×OSh))→TO l→cT
 | [],_=>hp
 |(l,_,.box e cs)::r,x=>put (ofO f hp r (ofC f cs x).2) (f l) (some (.box e (ofC f cs x).1))
 |(l,_,.arr e t)::r,x=>put (ofO f hp r x.2) (f l) (some (.arr e t x.1))
 |(l,_,.mp g t)::r,x=>put (ofO f hp r x.2) (f l) (some (.mp g t x.1))
def rM (kp:List Nat) (env:Env):Env:=fun t=>if mR t kp=true then env t else none
def uZ (sh:Sh) (f:Nat→Nat) (env:Env) (x:TS sh):Env:=(jt f (rM sh.kp env) sh.sl x).1
def xD (sh:Sh) (f:Nat→Nat) (hp:cT) (env:Env) (x:TS sh):cT:=ofO f hp sh.ob (jt f (rM sh.kp env) sh.sl x).2
def hZ (ren:Ren) (nx:Nat):List (Nat×Bool×OSh)→Nat→Nat
 | [],l=>nx+l
 |(m,k,_)::r,l=>if Nat.beq m l=true then (match k with
  |true=>(match ren l with|some a=>a|none=>nx+l)
  |false=>nx+l) else hZ ren nx r l
structure Res where
 c:Bool
 s:Option fE
 up:Ups
 nw:Nat
abbrev rOk (s:fE):Option Res:=some ⟨true,some s,[],0⟩
abbrev rC (c:Bool) (k:Cell):Option Res:=some ⟨c,some (.v false [k]),[],0⟩
def binI (op:BinOp) (k:IntKind) (a b:Int):Option (Bool×Cell):=
 match op with
 | .add=>some (true,.int k (k.wrap (a+b)))
 | .sub=>some (true,.int k (k.wrap (a-b)))
 | .mul=>some (true,.int k (k.wrap (a*b)))
 | .quo=>some (!decide (b=0),.int k (k.wrap (a.tdiv b)))
 | .rem=>some (!decide (b=0),.int k (a.tmod b))
 | .and=>some (true,.int k (k.wrap (BitVec.ofInt k.bits a&&&BitVec.ofInt k.bits b).toNat))
 | .or=>some (true,.int k (k.wrap (BitVec.ofInt k.bits a|||BitVec.ofInt k.bits b).toNat))
 | .xor=>some (true,.int k (k.wrap (BitVec.ofInt k.bits a^^^BitVec.ofInt k.bits b).toNat))
 | .andNot=>some (true,.int k (k.wrap (BitVec.ofInt k.bits a&&&~~~ (BitVec.ofInt k.bits b)).toNat))
 | .eql=>some (true,.bool (a==b))
 | .neq=>some (true,.bool (a !=b))
 | .lss=>some (true,.bool (decide (a<b)))
 | .leq=>some (true,.bool (decide (a≤b)))
 | .gtr=>some (true,.bool (decide (a>b)))
 | .geq=>some (true,.bool (decide (a≥b)))
 |_=>none
def binS (op:BinOp) (a b:ByteArray):Option (Bool×Cell):=
 match op with
 | .add=>some (!decide (((a.size+b.size:Nat):Int)>IntKind.i64.max),.str (a++b))
 | .eql=>some (true,.bool (a.toList==b.toList))
 | .neq=>some (true,.bool (!(a.toList==b.toList)))
 | .lss=>some (true,.bool (Op.bytesLess a.toList b.toList))
 | .leq=>some (true,.bool (Op.bytesLess a.toList b.toList||a.toList==b.toList))
 | .gtr=>some (true,.bool (!(Op.bytesLess a.toList b.toList||a.toList==b.toList)))
 | .geq=>some (true,.bool (!Op.bytesLess a.toList b.toList))
 |_=>none
def shI (op:BinOp) (k:IntKind) (a b:Int):Option (Bool×Cell):=
 match op with
 | .shl=>some (!decide (b<0),.int k (k.wrap (a*2^min b.toNat k.bits)))
 | .shr=>some (!decide (b<0),.int k (a.fdiv (2^min b.toNat k.bits)))
 |_=>none
def Ty.eq:(t:Ty)→t.T→t.T→Bool
 | .int _,x,y=>x==y
 | .bool,x,y=>x==y
 | .str,x,y=>x==y
 | .pair a b,x,y=>a.eq x.1 y.1&&b.eq x.2 y.2
 |_,_,_=>true
structure mT where
 n:Nat
 si:Sh
 so:Sh
 F:TS si→Option (TS so)
structure kF where
 n:Nat
 si:Sh
 so:Sh
 F:TS si→Option (TS so⊕Int)
def wm (t:Nat) (n:Int):Value:=.iface t (.agg ⟨[.int .i64 n]⟩)
structure Fn where
 code:Code
 res:List ResultVar
structure Cx where
 tab:Nat→Option TI
 eqs:Nat→Option Ty
 spec:Nat→List (Option fE)→cT→Option mT
 pan:Nat
 specP:Nat→List (Option fE)→cT→Option kF
def eN:Option fE→Option Cell
 |some (.v false [c])=>some c
 |_=>none
def cellsOf:Option fE→Option (List Cell)
 |some (.v _ cs)=>some cs
 |_=>none
def rB:Option (Bool×Cell)→Option Res
 |some (c,k)=>rC c k
 |none=>none
def BC (cx : Cx) (op : BinOp) (t : Nat) : Option fE → Option fE → Option Res
  |some (.v false [.int k a]),some (.v false [.int l b])=>
    match op with
    | .shl=>rB (shI .shl k a b)
    | .shr=>rB (shI .shr k a b)
    |_=>if kb k l=true then rB (binI op k a b) else none
  |some (.v false [.str a]),some (.v false [.str b])=>rB (binS op a b)
  |some (.v false [.bool a]),some (.v false [.bool b])=>
    match cx.tab t with
    |some {kind:=.bool,..}=>(match op with
      | .eql=>rC true (.bool (a==b))
      | .neq=>rC true (.bool (!(a==b)))
      |_=>none)
    |_=>none
  |some (.v true xs),some (.v true ys)=>
    match cx.eqs t with
    |some ty=>match ty.co (fun _=>none) xs,ty.co (fun _=>none) ys with
      |some x,some y=>(match op with
        | .eql=>rC true (.bool (ty.eq x y))
        | .neq=>rC true (.bool (!ty.eq x y))
        |_=>none)
      |_,_=>none
    |none=>none
  |_,_=>none
def rN (hp : cT) : Cell → Option Nat
  | .sl _ _ xs=>some xs.length
  | .ref l=>match hp l with
    |some (.arr _ _ xs)=>some xs.length
    |some (.frz _ _ xs)=>some xs.length
    |_=>none
  | .sub _ _ _ len=>some len
  | .val (.slice none 0 0)=>some 0
  | .bs _ k=>some k
  |_=>none
def bM (s:ByteArray) (i:Nat):Int:=(s.data.toList.getD i 0).toNat
def splice (cs:List Cell) (off:Nat) (ds:List Cell):List Cell:=cs.take off++ds++cs.drop (off+ds.length)
def nY (hp : cT) (t : Ty) : List (List Cell) → Option (List t.T)
  | []=>some []
  |c::r=>match t.co hp c,nY hp t r with
    |some x,some xs=>some (x::xs)
    |_,_=>none
def kT (env : Operand → Option fE) : Nat → List (Nat × Operand) → Option (List (List Cell))
  |_,[]=>some []
  |i,(j,x)::r=>if Nat.beq i j=true then (match cellsOf (env x),kT env (i+1) r with
    |some c,some cs=>some (c::cs)
    |_,_=>none) else none
def xE (n e size:Nat):List (Nat×Nat):=(List.range n).map fun k=>(e,k*size)
def rO (env : Operand → Option fE) (fs : List (Nat × Nat)) (tab : Nat → Option TI) : List Cell → List (Nat × Operand) → Option (List Cell)
  |cs,[]=>some cs
  |cs,(j,x)::r=>match fs[j]?,cellsOf (env x) with
    |some (t,off),some ds=>(match tab t with
      |some i=>if Nat.beq ds.length i.size=true then (if (off+i.size).ble cs.length=true then rO env fs tab (splice cs off ds) r else none) else none
      |none=>none)
    |_,_=>none
def jL (i : TI) (cs : List Cell) (off : Nat) : Option Res :=
  if (off+i.size).ble cs.length=true then
    (if i.agg=true then rOk (.v true ((cs.drop off).take i.size)) else rOk (.v false ((cs.drop off).take i.size)))
  else none
def kl (env : Operand → Option fE) (d : Int) : Option Operand → Option Int
  |none=>some d
  |some x=>match eN (env x) with
    |some (.int _ i)=>some i
    |_=>none
def rP (cx : Cx) (nm : Nat) (hp : cT) (t : Nat) (s x : Cell) : Option Res :=
  match cx.tab t with
  |some {kind:=.sl e,..}=>
    match cx.tab e with
    |some {ty:=some ty,cap:=cap,..}=>
      match mQ e ty hp x with
      |some ys=>
        match s with
        | .ref l=>(match hp l with
          |some (.arr f u xs)=>(match kB e ty f u xs with
            |some xs'=>some ⟨(xs'.length+ys.length).ble cap,some (.v false [.ref nm]),[(l,none),(nm,some (.arr e ty (xs'++ys)))],1⟩
            |none=>none)
          |_=>none)
        | .val (.slice none 0 0)=>some ⟨ys.length.ble cap,some (.v false [.ref nm]),[(nm,some (.arr e ty ys))],1⟩
        |_=>none
      |none=>none
    |_=>none
  |_=>none
def u0 (cx : Cx) (hp : cT) (t : Nat) : Option Cell → Option Res
  |some (.sub l n lo len)=>match cx.tab t,hp l with
    |some {kind:=.sl e,..},some (.arr f u xs)=>match cx.tab e with
      |some i=>if (Nat.beq n u.n&&Nat.beq i.size u.n)=true then (match u.co (fun _=>none) (i.zero.map Cell.of) with
        |some z=>some ⟨true,some (.tup []),[(l,some (.arr f u (xs.take lo++List.replicate len z++xs.drop (lo+len))))],0⟩
        |none=>none) else none
      |none=>none
    |_,_=>none
  |_=>none
def rQ (cx : Cx) (nm t : Nat) : Option Cell → Option Cell → Option Res
  |some (.int _ a),some (.int _ b)=>match cx.tab t with
    |some {kind:=.sl e,..}=>(match cx.tab e with
      |some {ty:=some ty,cap:=cap,zero:=z,..}=>(match ty.co (fun _=>none) (z.map Cell.of) with
        |some y=>some ⟨decide (0≤a)&&(decide (a=b)&&Nat.ble a.toNat cap),some (.v false [.ref nm]),[(nm,some (.arr e ty (List.replicate a.toNat y)))],1⟩
        |none=>none)
      |_=>none)
    |_=>none
  |_,_=>none
def BD (hp : cT) : Cell → Option (Nat × Nat × Nat × Nat)
  | .sub l n lo len=>some (l,n,lo,len)
  | .ref l=>match hp l with
    |some (.arr _ u xs)=>some (l,u.n,0,xs.length)
    |_=>none
  |_=>none
def xF (cx : Cx) (hp : cT) (t : Nat) : Option Cell → Option Cell → Option Res
  |some d,some s=>match BD hp d with
    |some (l,n,lo,len)=>(match cx.tab t,hp l with
      |some {kind:=.sl e,..},some (.arr f u xs)=>(match cx.tab e,mQ f u hp s with
        |some i,some ys=>if (Nat.beq n u.n&&Nat.beq i.size u.n)=true then some ⟨true,some (.v false [.int .i64 (Nat.min ys.length len:Nat)]),[(l,some (.arr f u (xs.take lo++ys.take (Nat.min ys.length len)++xs.drop (lo+Nat.min ys.length len))))],0⟩ else none
        |_,_=>none)
      |_,_=>none)
    |none=>none
  |_,_=>none
def ly (env : Operand → Option fE) : List Operand → Option (List (Bool × List Cell))
  | []=>some []
  |x::r=>match env x,ly env r with
    |some (.v a c),some l=>some ((a,c)::l)
    |_,_=>none
def km (cx:Cx) (e n:Nat):Bool:=match cx.tab e with|some i=>Nat.beq i.size n|none=>false
def xG : List Cell → Option (List Value)
  | []=>some []
  |c::r=>match c.raw,xG r with
    |some v,some vs=>some (v::vs)
    |_,_=>none
def rawV:Bool→List Value→Option Value
 |true,vs=>some (.agg ⟨vs⟩)
 |false,[v]=>some v
 |_,_=>none
def TK.conc:TK→Bool
 | .other=>false
 | .ifc=>false
 |_=>true
def rawS : Option fE → Option Value
  |some (.v a cs)=>match xG cs with
    |some vs=>rawV a vs
    |none=>none
  |_=>none
abbrev tVal:Ty:=.pair (.int .i64) (.pair (.int .i64) .str)
def kV (a b:Int) (s:ByteArray):Value:=.agg ⟨[.int .i64 a,.int .i64 b,.string s]⟩
def kEq:Value→Value→Bool
 | .string a,.string b=>a==b
 | .agg ⟨[.int .i64 a,.int .i64 b,.string s]⟩,.agg ⟨[.int .i64 a',.int .i64 b',.string s']⟩=>a==a'&&(b==b'&&s==s')
 |_,_=>false
def getKV {α:Type} (s:Value):List (Value×α)→Option α
 | []=>none
 |(k,x)::r=>bif kEq s k then some x else getKV s r
def fe {α:Type} (s:Value) (y:α):List (Value×α)→List (Value×α)
 | []=> [(s,y)]
 |(k,x)::r=>bif kEq s k then (k,y)::r else (k,x)::fe s y r
def tP (cx : Cx) (kt : Nat) : Option Bool := match cx.tab kt with
  |some {kind:=.str,..}=>some false
  |some {kind:=.st [(p,0),(q,1),(r,2)],..}=>(match cx.tab p,cx.tab q,cx.tab r,cx.eqs kt with
    |some {kind:=.int .i64,..},some {kind:=.int .i64,..},some {kind:=.str,..},some ty=>if ty.b tVal=true then some true else none
    |_,_,_,_=>none)
  |_=>none
def keyS (b:Bool) (s:Option fE):Option Value:=match b,s with
 |false,some (.v false [.str s])=>some (.string s)
 |true,some (.v true [.int .i64 a,.int .i64 b,.str s])=>some (kV a b s)
 |_,_=>none
def tQ (cx : Cx) (nm : Nat) (t : Nat) : Option Res := match cx.tab t with
  |some {kind:=.map k e,..}=>(match tP cx k,cx.tab e with
    |some q,some i=>(match i.ty with
      |some ty=>some ⟨true,some (.v false [.ref nm]),[(nm,some (.mp (i.agg,q) ty []))],1⟩
      |none=>none)
    |_,_=>none)
  |_=>none
def mU (cx : Cx) (hp : cT) (t : Nat) (m : Option Cell) (k x : Option fE) : Option Res := match cx.tab t,m,x with
  |some {kind:=.map kt e,..},some (.ref l),some (.v a cs)=>(match tP cx kt,hp l with
    |some q,some (.mp b u kvs)=>if (a==b.1&&(q==b.2&& !mR l (names (ja hp cs))))=true then (match keyS q k,u.co hp cs with
      |some s,some y=>some ⟨true,none,ja hp cs++ [(l,some (.mp b u (fe s y kvs)))],0⟩
      |_,_=>none) else none
    |_,_=>none)
  |_,_,_=>none
def oK (cx : Cx) (hp : cT) (t : Nat) (m : Option Cell) (k : Option fE) (two : Bool) : Option Res := match cx.tab t,m with
  |some {kind:=.map kt e,..},some (.ref l)=>(match tP cx kt,cx.tab e,hp l with
    |some q,some i,some (.mp b u kvs)=>if (b.1==i.agg&&q==b.2)=true then (match keyS q k,u.co (fun _=>none) (i.zero.map Cell.of) with
      |some s,some z=>some ⟨true,some (match two with
          |true=> .tup [(b.1,u.ex ((getKV s kvs).getD z)),(false,[.bool (getKV s kvs).isSome])]
          |false=> .v b.1 (u.ex ((getKV s kvs).getD z))),[],0⟩
      |_,_=>none) else none
    |_,_,_=>none)
  |_,_=>none
def ifcB:Option Cell→Option Bool
 |some (.ifc b)=>some b
 |some (.val .nilIface)=>some true
 |some (.val (.iface _ _))=>some false
 |_=>none
def ifcX (cx:Cx) (op:BinOp) (t:Nat) (y:Operand) (c:Option Cell):Option Bool:=match cx.tab t,op,y,ifcB c with
 |some {kind:=.ifc,..},.eql,.const .nilIface,some b=>some b
 |some {kind:=.ifc,..},.neq,.const .nilIface,some b=>some (!b)
 |_,_,_,_=>none
def oL (cx : Cx) (t : Nat) (c : Option Cell) : Option Res := match cx.tab t,c with
  |some i,some (.val (.iface u v))=>if (i.kind.conc&&(Nat.beq u t&&tM v))=true then (match fE.of v with
    | .v a cs=>rOk (.tup [(a,cs),(false,[.bool true])])
    |_=>none) else none
  |_,_=>none
def gR (  cx : Cx) (nm : Nat) (op : Op) (env : Operand → Option fE) (hp : cT) : Option Res :=
  match op with
  | .move x=>some ⟨true,env x,[],0⟩
  | .assign x=>some ⟨true,env x,[],0⟩
  | .pick c a b=>match env c with
    |some (.v false [.bool v])=>some ⟨true,(match v with|true=>env a|false=>env b),[],0⟩
    |_=>none
  | .alloc e=>match cx.tab e with
    |some i=>some ⟨true,some (.v false [.ptr nm 0]),[(nm,some (.box e (i.zero.map Cell.of)))],1⟩
    |none=>none
  | .box e x=>match cx.tab e,cellsOf (env x) with
    |some i,some cs=>if Nat.beq cs.length i.size=true then some ⟨true,some (.v false [.ptr nm 0]),[(nm,some (.box e cs))],1⟩ else none
    |_,_=>none
  | .build t parts=>match cx.tab t with
    |some {kind:=.st fs,zero:=zero,..}=>(match rO env fs cx.tab (zero.map Cell.of) parts.toList with
      |some cs=>rOk (.v true cs)
      |none=>none)
    |some {kind:=.arr n e,zero:=zero,..}=>(match cx.tab e with
      |some j=>(match rO env (xE n e j.size) cx.tab (zero.map Cell.of) parts.toList with
        |some cs=>rOk (.v true cs)
        |none=>none)
      |none=>none)
    |_=>none
  | .buildSlice t len parts=>match cx.tab t with
    |some {kind:=.sl e,..}=>(match cx.tab e with
      |some {ty:=some ty,size:=size,..}=>(match kT env 0 parts.toList with
        |some cs=>if (Nat.beq cs.length len&&(len*size).ble 16777216)=true then (match nY hp ty cs with
          |some xs=>some ⟨true,some (.v false [.ref nm]),ja hp cs.flatten++ [(nm,some (.arr e ty xs))],1⟩
          |none=>if (cs.all fun c=>Nat.beq c.length size)=true then some ⟨true,some (.v false [.bs nm len]),[(nm,some (.box e cs.flatten))],1⟩ else none) else none
        |none=>none)
      |_=>none)
    |_=>none
  | .load t a=>match cx.tab t,eN (env a) with
    |some i,some (.ptr l off)=>(match hp l with
      |some (.box _ cs)=>jL i cs off
      |_=>none)
    |some i,some (.rdp u x off)=>jL i (u.ex x) off
    |some i,some (.elp l n j off)=>(match hp l with
      |some (.arr _ u xs)=>if Nat.beq n u.n=true then jL i (u.ex (xs.getD j u.z)) off else none
      |some (.frz _ u xs)=>if Nat.beq n u.n=true then jL i (u.ex (xs.getD j u.z)) off else none
      |_=>none)
    |_,_=>none
  | .store t a x=>match cx.tab t,eN (env a),cellsOf (env x) with
    |some i,some (.ptr l off),some ds=>(match hp l with
      |some (.box e cs)=>if Nat.beq ds.length i.size=true then (if (off+i.size).ble cs.length=true then
          some ⟨true,none,[(l,some (.box e (splice cs off ds)))],0⟩ else none) else none
      |_=>none)
    |some i,some (.elp l n j off),some ds=>(match hp l with
      |some (.arr e u xs)=>if (Nat.beq n u.n&&(Nat.beq ds.length i.size&& !mR l (names (ja hp ds))))=true then (if (off+i.size).ble u.n=true then
          (match u.co hp (splice (u.ex (xs.getD j u.z)) off ds) with
          |some y=>some ⟨true,none,ja hp ds++ [(l,some (.arr e u (xs.set j y)))],0⟩
          |none=>none) else none) else none
      |_=>none)
    |_,_,_=>none
  | .nilCheck x=>match eN (env x) with
    |some (.ptr l o)=>rC true (.ptr l o)
    |some (.rdp t x o)=>rC true (.rdp t x o)
    |some (.elp l n i o)=>rC true (.elp l n i o)
    |some (.val (.func (.func f) ⟨[]⟩ ⟨[]⟩))=>rC true (.val (.func (.func f) #[] #[]))
    |_=>none
  | .binOp op t x y _=>match ifcX cx op t y (eN (env x)) with
    |some b=>rC true (.bool b)
    |none=>BC cx op t (env x) (env y)
  | .unOp op _ x=>match op,eN (env x) with
    | .not,some (.bool b)=>rC true (.bool (!b))
    | .neg,some (.int k a)=>rC true (.int k (k.wrap (0-a)))
    |_,_=>none
  | .convert s d x=>match cx.tab s,cx.tab d,eN (env x) with
    |some {kind:=.int _,..},some {kind:=.int k,..},some (.int _ a)=>rC true (.int k (k.wrap a))
    |some {kind:=.str,..},some {kind:=.str,..},some (.str a)=>rC true (.str a)
    |_,_,_=>none
  | .makeFunc (.func f) first caps=>match ly env first.toList,ly env caps.toList with
    |some a,some b=>some ⟨true,some (.v false [.ref nm]),[(nm,some (.clo f a b))],1⟩
    |_,_=>none
  | .slice t x lo hi none=>match cx.tab t,eN (env x) with
    |some {kind:=.str,..},some (.str s)=>(match kl env 0 lo,kl env s.size hi with
      |some a,some b=>rC (decide (0≤a)&&(decide (a≤b)&&decide (b≤(s.size:Int)))) (.str (s.extract a.toNat b.toNat))
      |_,_=>none)
    |some {kind:=.sl e',..},some (.sl e u xs)=>(match kl env 0 lo,kl env xs.length hi with
      |some a,some b=>if km cx e' u.n=true then rC (decide (0≤a)&&(decide (a≤b)&&decide (b≤(xs.length:Int)))) (.sl e u ((xs.take b.toNat).drop a.toNat)) else none
      |_,_=>none)
    |some {kind:=.sl e',..},some (.ref l)=>(match hp l with
      |some (.arr e u xs)=>(match kl env 0 lo,kl env xs.length hi with
        |some a,some b=>if km cx e' u.n=true then (if (lo.isNone&&u.again)=true then some ⟨(decide (0≤a)&&(decide (a≤b)&&decide (b≤(xs.length:Int)))),some (.v false [.ref nm]),[(l,none),(nm,some (.arr e u (xs.take b.toNat)))],1⟩
          else rC (decide (0≤a)&&(decide (a≤b)&&decide (b≤(xs.length:Int)))) (.sub l u.n a.toNat (b.toNat-a.toNat))) else none
        |_,_=>none)
      |some (.frz e u xs)=>(match kl env 0 lo,kl env xs.length hi with
        |some a,some b=>if km cx e' u.n=true then rC (decide (0≤a)&&(decide (a≤b)&&decide (b≤(xs.length:Int)))) (.sl e u ((xs.take b.toNat).drop a.toNat)) else none
        |_,_=>none)
      |_=>none)
    |_,_=>none
  | .fieldAddr s x f=>match cx.tab s,eN (env x) with
    |some {kind:=.st fs,..},some (.ptr l o)=>(match fs[f]? with|some (_,off)=>rC true (.ptr l (o+off))|none=>none)
    |some {kind:=.st fs,..},some (.rdp t x o)=>(match fs[f]? with|some (_,off)=>rC true (.rdp t x (o+off))|none=>none)
    |some {kind:=.st fs,..},some (.elp l n i o)=>(match fs[f]? with|some (_,off)=>rC true (.elp l n i (o+off))|none=>none)
    |_,_=>none
  | .field t x f=>match cx.tab t,env x with
    |some {kind:=.st fs,..},some (.v true cs)=>(match fs[f]? with
      |some (u,off)=>(match cx.tab u with|some i=>jL i cs off|none=>none)
      |none=>none)
    |_,_=>none
  | .indexAddr t x i=>match cx.tab t,eN (env x),eN (env i) with
    |some {kind:=.sl e,..},some (.sl _ u xs),some (.int _ j)=>
      if km cx e u.n=true then rC (decide (0≤j)&&decide (j<(xs.length:Int))) (.rdp u (xs.getD j.toNat u.z) 0) else none
    |some {kind:=.sl e,..},some (.ref l),some (.int _ j)=>(match hp l with
      |some (.arr _ u xs)=>if km cx e u.n=true then rC (decide (0≤j)&&decide (j<(xs.length:Int))) (.elp l u.n j.toNat 0) else none
      |some (.frz _ u xs)=>if km cx e u.n=true then rC (decide (0≤j)&&decide (j<(xs.length:Int))) (.rdp u (xs.getD j.toNat u.z) 0) else none
      |_=>none)
    |some {kind:=.sl e,..},some (.sub l n lo len),some (.int _ j)=>
      if km cx e n=true then rC (decide (0≤j)&&decide (j<(len:Int))) (.elp l n (lo+j.toNat) 0) else none
    |some {kind:=.sl e,..},some (.bs l k),some (.int _ j)=>(match cx.tab e with
      |some i=>rC (decide (0≤j)&&decide (j<(k:Int))) (.ptr l (j.toNat*i.size))
      |none=>none)
    |some {kind:=.arr n e,..},some (.ptr l o),some (.int _ j)=>(match cx.tab e with
      |some i=>rC (decide (0≤j)&&decide (j<(n:Int))) (.ptr l (o+j.toNat*i.size))
      |none=>none)
    |some {kind:=.arr n e,..},some (.rdp u x o),some (.int _ j)=>(match cx.tab e with
      |some i=>rC (decide (0≤j)&&decide (j<(n:Int))) (.rdp u x (o+j.toNat*i.size))
      |none=>none)
    |some {kind:=.arr n e,..},some (.elp l n' k o),some (.int _ j)=>(match cx.tab e with
      |some i=>rC (decide (0≤j)&&decide (j<(n:Int))) (.elp l n' k (o+j.toNat*i.size))
      |none=>none)
    |_,_,_=>none
  | .index t x i=>match cx.tab t,eN (env x),eN (env i) with
    |some {kind:=.str,..},some (.str s),some (.int _ j)=>
      rC (decide (0≤j)&&decide (j<(s.size:Int))) (.int .u8 (bM s j.toNat))
    |_,_,_=>none
  | .makeMap t none=>tQ cx nm t
  | .typeAssert x _ t true=>oL cx t (eN (env x))
  | .insert t m k x=>mU cx hp t (eN (env m)) (env k) (env x)
  | .mapUpdate t m k x=>mU cx hp t (eN (env m)) (env k) (env x)
  | .lookup t m k two=>oK cx hp t (eN (env m)) (env k) two
  | .makeInterface t x=>match cx.tab t,rawS (env x) with
    |some i,some v=>if i.kind.conc=true then rC true (.val (.iface t v)) else none
    |_,_=>none
  | .extract x i=>match env x with
    |some (.tup l)=>(match l[i]? with|some (a,cs)=>rOk (.v a cs)|none=>none)
    |_=>none
  | .call {callee:=.builtin .len,args,argTypes}=>match argTypes.toList,args.toList with
    | [t],[x]=>(match cx.tab t,eN (env x) with
      |some {kind:=.sl _,..},some c=>(match rN hp c with|some n=>rC true (.int .i64 n)|none=>none)
      |some {kind:=.str,..},some (.str s)=>rC true (.int .i64 s.size)
      |_,_=>none)
    |_,_=>none
  | .call {callee:=.builtin .append,args,argTypes}=>match argTypes.toList,args.toList with
    | [t,u],[s,x]=>if Nat.beq t u=true then (match eN (env s),eN (env x) with
      |some a,some b=>rP cx nm hp t a b
      |_,_=>none) else none
    |_,_=>none
  | .call {callee:=.builtin .min,args,..}=>match args.toList with
    | [x,y]=>(match eN (env x),eN (env y) with
      |some (.int k a),some (.int _ b)=>rC true (.int k (bif decide (b<a) then b else a))
      |_,_=>none)
    |_=>none
  | .call {callee:=.builtin .copy,args,argTypes}=>match argTypes.toList,args.toList with
    | [t,_],[d,s]=>xF cx hp t (eN (env d)) (eN (env s))
    |_,_=>none
  | .makeSlice t n c=>rQ cx nm t (eN (env n)) (eN (env c))
  | .call {callee:=.builtin .clear,args,argTypes}=>match argTypes.toList,args.toList with
    | [t],[x]=>u0 cx hp t (eN (env x))
    |_,_=>none
  |_=>none
def gY:List (Option fE)→Env
 | [],_=>none
 |s::_,0=>s
 |_::r,n+1=>gY r n
def ii (ren:Ren) (nm:Nat) (l:Nat):Nat:=if Nat.ble 1000 l=true then nm+(l-1000) else match ren l with|some m=>m|none=>nm
def j6 (f:Nat→Nat) (hp:cT):List (Nat×Bool×OSh)→Ups
 | []=> []
 |(l,_)::r=>(f l,hp (f l))::j6 f hp r
def kU:List (Nat×Bool×OSh)→List Nat
 | []=> []
 |(l,_)::r=>l::kU r
def mV (obs:List Nat):List CSh→Bool
 | []=>true
 | .ref l::r=>(Nat.ble 1000 l||mR l obs)&&mV obs r
 | .ptr l _::r=>(Nat.ble 1000 l||mR l obs)&&mV obs r
 | .np l::r=>(Nat.ble 1000 l||mR l obs)&&mV obs r
 |_::r=>mV obs r
def tR (obs:List Nat):List (Bool×List CSh)→Bool
 | []=>true
 |(_,cs)::r=>mV obs cs&&tR obs r
def slIn (obs:List Nat):List (Nat×SSh)→Bool
 | []=>true
 |(_,.v _ cs)::r=>mV obs cs&&slIn obs r
 |(_,.tup l)::r=>tR obs l&&slIn obs r
def xH (obs:List Nat):List (Nat×Bool×OSh)→Bool
 | []=>true
 |(_,_,.box _ cs)::r=>mV obs cs&&xH obs r
 |(_,_,.arr _ _)::r=>xH obs r
 |(_,_,.mp _ _)::r=>xH obs r
def ny (ren:Ren):List (Nat×Bool×OSh)→Bool
 | []=>true
 |(l,_)::r=>(if Nat.ble 1000 l=true then true else (match ren l with|some _=>true|none=>false))&&ny ren r
def soOk (so:Sh):Bool:=slIn (kU so.ob) so.sl&&xH (kU so.ob) so.ob
structure CRes where
 Y:Type
 v:Option Y
 out:Y→Option fE×Ups
 nw:Nat
def jM (n:Nat):List CSh→Bool
 | []=>true
 | .ref l::r=>Nat.blt l n&&jM n r
 | .ptr l _::r=>Nat.blt l n&&jM n r
 | .np l::r=>Nat.blt l n&&jM n r
 |_::r=>jM n r
def nA (n:Nat):List (Bool×List CSh)→Bool
 | []=>true
 |(_,cs)::r=>jM n cs&&nA n r
def ow (n:Nat):List (Nat×SSh)→Bool
 | []=>true
 |(_,.v _ cs)::r=>jM n cs&&ow n r
 |(_,.tup l)::r=>nA n l&&ow n r
def kn (n:Nat):List (Nat×Bool×OSh)→Bool
 | []=>true
 |(l,_,.box _ cs)::r=>Nat.blt l n&&(jM n cs&&kn n r)
 |(l,_,.arr _ _)::r=>Nat.blt l n&&kn n r
 |(l,_,.mp _ _)::r=>Nat.blt l n&&kn n r
def iv (sh:Sh):Bool:=ow sh.nn sh.sl&&kn sh.nn sh.ob
def ik (so:Sh) (f:Nat→Nat) (y:TS so):Env:=(jt f (fun _=>none) so.sl y).1
def eO (so:Sh) (f:Nat→Nat) (y:TS so):cT:=ofO f (fun _=>none) so.ob (jt f (fun _=>none) so.sl y).2
def qA (sp:mT) (nm:Nat) (args:List (Option fE)) (hp:cT):Option CRes:=
  if Nat.beq args.length sp.n=true then
  if (iv sp.si&&(Nat.ble sp.si.nn 1000&&(soOk sp.so&&ny (cp sp.si (gY args) hp) sp.so.ob)))=true then
  match oJ sp.si (gY args) hp with
  |some x=>some ⟨TS sp.so,sp.F x,fun y=>
      (ik sp.so (ii (cp sp.si (gY args) hp) nm) y 0,
       eC sp.si (gY args) hp++j6 (ii (cp sp.si (gY args) hp) nm) (eO sp.so (ii (cp sp.si (gY args) hp) nm) y) sp.so.ob),sp.so.nn-1000⟩
  |none=>none
  else none
  else none
structure CResP where
 Y:Type
 v:Option (Y⊕Int)
 out:Y→Option fE×Ups
 nw:Nat
def u4 (sp:kF) (nm:Nat) (args:List (Option fE)) (hp:cT):Option CResP:=
  if Nat.beq args.length sp.n=true then
  if (iv sp.si&&(Nat.ble sp.si.nn 1000&&(soOk sp.so&&ny (cp sp.si (gY args) hp) sp.so.ob)))=true then
  match oJ sp.si (gY args) hp with
  |some x=>some ⟨TS sp.so,sp.F x,fun y=>
      (ik sp.so (ii (cp sp.si (gY args) hp) nm) y 0,
       eC sp.si (gY args) hp++j6 (ii (cp sp.si (gY args) hp) nm) (eO sp.so (ii (cp sp.si (gY args) hp) nm) y) sp.so.ob),sp.so.nn-1000⟩
  |none=>none
  else none
  else none
inductive Out where
 |normal (st:St)
 |exit (id:Nat) (st:St)
 |ret (st:St)
 |pan (n:Int) (st:St)
abbrev Inl:=(R:Type)→Nat→List (Option fE)→cT→Nat→List Nat→(Option fE→cT→Nat→List Nat→Option R)→(Int→cT→Nat→List Nat→Option R)→Option R
def gj (env:Env) (d:Option Nat) (s:Option fE):Env:=match d with
 |some t=>put env t s
 |none=>env
def mW (hp : cT) (f : Option Cell) (args : List (Option fE)) : Option (Nat × List (Option fE)) := match f with
  |some (.val (.func (.func g) ⟨[]⟩ ⟨[]⟩))=>some (g,args)
  |some (.ref l)=>match hp l with
    |some (.clo g first caps)=>some (g,first.map (fun c=>some (.v c.1 c.2))++args++caps.map (fun c=>some (.v c.1 c.2)))
    |_=>none
  |_=>none
def nilX (cx:Cx) (t:Nat) (c:Option Cell) (q:Bool):Option (Bool×Bool):=match cx.tab t,c with
 |some {kind:=.sl _,..},some (.sl _ _ xs)=>some (xs.isEmpty,q)
 |_,_=>none
def nilQ (cx:Cx) (env:Env):Op→Option (Bool×Bool)
 | .binOp .eql t x (.const (.slice none 0 0)) _=>nilX cx t (eN (opd env x)) true
 | .binOp .neq t x (.const (.slice none 0 0)) _=>nilX cx t (eN (opd env x)) false
 |_=>none
section
variable {R:Type}
open Classical in
noncomputable def rR (p:Bool→Option R):Option R:=if p true=p false then p false else none
theorem wn {p:Bool→Option R} {r:R} (h:rR p=some r) (b:Bool):p b=some r:=by
 unfold rR at h
 split at h
 ·rename_i e
  cases b with
  |true=>rw [e];exact h
  |false=>exact h
 ·cases h
open Classical in
noncomputable def nC (l:List (Option R)):Option R:=match l with
 | []=>none
 |x::r=>if (∀y∈r,y=x) then x else none
theorem rS {l:List (Option R)} {r:R} (h:nC l=some r):∀x∈l,x=some r:=by
 unfold nC at h
 split at h
 ·cases h
 ·rename_i x r'
  split at h
  ·rename_i e
   intro y hy
   rcases List.mem_cons.1 hy with rfl|hy
   ·exact h
   ·rw [e y hy];exact h
  ·cases h
theorem wo {l:List (Option R)} {r:R} (h:nC l=some r):l≠ []:=fun e=>by subst e;cases h
noncomputable def step (cx:Cx) (inl:Inl) (o:Oper) (st:St) (κ:St→Option R) (κp:Int→St→Option R):Option R:=
  match o.op with
  | .call { callee := .value f,args,.. } =>
    match mW st.hp (eN (opd st.env f)) (args.toList.map (opd st.env)) with
    | some (g,as) => match cx.spec g as st.hp with
      |some sp=>match qA sp st.nx as st.hp with
        |some r=>r.v.bind fun y=>κ ⟨gj st.env o.dst (r.out y).1,ups st.hp (r.out y).2,st.nx+r.nw,names (r.out y).2++st.dt⟩
        |none=>none
      |none=>match cx.specP g as st.hp with
        |some sp=>match u4 sp st.nx as st.hp with
          |some r=>r.v.bind fun z=>match z with
            | .inl y=>κ ⟨gj st.env o.dst (r.out y).1,ups st.hp (r.out y).2,st.nx+r.nw,names (r.out y).2++st.dt⟩
            | .inr n=>κp n ⟨st.env,ups st.hp (eC sp.si (gY as) st.hp),st.nx,names (eC sp.si (gY as) st.hp)++st.dt⟩
          |none=>none
        |none=>inl R g as st.hp st.nx st.dt (fun s hp nx dt=>κ ⟨gj st.env o.dst s,hp,nx,dt⟩) fun n hp nx dt=>κp n ⟨st.env,hp,nx,dt⟩
    |none=>none
  | .panic x=>match eN (opd st.env x) with
    |some (.val (.iface t (.agg ⟨[.int .i64 n]⟩)))=>if Nat.beq t cx.pan=true then κp n st else none
    |_=>none
  |op=>match nilQ cx st.env op with
    |some (e,q)=>bif e then rR (fun b=>κ ⟨gj st.env o.dst (some (.v false [.bool b])),st.hp,st.nx,st.dt⟩)
        else κ ⟨gj st.env o.dst (some (.v false [.bool (!q)])),st.hp,st.nx,st.dt⟩
    |none=>match gR cx st.nx op (opd st.env) st.hp with
      |some r=>bif r.c then κ ⟨gj st.env o.dst r.s,ups st.hp r.up,st.nx+r.nw,names r.up++st.dt⟩ else none
      |none=>none
noncomputable def ev1 (cx:Cx) (inl:Inl) (ops:Array Oper) (o:Oper) (st:St) (κ:St→Option R) (κp:Int→St→Option R):Option R:=
  match o.guard with
    |none=>step cx inl o st κ κp
    | some (g,want) => match (ops[g]?).bind (·.dst) with
      | some t => (match eN (st.env t) with
        |some (.bool b)=>bif b then
            (match want with
             |true=>step cx inl o ⟨put st.env t (some (.v false [.bool true])),st.hp,st.nx,st.dt⟩ κ κp
             |false=>κ ⟨gj (put st.env t (some (.v false [.bool true]))) o.dst (some (.tup [])),st.hp,st.nx,st.dt⟩)
          else
            (match want with
             |false=>step cx inl o ⟨put st.env t (some (.v false [.bool false])),st.hp,st.nx,st.dt⟩ κ κp
             |true=>κ ⟨gj (put st.env t (some (.v false [.bool false]))) o.dst (some (.tup [])),st.hp,st.nx,st.dt⟩)
        |_=>(match st.env t with
          |some (.tup [])=>κ ⟨gj st.env o.dst (some (.tup [])),st.hp,st.nx,st.dt⟩
          |_=>none))
      |none=>none
noncomputable def xI (cx:Cx) (inl:Inl) (ops:Array Oper):List Oper→St→(St→Option R)→(Int→St→Option R)→Option R
 | [],st,κ,_=>κ st
 |o::r,st,κ,κp=>ev1 cx inl ops o st (fun st=>xI cx inl ops r st κ κp) κp
def oM (ls:List Bool):List Edge→Bool
 | []=>true
 |e::r=>(!Region.binds .any e||ls.getD e.on false)&&oM ls r
def rT (ls:List Bool):Nat→List Oper→List Nat
 |_,[]=> []
 |i,o::r=>bif !(ls.getD i true)&&oM ls o.after.toList then i::rT ls (i+1) r else rT ls (i+1) r
noncomputable def u6 (cx:Cx) (inl:Inl) (ops:Array Oper):Nat→List Bool→St→(St→Option R)→(Int→St→Option R)→Option R
 |0,_,st,κ,_=>κ st
 |n+1,ls,st,κ,κp=>nC ((rT ls 0 ops.toList).map fun i=>match ops.toList[i]? with
  |some o=>ev1 cx inl ops o st (fun st=>u6 cx inl ops n (ls.set i true) st κ κp) κp
  |none=>none)
end
structure Tr where
 up:Ups
 looks:List Nat
 says:List Nat
 nm:Nat
 nw:Nat
def dL:List Cell→List Nat
 | []=> []
 | .ref l::r=>l::dL r
 | .sub l _ _ _::r=>l::dL r
 | .ptr l _::r=>l::dL r
 | .elp l _ _ _::r=>l::dL r
 | .np l::r=>l::dL r
 | .bs l _::r=>l::dL r
 |_::r=>dL r
def kG:List (Bool×List Cell)→List Nat
 | []=> []
 |(_,cs)::r=>dL cs++kG r
def gW:Option fE→List Nat
 |some (.v _ cs)=>dL cs
 |some (.tup l)=>kG l
 |none=> []
def iJ:Option Ob→List Nat
 |some (.box _ cs)=>dL cs
 |some (.clo _ a b)=>kG a++kG b
 |_=> []
def jR:Ups→List Nat
 | []=> []
 |(_,o)::r=>iJ o++jR r
def j7:List (Option fE)→List Nat
 | []=> []
 |s::r=>gW s++j7 r
def B6 (hp:cT) (l:List Nat):List Nat:=l++l.flatMap fun n=>iJ (hp n)++(iJ (hp n)).flatMap fun m=>iJ (hp m)
def jN (l:List Nat) (hp:cT):cT:=fun n=>if mR n l=true then hp n else none
def qB (env:Env) (o:Oper):List (Option fE):=o.op.operands.toList.map (opd env)
def ko (ts:List Nat) (env:Env):Env:=fun t=>if mR t ts=true then env t else none
def je (o:Oper):List Nat:=o.op.operands.toList.filterMap fun| .tmp t=>some t|_=>none
def jo (nx:Nat):List Nat→Bool
 | []=>true
 |x::r=>Nat.blt x nx&&jo nx r
def jQ (st:St) (o:Oper):List Nat:=match o.op with
 | .move _| .nilCheck _| .fieldAddr ..=>j7 (qB (ko (je o) st.env) o)
 |_=>B6 st.hp (j7 (qB (ko (je o) st.env) o))
def lkOk (st:St) (lk:List Nat):Bool:=jo st.nx lk&&jo st.nx (lk.flatMap fun l=>iJ (st.hp l))
section
variable {R:Type}
def pZ (cx : Cx) (o : Oper) (st : St) (κ : St → Tr → Option R) : Option R :=
  if lkOk st (jQ st o)=true then
  match o.op with
  | .call { callee := .value f,args,.. } =>
    match mW (jN (jQ st o) st.hp) (eN (opd (ko (je o) st.env) f)) (args.toList.map (opd (ko (je o) st.env))) with
    | some (g,as) => match cx.spec g as (jN (jQ st o) st.hp) with
      |some sp=>match qA sp st.nx as (jN (jQ st o) st.hp) with
        |some r=>r.v.bind fun y=>κ ⟨gj st.env o.dst (r.out y).1,ups st.hp (r.out y).2,st.nx+r.nw,names (r.out y).2++st.dt⟩
            ⟨(r.out y).2,jQ st o,gW (r.out y).1++jR (r.out y).2,st.nx,r.nw⟩
        |none=>none
      |none=>none
    |none=>none
  |op=>match gR cx st.nx op (opd (ko (je o) st.env)) (jN (jQ st o) st.hp) with
    |some r=>bif r.c then κ ⟨gj st.env o.dst r.s,ups st.hp r.up,st.nx+r.nw,names r.up++st.dt⟩
        ⟨r.up,jQ st o,gW r.s++jR r.up,st.nx,r.nw⟩ else none
    |none=>none
  else none
def iQ      (cx : Cx) (ops : Array Oper) : List Oper → St → List Tr → (St → List Tr → Option R) → Option R
  | [],st,tr,κ=>κ st tr
  | o :: r,st,tr,κ => match o.guard with
    |none=>pZ cx o st fun st t=>iQ cx ops r st (tr++ [t]) κ
    | some (g,want) => match (ops[g]?).bind (·.dst) with
      | some t => (match eN (st.env t) with
        |some (.bool b)=>bif b then
            (match want with
             |true=>pZ cx o ⟨put st.env t (some (.v false [.bool true])),st.hp,st.nx,st.dt⟩ fun st t=>iQ cx ops r st (tr++ [t]) κ
             |false=>iQ cx ops r ⟨gj (put st.env t (some (.v false [.bool true]))) o.dst (some (.tup [])),st.hp,st.nx,st.dt⟩ (tr++ [⟨[],[],[],st.nx,0⟩]) κ)
          else
            (match want with
             |false=>pZ cx o ⟨put st.env t (some (.v false [.bool false])),st.hp,st.nx,st.dt⟩ fun st t=>iQ cx ops r st (tr++ [t]) κ
             |true=>iQ cx ops r ⟨gj (put st.env t (some (.v false [.bool false]))) o.dst (some (.tup [])),st.hp,st.nx,st.dt⟩ (tr++ [⟨[],[],[],st.nx,0⟩]) κ)
        |_=>(match st.env t with
          |some (.tup [])=>iQ cx ops r ⟨gj st.env o.dst (some (.tup [])),st.hp,st.nx,st.dt⟩ (tr++ [⟨[],[],[],st.nx,0⟩]) κ
          |_=>none))
      |none=>none
end
def u7 (t:Tr):List Nat:=(List.range t.nw).map (t.nm+ ·)
def mB (ops : Array Oper) (o : Oper) : List Nat :=
  (o.op.operands.toList.filterMap fun| .tmp t=>some t|_=>none)++(match o.guard with
    |some (g,_)=>(match (ops[g]?).bind (·.dst) with|some t=> [t]|none=> [])
    |none=> [])
def gX (o:Oper):List Nat:=match o.dst with|some t=> [t]|none=> []
def oN (ops:Array Oper) (a b:Oper) (s t:Tr):Bool:=
 iM (gX a) (mB ops b)&&iM (gX b) (mB ops a)&&iM (gX a) (gX b)&&
 iM (names s.up) (names t.up)&&iM (names s.up) t.looks&&iM (names t.up) s.looks&&
 iM (u7 s) t.says&&iM (u7 t) s.says&&iM (u7 s) t.looks&&iM (u7 t) s.looks
def xJ {α:Type} (n:Nat) (k:Nat→α):α:=match n with|0=>k 0|m+1=>k (m+1)
def kX (acc:List Nat):List Edge→Nat
 | []=>0
 |e::r=>bif Region.binds .any e then Nat.lor (Nat.lor (Nat.pow 2 e.on) (acc.getD e.on 0)) (kX acc r) else kX acc r
def lz:List Oper→List Nat→List Nat
 | [],acc=>acc
 |o::r,acc=>xJ (kX acc o.after.toList) fun v=>lz r (acc++ [v])
def nD:Nat→List Oper→Bool
 |_,[]=>true
 |i,o::r=>(o.after.toList.all fun e=> !Region.binds .any e||Nat.blt e.on i)&&nD (i+1) r
def xK (ops:Array Oper) (bs:List Nat) (i:Nat) (o:Oper) (t:Tr):Nat→List (Oper×Tr)→Bool
 |_,[]=>true
 |j,(p,u)::r=>((bs.getD j 0).testBit i||oN ops o p t u)&&xK ops bs i o t (j+1) r
def qC (ops:Array Oper) (bs:List Nat):Nat→List (Oper×Tr)→Bool
 |_,[]=>true
 |i,(o,t)::r=>xK ops bs i o t (i+1) r&&qC ops bs (i+1) r
def va (ops:Array Oper) (l:List (Oper×Tr)):Bool:=nD 0 ops.toList&&qC ops (lz ops.toList []) 0 l
inductive H where
 |n
 |s (j:Option Sh) (a b:H)
 |c (a b:H)
 |b (a:H)
 |l (sh:Sh) (a:H)
 |d
def ix {S R : Type} (body : S → Option (S ⊕ R)) : Nat → S → Option R
  |0,_=>none
  |n+1,s=>match body s with
    |some (.inl s')=>ix body n s'
    |some (.inr r)=>some r
    |none=>none
open Classical in
noncomputable def p4 {S R:Type} (body:S→Option (S⊕R)) (s:S):Option R:=
 if h:∃n r,ix body n s=some r then some (choose (choose_spec h)) else none
noncomputable def aN {S R:Type} (body:S→Option (S⊕R)) (s:S):Option R:=match ix body 1000000 s with
 |some r=>some r
 |none=>p4 body s
def H.fst:H→H| .s _ x _=>x| .c x _=>x| .b x=>x| .l _ x=>x|_=> .n
def H.snd:H→H| .s _ _ y=>y| .c _ y=>y|_=> .n
def H.join:H→Option Sh| .s j _ _=>j|_=>none
def writes:Code→List Nat
 | .region _ ops _=>ops.toList.flatMap gX
 | .seq a b=>writes a++writes b
 | .cond _ a b=>writes a++writes b
 | .block _ c=>writes c
 | .loop c=>writes c
 |_=> []
def obN (f:Nat→Nat):List (Nat×Bool×OSh)→List Nat
 | []=> []
 |(l,_)::r=>f l::obN f r
def shOk (sh:Sh) (c:Code):Bool:=iM sh.kp (writes c)&&iv sh
def oO (ren:Ren) (f:Nat→Nat):List (Nat×Bool×OSh)→Bool
 | []=>true
 |(l,true,_)::r=>(match ren l with|some m=>Nat.beq m (f l)|none=>false)&&oO ren f r
 |(_,false,_)::r=>oO ren f r
def dtOk (nx:Nat) (obs:List Nat) (hp:cT):List Nat→Bool
 | []=>true
 |d::r=>(nx.ble d||(mR d obs||(match hp d with|none=>true|some _=>false)))&&dtOk nx obs hp r
def oP (sh : Sh) (f : Nat → Nat) (nx : Nat) (hp : cT) (st : St) : Option (TS sh) :=
  if oO (cp sh st.env st.hp) f sh.ob=true then
    (if dtOk nx (obN f sh.ob) hp (names (eC sh st.env st.hp)++st.dt)=true then oJ sh st.env st.hp else none) else none
def unr {R : Type} (f : H → St → (Out → Option R) → Option R) : H → St → (Out → Option R) → Option R
  | .c a b,st,κ=>f a st fun o=>match o with
    | .normal st'=>unr f b st' κ
    | .exit id st'=>κ (.exit id st')
    | .ret st'=>κ (.ret st')
    | .pan n st'=>κ (.pan n st')
  |_,_,_=>none
noncomputable def evC (cx:Cx) (inl:Inl):(R:Type)→Code→H→St→(Out→Option R)→Option R
  |_,.skip,_,st,κ=>κ (.normal st)
  |_,.label _,_,st,κ=>κ (.normal st)
  |_,.ret,_,st,κ=>κ (.ret st)
  |_,.exit id,_,st,κ=>κ (.exit id st)
  |_,.region _ ops false,_,st,κ=>xI cx inl ops ops.toList st (fun st=>κ (.normal st)) fun n st=>κ (.pan n st)
  |_,.region _ ops true,h,st,κ=>match h with
    | .d=>u6 cx inl ops ops.toList.length (List.replicate ops.toList.length false) st (fun st=>κ (.normal st)) fun n st=>κ (.pan n st)
    |_=>iQ cx ops ops.toList st [] fun st tr=>
      if va ops (ops.toList.zip tr)=true then κ (.normal st) else none
  |R,.seq a b,h,st,κ=>match h.join with
    |none=>evC cx inl R a h.fst st fun o=>match o with
      | .normal st'=>evC cx inl R b h.snd st' κ
      | .exit id st'=>κ (.exit id st')
      | .ret st'=>κ (.ret st')
      | .pan n st'=>κ (.pan n st')
    |some sh=>if shOk sh a=true then
      Option.bind (evC cx inl (TS sh⊕R) a h.fst ⟨st.env,st.hp,st.nx,[]⟩ fun o=>match o with
        | .normal st'=>(match oP sh (hZ (cp sh st.env st.hp) st.nx sh.ob) st.nx (ups st.hp (jZ sh st.env st.hp)) st' with|some x=>some (.inl x)|none=>none)
        | .exit id st'=>(κ (.exit id ⟨st'.env,st'.hp,st'.nx,st'.dt++st.dt⟩)).map .inr
        | .ret st'=>(κ (.ret ⟨st'.env,st'.hp,st'.nx,st'.dt++st.dt⟩)).map .inr
        | .pan n st'=>(κ (.pan n ⟨st'.env,st'.hp,st'.nx,st'.dt++st.dt⟩)).map .inr) fun r=>match r with
        | .inl x=>evC cx inl R b h.snd ⟨uZ sh (hZ (cp sh st.env st.hp) st.nx sh.ob) st.env x,
            xD sh (hZ (cp sh st.env st.hp) st.nx sh.ob) (ups st.hp (jZ sh st.env st.hp)) st.env x,st.nx+sh.nn,
            obN (hZ (cp sh st.env st.hp) st.nx sh.ob) sh.ob++(names (jZ sh st.env st.hp)++st.dt)⟩ κ
        | .inr r=>some r
      else none
  |R,.cond c a b,h,st,κ=>match eN (opd st.env c) with
    |some (.bool v)=>bif v then evC cx inl R a h.fst st κ else evC cx inl R b h.snd st κ
    |_=>none
  |R,.block id c,h,st,κ=>evC cx inl R c h.fst st fun o=>match o with
    | .exit id' st'=>if Nat.beq id' id=true then κ (.normal st') else κ (.exit id' st')
    | .normal st'=>κ (.normal st')
    | .ret st'=>κ (.ret st')
    | .pan n st'=>κ (.pan n st')
  | R,.loop c,h,st,κ => match h with
    | .l sh h' => if shOk sh c = true then (match oJ sh st.env st.hp with
      |some s0=>aN (fun s=>evC cx inl (TS sh⊕R) c h' ⟨uZ sh (hZ (cp sh st.env st.hp) st.nx sh.ob) st.env s,
            xD sh (hZ (cp sh st.env st.hp) st.nx sh.ob) (ups st.hp (eC sh st.env st.hp)) st.env s,st.nx+sh.nn,[]⟩ fun o=>match o with
        | .normal st'=>(match oP sh (hZ (cp sh st.env st.hp) st.nx sh.ob) st.nx (ups st.hp (eC sh st.env st.hp)) st' with|some x=>some (.inl x)|none=>none)
        | .exit id st'=>(κ (.exit id ⟨st'.env,st'.hp,st'.nx,st'.dt++(obN (hZ (cp sh st.env st.hp) st.nx sh.ob) sh.ob++(names (eC sh st.env st.hp)++st.dt))⟩)).map .inr
        | .ret st'=>(κ (.ret ⟨st'.env,st'.hp,st'.nx,st'.dt++(obN (hZ (cp sh st.env st.hp) st.nx sh.ob) sh.ob++(names (eC sh st.env st.hp)++st.dt))⟩)).map .inr
        | .pan n st'=>(κ (.pan n ⟨st'.env,st'.hp,st'.nx,st'.dt++(obN (hZ (cp sh st.env st.hp) st.nx sh.ob) sh.ob++(names (eC sh st.env st.hp)++st.dt))⟩)).map .inr) s0
      |none=>none) else none
    | .c x y=>unr (fun h st κ=>evC cx inl R c h st κ) (.c x y) st κ
    |_=>none
  |_,_,_,_,_=>none
def mX (cx : Cx) (env : Env) (hp : cT) : ResultVar → Option (Bool × List Cell)
  | .tmp t=>match env t with
    |some (.v a cs)=>some (a,cs)
    |_=>none
  | .cell a t=>match cx.tab t,eN (env a) with
    |some i,some (.ptr l off)=>(match hp l with
      |some (.box _ cs)=>if (off+i.size).ble cs.length=true then some (i.agg,(cs.drop off).take i.size) else none
      |_=>none)
    |_,_=>none
def p5 (cx : Cx) (env : Env) (hp : cT) : List ResultVar → Option (List (Bool × List Cell))
  | []=>some []
  |v::r=>match mX cx env hp v,p5 cx env hp r with
    |some p,some l=>some (p::l)
    |_,_=>none
def jb (cx:Cx) (env:Env) (hp:cT):List ResultVar→Option fE
 | [v]=>match mX cx env hp v with|some (a,cs)=>some (.v a cs)|none=>none
 |l=>match p5 cx env hp l with|some r=>some (.tup r)|none=>none
def inOk (ren : Ren) : List (Nat × Bool × OSh) → Bool
  | []=>true
  |(l,_)::r=>(match ren l with
    |some m=>(if l.blt 1000=true then Nat.beq m l else true)
    |none=>(1000).ble l)&&inOk ren r
noncomputable def evF (cx:Cx) (inl:Inl) (code:Code) (res:List ResultVar) (h:H) (si so:Sh) (x:TS si):Option (TS so):=
 evC cx inl (TS so) code h ⟨ik si id x,eO si id x,1000,[]⟩ fun o=>match o with
  | .normal st=>fin st
  | .ret st=>fin st
  | .exit _ _=>none
  | .pan _ _=>none
where fin (st:St):Option (TS so):=
 match jb cx st.env st.hp res with
 |some s=>if inOk (cp so (put (fun _=>none) 0 (some s)) st.hp) so.ob=true then oJ so (put (fun _=>none) 0 (some s)) st.hp else none
 |none=>none
noncomputable def tS (cx:Cx) (inl:Inl) (code:Code) (res:List ResultVar) (h:H) (si so:Sh) (x:TS si):Option (TS so⊕Int):=
 evC cx inl (TS so⊕Int) code h ⟨ik si id x,eO si id x,1000,[]⟩ fun o=>match o with
  | .normal st=>finP st
  | .ret st=>finP st
  | .exit _ _=>none
  | .pan n _=>some (.inr n)
where finP (st:St):Option (TS so⊕Int):=match evF.fin cx res so st with
 |some y=>some (.inl y)
 |none=>none
def inl0:Inl:=fun _ _ _ _ _ _ _ _=>none
noncomputable def xL (cx:Cx) (fn:Nat→List (Option fE)→cT→Option (Code×List ResultVar×H)) (inl:Inl):Inl:=fun R g args hp nx dt κ κp=>
 match fn g args hp with
 |some (code,res,h)=>evC cx inl R code h ⟨gY args,hp,nx,dt⟩ fun o=>match o with
  | .normal st=>(match jb cx st.env st.hp res with|some s=>κ (some s) st.hp st.nx st.dt|none=>none)
  | .ret st=>(match jb cx st.env st.hp res with|some s=>κ (some s) st.hp st.nx st.dt|none=>none)
  | .exit _ _=>none
  | .pan n st=>κp n st.hp st.nx st.dt
 |none=>none
end Lv
end
section
namespace Lv
open Go
def Row {α:Type} (R:α→List Value→Prop) (n:Nat) (ok:Nat→Prop) (w:World) (A:Option Addr) (xs:List α):Prop:=
 xs=[]∨∃b o,A=some ⟨b,o,none⟩∧ok b∧∀i x,xs[i]?=some x→∃cs,R x cs∧∀j v,cs[j]?=some v→w.cell? ⟨b,o+i*n+j,none⟩=some v
def K (ok:Nat→Prop) (w:World):(t:Ty)→t.T→List Value→Prop
 | .int k,x,cs=>cs=[.int k x]
 | .bool,x,cs=>cs=[.bool x]
 | .str,x,cs=>cs=[.string x]
 | .val,x,cs=>cs=[x]∧x.oneCell'=true
 | .unit,_,cs=>cs=[]
 | .pair a b,x,cs=>∃c d,cs=c++d∧K ok w a x.1 c∧K ok w b x.2 d
 | .sl _ t,xs,cs=>∃A cap,cs=[.slice A xs.length cap]∧xs.length≤cap∧Row (K ok w t) t.n ok w A xs
theorem jh {ok:Nat→Prop} {w:World}:∀{t:Ty} {x:t.T} {cs:List Value},K ok w t x cs→cs.length=t.n
 | .int _,_,_,h=>by cases h;rfl
 | .bool,_,_,h=>by cases h;rfl
 | .str,_,_,h=>by cases h;rfl
 | .val,_,_,h=>by cases h.1;rfl
 | .unit,_,_,h=>by cases h;rfl
 | .pair a b,x,cs,h=>by
  obtain ⟨c,d,rfl,hc,hd⟩:=h
  rw [List.length_append,jh hc,jh hd];rfl
 | .sl e t,_,_,h=>by obtain ⟨A,cap,rfl,_⟩:=h;rfl
theorem vb {ok:Nat→Prop} {w:World}:∀{t:Ty} {x:t.T} {cs:List Value},K ok w t x cs→∀u∈cs,u.oneCell'=true
 | .int _,_,_,h=>by cases h;intro u hu;cases List.mem_singleton.1 hu;rfl
 | .bool,_,_,h=>by cases h;intro u hu;cases List.mem_singleton.1 hu;rfl
 | .str,_,_,h=>by cases h;intro u hu;cases List.mem_singleton.1 hu;rfl
 | .val,_,_,h=>by
  obtain ⟨h1,h2⟩:=h;cases h1;intro u hu;cases List.mem_singleton.1 hu;exact h2
 | .unit,_,_,h=>by cases h;intro u hu;cases hu
 | .pair a b,x,cs,h=>by
  obtain ⟨c,d,rfl,hc,hd⟩:=h
  intro u hu
  rcases List.mem_append.1 hu with hu|hu
  ·exact vb hc u hu
  ·exact vb hd u hu
 | .sl e t,_,_,h=>by
  obtain ⟨A,cap,rfl,_⟩:=h
  intro u hu;cases List.mem_singleton.1 hu;rfl
def gU (ok ok':Nat→Prop) (w w':World):Prop:=∀b,ok b→ok' b∧w'.heap[b]?=w.heap[b]?
theorem gU.cell {ok ok':Nat→Prop} {w w':World} (h:gU ok ok' w w') {b o:Nat} (hb:ok b):w'.cell? ⟨b,o,none⟩=w.cell? ⟨b,o,none⟩:=
 World.cell?_of_block (a:=⟨b,o,none⟩) (h b hb).2
theorem gU.refl (ok:Nat→Prop) (w:World):gU ok ok w w:=fun _ h=>⟨h,rfl⟩
theorem Row.move {α:Type} {R R':α→List Value→Prop} {n:Nat} {ok ok':Nat→Prop} {w w':World} {A:Option Addr} {xs:List α}
 (h:Row R n ok w A xs) (hs:gU ok ok' w w') (hR:∀x cs,R x cs→R' x cs):Row R' n ok' w' A xs:=by
 rcases h with h|⟨b,o,hA,hb,hx⟩
 ·exact .inl h
 ·refine .inr ⟨b,o,hA,(hs b hb).1,fun i x hi=>?_⟩
  obtain ⟨cs,hc,hv⟩:=hx i x hi
  exact ⟨cs,hR _ _ hc,fun j v hj=>(hs.cell hb).trans (hv j v hj)⟩
theorem ju {ok ok':Nat→Prop} {w w':World} (hs:gU ok ok' w w'):∀{t:Ty} {x:t.T} {cs:List Value},K ok w t x cs→K ok' w' t x cs
 | .int _,_,_,h=>h
 | .bool,_,_,h=>h
 | .str,_,_,h=>h
 | .val,_,_,h=>h
 | .unit,_,_,h=>h
 | .pair _ _,_,_,h=>by
  obtain ⟨c,d,e,hc,hd⟩:=h
  exact ⟨c,d,e,ju hs hc,ju hs hd⟩
 | .sl _ _,_,_,h=>by
  obtain ⟨A,cap,e,hl,hr⟩:=h
  exact ⟨A,cap,e,hl,hr.move hs fun _ _=>ju hs⟩
inductive All2 {α β:Type} (R:α→β→Prop):List α→List β→Prop
 |nil:All2 R [] []
 |cons {a b as bs}:R a b→All2 R as bs→All2 R (a::as) (b::bs)
namespace All2
variable {α β:Type} {R R':α→β→Prop}
theorem len:∀{as:List α} {bs:List β},All2 R as bs→as.length=bs.length
 |_,_,.nil=>rfl
 |_,_,.cons _ h=>by simp [len h]
theorem imp (hR:∀a b,R a b→R' a b):∀{as:List α} {bs:List β},All2 R as bs→All2 R' as bs
 |_,_,.nil=> .nil
 |_,_,.cons h t=> .cons (hR _ _ h) (imp hR t)
theorem app:∀{as:List α} {bs:List β} {cs:List α} {ds:List β},All2 R as bs→All2 R cs ds→All2 R (as++cs) (bs++ds)
 |_,_,_,_,.nil,h=>h
 |_,_,_,_,.cons h t,k=> .cons h (app t k)
theorem take:∀(n:Nat) {as:List α} {bs:List β},All2 R as bs→All2 R (as.take n) (bs.take n)
 |0,_,_,_=>by simp;exact .nil
 |_+1,_,_,.nil=>by simp;exact .nil
 |n+1,_,_,.cons h t=>by simp only [List.take_succ_cons];exact .cons h (take n t)
theorem drop:∀(n:Nat) {as:List α} {bs:List β},All2 R as bs→All2 R (as.drop n) (bs.drop n)
 |0,_,_,h=>by simpa using h
 |_+1,_,_,.nil=>by simp;exact .nil
 |n+1,_,_,.cons _ t=>by simp only [List.drop_succ_cons];exact drop n t
theorem get:∀{as:List α} {bs:List β},All2 R as bs→∀(i:Nat) a,as[i]?=some a→∃b,bs[i]?=some b∧R a b
 |_,_,.nil,i,a,h=>by simp at h
 |_,_,.cons (b:=b) h _,0,a,e=>⟨b,by simp,by simp at e;exact e▸h⟩
 |_,_,.cons _ t,i+1,a,e=>by simpa using get t i a (by simpa using e)
theorem one {a:α} {bs:List β} (h:All2 R [a] bs):∃b,bs=[b]∧R a b:=by
 cases h with
 |cons h t=>cases t;exact ⟨_,rfl,h⟩
end All2
def dP (ρ:Nat→Value) (ok:Nat→Prop) (w:World) (nx:Nat):Cell→Value→Prop
 | .int k i,v=>v=.int k i
 | .bool b,v=>v=.bool b
 | .str s,v=>v=.string s
 | .val u,v=>v=u∧u.oneCell'=true
 | .sl e t xs,v=>K ok w (.sl e t) xs [v]
 | .ref l,v=>l<nx∧v=ρ l∧v.oneCell'=true
 | .sub l n lo len,v=>l<nx∧∃A cap,v=.slice A len cap∧len≤cap∧(len=0∨∃b L C,ρ l=.slice (some ⟨b,0,none⟩) L C∧A=some ⟨b,lo*n,none⟩∧lo+len≤L)
 | .ptr l off,v=>l<nx∧∃b,ρ l=.pointer (some ⟨b,0,none⟩)∧v=.pointer (some ⟨b,off,none⟩)
 | .elp l n i off,v=>l<nx∧∃b L C,ρ l=.slice (some ⟨b,0,none⟩) L C∧i<L∧v=.pointer (some ⟨b,i*n+off,none⟩)
 | .ifc b,v=>(b=true∧v=.nilIface)∨(b=false∧∃t u,v=.iface t u)
 | .bs l k,v=>l<nx∧∃b,ρ l=.pointer (some ⟨b,0,none⟩)∧v=.slice (some ⟨b,0,none⟩) k k
 | .np l,v=>l<nx∧(v=.pointer none∨∃b,ρ l=.pointer (some ⟨b,0,none⟩)∧v=.pointer (some ⟨b,0,none⟩))
 | .rdp t x off,v=>∃b o vs,v=.pointer (some ⟨b,o+off,none⟩)∧ok b∧K ok w t x vs∧∀j u,vs[j]?=some u→w.cell? ⟨b,o+j,none⟩=some u
theorem dP.one {ρ ok w nx}:∀{c:Cell} {v:Value},dP ρ ok w nx c v→v.oneCell'=true
 | .int _ _,_,h=>by cases h;rfl
 | .bool _,_,h=>by cases h;rfl
 | .str _,_,h=>by cases h;rfl
 | .val _,_,h=>by obtain ⟨h1,h2⟩:=h;cases h1;exact h2
 | .sl _ _ _,v,h=>vb h v (by simp)
 | .ref _,_,h=>h.2.2
 | .sub _ _ _ _,_,h=>by obtain ⟨_,A,cap,rfl,_⟩:=h;rfl
 | .ptr _ _,_,h=>by obtain ⟨_,b,_,rfl⟩:=h;rfl
 | .elp _ _ _ _,_,h=>by obtain ⟨_,b,L,C,_,_,rfl⟩:=h;rfl
 | .rdp _ _ _,_,h=>by obtain ⟨b,o,vs,rfl,_⟩:=h;rfl
 | .ifc _,_,h=>by rcases h with ⟨_,rfl⟩|⟨_,t,u,rfl⟩<;>rfl
 | .np _,_,h=>by rcases h with ⟨_,rfl|⟨b,_,rfl⟩⟩<;>rfl
 | .bs _ _,_,h=>by obtain ⟨_,b,_,rfl⟩:=h;rfl
theorem dP.move {ρ ρ':Nat→Value} {ok ok':Nat→Prop} {w w':World} {nx nx':Nat} (hs:gU ok ok' w w') (hr:∀l,l<nx→ρ' l=ρ l) (hn:nx≤nx'):
 ∀{c:Cell} {v:Value},dP ρ ok w nx c v→dP ρ' ok' w' nx' c v
 | .int _ _,_,h=>h
 | .bool _,_,h=>h
 | .str _,_,h=>h
 | .val _,_,h=>h
 | .sl _ _ _,v,h=>ju hs h
 | .ref l,_,⟨h,e,o⟩=>⟨by omega,e.trans (hr l h).symm,o⟩
 | .sub l _ _ _,_,⟨h,A,cap,e,hl,hx⟩=>⟨by omega,A,cap,e,hl,hx.imp id fun ⟨b,L,C,h1,h2⟩=>⟨b,L,C,(hr l h).trans h1,h2⟩⟩
 | .ptr l _,_,⟨h,b,e,hv⟩=>⟨by omega,b,(hr l h).trans e,hv⟩
 | .elp l _ _ _,_,⟨h,b,L,C,e,hv⟩=>⟨by omega,b,L,C,(hr l h).trans e,hv⟩
 | .rdp _ _ _,_,⟨b,o,vs,e,hb,hk,hc⟩=>⟨b,o,vs,e,(hs b hb).1,ju hs hk,fun j u hj=>(hs.cell hb).trans (hc j u hj)⟩
 | .ifc _,_,h=>h
 | .bs l _,_,⟨h,b,e,hv⟩=>⟨by omega,b,(hr l h).trans e,hv⟩
 | .np l,_,⟨h,g⟩=>⟨by omega,g.imp (fun h=>h) fun ⟨b,e,hv⟩=>⟨b,(hr l h).trans e,hv⟩⟩
def VR (ρ:Nat→Value) (ok:Nat→Prop) (w:World) (nx:Nat) (agg:Bool) (cs:List Cell) (v:Value):Prop:=
 match agg with
 |true=>∃vs,v=.agg vs.toArray∧All2 (dP ρ ok w nx) cs vs
 |false=>∃c,cs=[c]∧dP ρ ok w nx c v
theorem VR.move {ρ ρ':Nat→Value} {ok ok':Nat→Prop} {w w':World} {nx nx':Nat} (hs:gU ok ok' w w') (hr:∀l,l<nx→ρ' l=ρ l) (hn:nx≤nx')
 {agg:Bool} {cs:List Cell} {v:Value} (h:VR ρ ok w nx agg cs v):VR ρ' ok' w' nx' agg cs v:=by
 cases agg with
 |true=>obtain ⟨vs,e,h⟩:=h;exact ⟨vs,e,h.imp fun _ _=>dP.move hs hr hn⟩
 |false=>obtain ⟨c,e,h⟩:=h;exact ⟨c,e,h.move hs hr hn⟩
def ij (ρ:Nat→Value) (ok:Nat→Prop) (w:World) (nx:Nat):fE→Value→Prop
 | .v agg cs,v=>VR ρ ok w nx agg cs v
 | .tup l,v=>∃vs,v=.tuple vs.toArray∧All2 (fun (p:Bool×List Cell) u=>VR ρ ok w nx p.1 p.2 u) l vs
theorem ij.move {ρ ρ':Nat→Value} {ok ok':Nat→Prop} {w w':World} {nx nx':Nat} (hs:gU ok ok' w w') (hr:∀l,l<nx→ρ' l=ρ l) (hn:nx≤nx'):
 ∀{s:fE} {v:Value},ij ρ ok w nx s v→ij ρ' ok' w' nx' s v
 | .v _ _,_,h=>VR.move hs hr hn h
 | .tup _,_,⟨vs,e,h⟩=>⟨vs,e,h.imp fun _ _=>VR.move hs hr hn⟩
def Ob.own:Ob→Bool
 | .box _ _=>true
 | .arr _ _ _=>true
 | .mp _ _ _=>true
 |_=>false
def Rows (ok:Nat→Prop) (w:World) (t:Ty) (xs:List t.T) (vs:List Value):Prop:=∃css,vs=css.flatten∧All2 (K ok w t) xs css
theorem Rows.move {ok ok':Nat→Prop} {w w':World} (hs:gU ok ok' w w') {t:Ty} {xs:List t.T} {vs:List Value} (h:Rows ok w t xs vs):Rows ok' w' t xs vs:=by
 obtain ⟨css,e,h⟩:=h
 exact ⟨css,e,h.imp fun _ _=>ju hs⟩
theorem Rows.len {ok:Nat→Prop} {w:World} {t:Ty}:∀{xs:List t.T} {vs:List Value},Rows ok w t xs vs→vs.length=xs.length*t.n:=by
 rintro xs vs ⟨css,rfl,h⟩
 induction h with
 |nil=>simp
 |cons h _ ih=>simp only [List.flatten_cons,List.length_append,List.length_cons,jh h,ih,Nat.add_mul,Nat.one_mul];omega
theorem Rows.one {ok:Nat→Prop} {w:World} {t:Ty} {xs:List t.T} {vs:List Value} (h:Rows ok w t xs vs):∀u∈vs,u.oneCell'=true:=by
 obtain ⟨css,rfl,h⟩:=h
 induction h with
 |nil=>intro u hu;simp at hu
 |cons h _ ih=>
  intro u hu
  rw [List.flatten_cons] at hu
  rcases List.mem_append.1 hu with hu|hu
  ·exact vb h u hu
  ·exact ih u hu
theorem Rows.app {ok:Nat→Prop} {w:World} {t:Ty} {xs ys:List t.T} {vs us:List Value} (h:Rows ok w t xs vs) (k:Rows ok w t ys us):Rows ok w t (xs++ys) (vs++us):=by
 obtain ⟨css,rfl,h⟩:=h
 obtain ⟨dss,rfl,k⟩:=k
 exact ⟨css++dss,by simp,h.app k⟩
theorem Rows.get {ok:Nat→Prop} {w:World} {t:Ty} {xs:List t.T} {vs:List Value} (h:Rows ok w t xs vs):
 ∀i x,xs[i]?=some x→∃cs,K ok w t x cs∧∀j v,cs[j]?=some v→vs[i*t.n+j]?=some v:=by
 obtain ⟨css,rfl,h⟩:=h
 induction h with
 |nil=>intro i x hx;simp at hx
 |cons h _ ih=>
  intro i x hx
  cases i with
  |zero=>
   simp at hx;subst hx
   refine ⟨_,h,fun j v hj=>?_⟩
   have hlt:=(List.getElem?_eq_some_iff.1 hj).1
   simp only [List.flatten_cons,Nat.zero_mul,Nat.zero_add]
   rw [List.getElem?_append_left hlt];exact hj
  |succ i=>
   obtain ⟨cs,hc,hv⟩:=ih i x (by simpa using hx)
   refine ⟨cs,hc,fun j v hj=>?_⟩
   have:=hv j v hj
   have hl:=jh h
   simp only [List.flatten_cons]
   rw [List.getElem?_append_right (by rw [hl,Nat.add_mul];omega),hl]
   rw [show (i+1)*t.n+j-t.n=i*t.n+j by rw [Nat.add_mul];omega];exact this
theorem Rows.set {ok:Nat→Prop} {w:World} {t:Ty} {xs:List t.T} {vs:List Value} (h:Rows ok w t xs vs) {i:Nat} (hi:i<xs.length) {y:t.T} {cs:List Value} (hy:K ok w t y cs):
 Rows ok w t (xs.set i y) (vs.take (i*t.n)++cs++vs.drop (i*t.n+t.n)):=by
 obtain ⟨css,rfl,h⟩:=h
 induction h generalizing i with
 |nil=>simp at hi
 |@cons a b as bs h ht ih=>
  have hl:=jh h
  cases i with
  |zero=>
   refine ⟨cs::bs,?_,.cons hy ht⟩
   simp only [Nat.zero_mul,List.take_zero,List.nil_append,Nat.zero_add,List.flatten_cons]
   rw [List.drop_append_of_le_length (by omega),List.drop_of_length_le (by omega),List.nil_append]
  |succ i=>
   obtain ⟨dss,e,hd⟩:=ih (i:=i) (by simpa using hi)
   refine ⟨b::dss,?_,.cons h hd⟩
   rw [show (b::dss).flatten=b++dss.flatten from rfl,←e,show (b::bs).flatten=b++bs.flatten from rfl]
   rw [show (i+1)*t.n=b.length+i*t.n by rw [hl,Nat.add_mul];omega]
   rw [List.take_length_add_append,Nat.add_assoc,List.drop_length_add_append]
   simp [List.append_assoc]
def nF:Bool→Value→Prop
 |false,v=>∃s,v=.string s
 |true,v=>∃a b s,v=kV a b s
def mY (ok:Nat→Prop) (w:World) (g:Bool×Bool) (t:Ty) (p:Value×t.T) (e:MapEntry):Prop:=
 (e.key=p.1∧nF g.2 p.1)∧∃cs,K ok w t p.2 cs∧(match g.1 with|true=>e.val=.agg cs.toArray|false=>cs=[e.val])
theorem mY.move {ok ok':Nat→Prop} {w w':World} (hs:gU ok ok' w w') {g:Bool×Bool} {t:Ty} {p:Value×t.T} {e:MapEntry} (h:mY ok w g t p e):mY ok' w' g t p e:=
 ⟨h.1,h.2.imp fun _ h=>⟨ju hs h.1,h.2⟩⟩
def ObR (ρ:Nat→Value) (ok:Nat→Prop) (w:World) (nx:Nat) (l:Nat):Ob→Prop
 | .box e cs=>∃b vs,ρ l=.pointer (some ⟨b,0,none⟩)∧w.heap[b]?=some (.cells vs.toArray e (0,0))∧All2 (dP ρ ok w nx) cs vs
 | .arr e t xs=>∃inner,w.ownsRow 0 e t.n (ρ l) xs.length inner∧Rows ok w t xs inner
 | .frz e t xs=>K ok w (.sl e t) xs [ρ l]
 | .clo f a b=>∃as bs,ρ l=.func (.func f) as.toArray bs.toArray∧All2 (fun (p:Bool×List Cell) u=>VR ρ ok w nx p.1 p.2 u) a as∧All2 (fun (p:Bool×List Cell) u=>VR ρ ok w nx p.1 p.2 u) b bs
 | .mp g t kvs=>∃r es clock,ρ l=.map (some r)∧w.heap[r]?=some (.map es clock)∧All2 (mY ok w g t) kvs es.toList∧MapKept.Stamped es clock
def blk:Value→Option Nat
 | .pointer (some a)=>some a.block
 | .slice (some a) _ _=>some a.block
 | .map (some r)=>some r
 |_=>none
theorem kY {w w':World} {e n m:Nat} {v:Value} {xs:List Value} (h:w.ownsRow 0 e n v m xs) (hb:∀b,blk v=some b→w'.heap[b]?=w.heap[b]?):w'.ownsRow 0 e n v m xs:=by
 refine ⟨h.1,?_⟩
 rcases h.2 with hn|⟨g,cap,cur,rfl,h0,hg,rest⟩
 ·exact .inl hn
 ·exact .inr ⟨g,cap,cur,rfl,h0,(hb g rfl).trans hg,rest⟩
theorem ObR.move {ρ ρ':Nat→Value} {ok ok':Nat→Prop} {w w':World} {nx nx' l:Nat} (hs:gU ok ok' w w') (hr:∀l,l<nx→ρ' l=ρ l) (hn:nx≤nx') (hl:ρ' l=ρ l):
 ∀{o:Ob},(o.own=true→∀b,blk (ρ l)=some b→w'.heap[b]?=w.heap[b]?)→ObR ρ ok w nx l o→ObR ρ' ok' w' nx' l o
 | .box e cs,hb,⟨b,vs,h1,h2,h3⟩=>⟨b,vs,hl.trans h1,(hb rfl b (by rw [h1];rfl)).trans h2,h3.imp fun _ _=>dP.move hs hr hn⟩
 | .arr e t xs,hb,⟨inner,h1,h2⟩=>⟨inner,by rw [hl];exact kY h1 (hb rfl),h2.move hs⟩
 | .frz e t xs,hb,h=>by show K ok' w' (.sl e t) xs [ρ' l];rw [hl];exact ju hs h
 | .clo f a b,hb,⟨as,bs,h1,h2,h3⟩=>⟨as,bs,hl.trans h1,h2.imp fun _ _=>VR.move hs hr hn,h3.imp fun _ _=>VR.move hs hr hn⟩
 | .mp g t kvs,hb,⟨r,es,clock,h1,h2,h3,h4⟩=>⟨r,es,clock,hl.trans h1,(hb rfl r (by rw [h1];rfl)).trans h2,h3.imp fun _ _=>mY.move hs,h4⟩
class gG where
 bs:List Nat
 hold:World→Prop
 draw:Bool
 stable:∀w w':World,hold w→(∀b∈bs,w'.heap[b]?=w.heap[b]?)→hold w'
def ji [gG] (w w':World):Prop:=w'.output=w.output∧(gG.draw=true→w.drawn≤w'.drawn)
theorem ji.trans [gG] {w w1 w2:World} (k:ji w1 w2) (h:ji w w1):ji w w2:=⟨k.1.trans h.1,fun e=>Nat.le_trans (h.2 e) (k.2 e)⟩
theorem ji.rfl [gG] {w:World}:ji w w:=⟨Eq.refl _,fun _=>Nat.le_refl _⟩
def Glb [gG] (ok:Nat→Prop) (w:World):Prop:=(∀b∈gG.bs,ok b)∧gG.hold w
theorem Glb.move [gG] {ok ok':Nat→Prop} {w w':World} (h:Glb ok w) (hs:gU ok ok' w w'):Glb ok' w':=
 ⟨fun b hb=>(hs b (h.1 b hb)).1,gG.stable w w' h.2 fun b hb=>(hs b (h.1 b hb)).2⟩
variable [gG]
structure ew (ρ:Nat→Value) (ok:Nat→Prop) (w:World) (hp:cT) (nx:Nat):Prop where
 ob:∀l o,hp l=some o→l<nx∧ObR ρ ok w nx l o
 okl:∀b,ok b→b<w.heap.size
 sep:∀l o b,hp l=some o→o.own=true→blk (ρ l)=some b→¬ok b
 dis:∀l m o p b,hp l=some o→hp m=some p→o.own=true→p.own=true→blk (ρ l)=some b→blk (ρ m)=some b→l=m
 gl:Glb ok w
def eH (ρ:Nat→Value) (ok:Nat→Prop) (w:World) (nx:Nat) (env:Env) (tmps:Array Value):Prop:=
 ∀t s,env t=some s→∃v,tmps[t]?=some v∧ij ρ ok w nx s v
theorem ew.lt {ρ ok w hp nx} (h:ew ρ ok w hp nx) {l:Nat} {o:Ob} {b:Nat} (ho:hp l=some o) (hw:o.own=true) (hb:blk (ρ l)=some b):b<w.heap.size:=by
 have hr:=(h.ob l o ho).2
 cases o with
 |box e cs=>
  obtain ⟨g,vs,h1,h2,_⟩:=hr
  rw [h1] at hb;cases hb
  exact (Array.getElem?_eq_some_iff.1 h2).1
 |arr e t xs=>
  obtain ⟨inner,h1,_⟩:=hr
  rcases h1.2 with ⟨hn,_⟩|⟨g,cap,cur,hv,_,hg,_⟩
  ·rw [hn] at hb;cases hb
  ·rw [hv] at hb;cases hb
   exact (Array.getElem?_eq_some_iff.1 hg).1
 |mp g t kvs=>
  obtain ⟨r,es,clock,h1,h2,_⟩:=hr
  rw [h1] at hb;cases hb
  exact (Array.getElem?_eq_some_iff.1 h2).1
 |frz _ _ _=>cases hw
 |clo _ _ _=>cases hw
structure gV (ρ:Nat→Value) (ok:Nat→Prop) (w:World) (hp:cT) (nx:Nat) (D:List Nat) (ρ':Nat→Value) (ok':Nat→Prop) (w':World) (hp':cT) (nx':Nat):Prop where
 os:w'.os=w.os
 tape:w'.tape=w.tape
 output:ji w w'
 size:w.heap.size≤w'.heap.size
 nxl:nx≤nx'
 same:∀b,b<w.heap.size→(∀l∈D,l<nx→∀o,hp l=some o→o.own=true→blk (ρ l)≠some b)→w'.heap[b]?=w.heap[b]?
 rho:∀l,l<nx→ρ' l=ρ l
 okm:∀b,ok b→ok' b
 okn:∀b,ok' b→ok b∨w.heap.size≤b∨∃l∈D,l<nx∧∃o,hp l=some o∧o.own=true∧blk (ρ l)=some b
 hps:∀l,l<nx→l∉D→hp' l=hp l
 stay:∀l,l<nx→∀o,hp' l=some o→∃p,hp l=some p∧(o.own=true→p.own=true)
 nb:∀l o b,nx≤l→hp' l=some o→o.own=true→blk (ρ' l)=some b→w.heap.size≤b∨∃m∈D,m<nx∧∃p,hp m=some p∧p.own=true∧blk (ρ m)=some b
theorem gV.refl {ρ ok w hp nx} (hN:∀l o,hp l=some o→l<nx):gV ρ ok w hp nx [] ρ ok w hp nx:=
 ⟨rfl,rfl,ji.rfl,Nat.le_refl _,Nat.le_refl _,fun _ _ _=>rfl,fun _ _=>rfl,fun _ h=>h,fun _ h=> .inl h,fun _ _ _=>rfl,
  fun _ _ o h=>⟨o,h,id⟩,fun l o _ hl ho _ _=>absurd (hN l o ho) (by omega)⟩
theorem gV.trans {ρ ok w hp nx D ρ1 ok1 w1 hp1 nx1 D1 ρ2 ok2 w2 hp2 nx2} (h : gV ρ ok w hp nx D ρ1 ok1 w1 hp1 nx1) (k : gV ρ1 ok1 w1 hp1 nx1 D1 ρ2 ok2 w2 hp2 nx2) :
    gV ρ ok w hp nx (D1++D) ρ2 ok2 w2 hp2 nx2:=by
  have hnx:=h.nxl
  -- an own object in the middle,with a block: where it comes from
  have mid:∀l o b,hp1 l=some o→o.own=true→blk (ρ1 l)=some b→(l<nx∧∃p,hp l=some p∧p.own=true∧blk (ρ l)=some b)∨
      (nx≤l∧(w.heap.size≤b∨∃m∈D,m<nx∧∃p,hp m=some p∧p.own=true∧blk (ρ m)=some b)):=by
    intro l o b ho hw hb
    by_cases hl:l<nx
    · obtain ⟨p,hp',hpw⟩:=h.stay l hl o ho
      exact .inl ⟨hl,p,hp',hpw hw,by rw [←h.rho l hl];exact hb⟩
    · exact .inr ⟨by omega,h.nb l o b (by omega) ho hw hb⟩
  refine ⟨k.os.trans h.os,k.tape.trans h.tape,k.output.trans h.output,Nat.le_trans h.size k.size,Nat.le_trans h.nxl k.nxl,?_,?_,fun b hb=>k.okm b (h.okm b hb),?_,?_,?_,?_⟩
  · intro b hb hne
    have e1:w1.heap[b]?=w.heap[b]?:=h.same b hb fun l hl=>hne l (List.mem_append_right _ hl)
    refine (k.same b (Nat.lt_of_lt_of_le hb h.size) ?_).trans e1
    intro l hl hlt o ho hw hbl
    rcases mid l o b ho hw hbl with ⟨h1,p,h2,h3,h4⟩|⟨h1,h2|⟨m,hm,h3,p,h4,h5,h6⟩⟩
    · exact hne l (List.mem_append_left _ hl) h1 p h2 h3 h4
    · omega
    · exact hne m (List.mem_append_right _ hm) h3 p h4 h5 h6
  · intro l hl
    exact (k.rho l (by omega)).trans (h.rho l hl)
  · intro b hb
    rcases k.okn b hb with h1|h1|⟨l,hl,hlt,o,ho,hw,hbl⟩
    · rcases h.okn b h1 with h2|h2|⟨l,hl,h3⟩
      · exact .inl h2
      · exact .inr (.inl h2)
      · exact .inr (.inr ⟨l,List.mem_append_right _ hl,h3⟩)
    · exact .inr (.inl (Nat.le_trans h.size h1))
    · rcases mid l o b ho hw hbl with ⟨h1,p,h2,h3,h4⟩|⟨h1,h2|⟨m,hm,h3,p,h4,h5,h6⟩⟩
      · exact .inr (.inr ⟨l,List.mem_append_left _ hl,h1,p,h2,h3,h4⟩)
      · exact .inr (.inl h2)
      · exact .inr (.inr ⟨m,List.mem_append_right _ hm,h3,p,h4,h5,h6⟩)
  · intro l hl hn
    rw [k.hps l (by omega) (fun hm=>hn (List.mem_append_left _ hm))]
    exact h.hps l hl (fun hm=>hn (List.mem_append_right _ hm))
  · intro l hl o ho
    obtain ⟨p,h1,h2⟩:=k.stay l (by omega) o ho
    obtain ⟨q,h3,h4⟩:=h.stay l hl p h1
    exact ⟨q,h3,fun hw=>h4 (h2 hw)⟩
  · intro l o b hl ho hw hb
    by_cases hl1:nx1≤l
    · rcases k.nb l o b hl1 ho hw hb with h1|⟨m,hm,h2,p,h3,h4,h5⟩
      · exact .inl (Nat.le_trans h.size h1)
      · rcases mid m p b h3 h4 h5 with ⟨g1,q,g2,g3,g4⟩|⟨g1,g2|⟨m',hm',g3,q,g4,g5,g6⟩⟩
        · exact .inr ⟨m,List.mem_append_left _ hm,g1,q,g2,g3,g4⟩
        · exact .inl g2
        · exact .inr ⟨m',List.mem_append_right _ hm',g3,q,g4,g5,g6⟩
    · obtain ⟨p,h1,h2⟩:=k.stay l (by omega) o ho
      have hb1:blk (ρ1 l)=some b:=by rw [←k.rho l (by omega)];exact hb
      rcases h.nb l p b hl h1 (h2 hw) hb1 with g|⟨m,hm,g⟩
      · exact .inl g
      · exact .inr ⟨m,List.mem_append_right _ hm,g⟩
theorem gV.sameOk {ρ ok w hp nx D ρ' ok' w' hp' nx'} (h:gV ρ ok w hp nx D ρ' ok' w' hp' nx') (hH:ew ρ ok w hp nx):gU ok ok' w w':=fun b hb=>
 ⟨h.okm b hb,h.same b (hH.okl b hb) fun l _ _ o ho hw hbl=>hH.sep l o b ho hw hbl hb⟩
theorem eH.move {ρ ok w hp nx D ρ' ok' w' hp' nx' env tmps} (he:eH ρ ok w nx env tmps) (h:gV ρ ok w hp nx D ρ' ok' w' hp' nx') (hH:ew ρ ok w hp nx):eH ρ' ok' w' nx' env tmps:=fun t s hs=>
 let ⟨v,h1,h2⟩:=he t s hs
 ⟨v,h1,h2.move (h.sameOk hH) h.rho h.nxl⟩
theorem eH.put {ρ ok w nx env tmps} (he:eH ρ ok w nx env tmps) {d:Option Nat} {v:Value} {s:Option fE} (hs:∀x,s=some x→ij ρ ok w nx x v) (hd:∀t,d=some t→t<tmps.size):
 eH ρ ok w nx (gj env d s) (match d with|some t=>tmps.setIfInBounds t v|none=>tmps):=by
 cases d with
 |none=>exact he
 |some t=>
  intro i x hx
  simp only [gj,Lv.put] at hx
  by_cases hi:Nat.beq i t=true
  ·obtain rfl:=Nat.eq_of_beq_eq_true hi
   rw [if_pos hi] at hx
   exact ⟨v,by simp [hd i rfl],hs x hx⟩
  ·rw [if_neg hi] at hx
   obtain ⟨u,h1,h2⟩:=he i x hx
   refine ⟨u,?_,h2⟩
   rw [Array.getElem?_setIfInBounds_ne (fun e=>hi (by rw [e];exact Nat.beq_refl i))]
   exact h1
end Lv
end
section
namespace Lv
variable [gG]
open Go
def Eff (ρ:Nat→Value) (ok:Nat→Prop) (w:World) (hp:cT) (nx:Nat) (up:Ups) (nw:Nat) (ρ':Nat→Value) (ok':Nat→Prop) (w':World):Prop:=
 ew ρ' ok' w' (ups hp up) (nx+nw)∧gV ρ ok w hp nx (names up) ρ' ok' w' (ups hp up) (nx+nw)
theorem Eff.refl {ρ ok w hp nx} (h:ew ρ ok w hp nx):Eff ρ ok w hp nx [] 0 ρ ok w:=⟨h,gV.refl fun l o ho=>(h.ob l o ho).1⟩
theorem kZ (hp:cT):∀(u v:Ups),ups hp (u++v)=ups (ups hp u) v
 | [],_=>rfl
 |(l,o)::r,v=>kZ (put hp l o) r v
theorem gV.perm {ρ ok w hp nx D D' ρ' ok' w' hp' nx'} (h:gV ρ ok w hp nx D ρ' ok' w' hp' nx') (hD:∀l,l∈D↔l∈D'):gV ρ ok w hp nx D' ρ' ok' w' hp' nx':=
 ⟨h.os,h.tape,h.output,h.size,h.nxl,fun b hb hn=>h.same b hb fun l hl=>hn l ((hD l).1 hl),h.rho,h.okm,
  fun b hb=>(h.okn b hb).imp id (Or.imp id fun ⟨l,hl,r⟩=>⟨l,(hD l).1 hl,r⟩),fun l hl hn=>h.hps l hl fun hm=>hn ((hD l).1 hm),h.stay,
  fun l o b h1 h2 h3 h4=>(h.nb l o b h1 h2 h3 h4).imp id fun ⟨m,hm,r⟩=>⟨m,(hD m).1 hm,r⟩⟩
theorem Eff.trans {ρ ok w hp nx u n ρ1 ok1 w1 v m ρ2 ok2 w2} (h:Eff ρ ok w hp nx u n ρ1 ok1 w1) (k:Eff ρ1 ok1 w1 (ups hp u) (nx+n) v m ρ2 ok2 w2):
 Eff ρ ok w hp nx (u++v) (n+m) ρ2 ok2 w2:=by
 refine ⟨by rw [kZ,←Nat.add_assoc];exact k.1,?_⟩
 have:=h.2.trans k.2
 rw [kZ,←Nat.add_assoc]
 exact this.perm fun l=>by simp [names,List.mem_append,or_comm]
def jv : Ups → Nat → Option (Option Ob)
  | [],_=>none
  |(m,o)::r,l=>match jv r l with
    |some x=>some x
    |none=>if m=l then some o else none
theorem mC (m:Nat) (o:Option Ob) (r:Ups) (l:Nat):jv ((m,o)::r) l=match jv r l with
 |some x=>some x
 |none=>if m=l then some o else none:=rfl
theorem im:∀(u:Ups) (hp:cT) (l:Nat),ups hp u l=match jv u l with|some o=>o|none=>hp l
  | [],_,_=>rfl
  |(m,o)::r,hp,l=>by
    show ups (put hp m o) r l=_
    rw [im r,mC]
    cases jv r l with
    |some x=>rfl
    |none=>
      simp only [put]
      by_cases h:m=l
      · subst h;simp
      · rw [if_neg (fun e=>h (Nat.eq_of_beq_eq_true e).symm),if_neg h]
theorem jY:∀{u:Ups} {l:Nat} {o:Option Ob},jv u l=some o→(l,o)∈u
  | [],_,_,h=>by cases h
  |(m,p)::r,l,o,h=>by
    rw [mC] at h
    cases hr:jv r l with
    |some x=>rw [hr] at h;cases h;exact List.mem_cons_of_mem _ (jY hr)
    |none=>
      rw [hr] at h
      by_cases e:m=l
      · subst e;rw [if_pos rfl] at h;cases h;exact List.mem_cons_self
      · rw [if_neg e] at h;cases h
theorem gk:∀{u:Ups} {l:Nat},jv u l=none↔l∉names u
  | [],_=>by simp [jv,names]
  |(m,p)::r,l=>by
    have ih:=gk (u:=r) (l:=l)
    rw [mC]
    simp only [names,List.map_cons,List.mem_cons,not_or] at ih ⊢
    cases hr:jv r l with
    |some x=>rw [hr] at ih;simp only [reduceCtorEq,false_iff] at ih ⊢;exact fun h=>ih h.2
    |none=>
      rw [hr] at ih
      have:=ih.1 rfl
      by_cases e:m=l
      · subst e;simp
      · rw [if_neg e];exact ⟨fun _=>⟨fun h=>e h.symm,this⟩,fun _=>rfl⟩
theorem oQ {ρ:Nat→Value} {ok ok':Nat→Prop} {w:World} {l e:Nat} {t:Ty} {xs:List t.T} {inner:List Value}
 (h:w.ownsRow 0 e t.n (ρ l) xs.length inner) (hr:Rows ok w t xs inner) (hm:∀b,ok b→ok' b) (hb:∀b,blk (ρ l)=some b→ok' b):K ok' w (.sl e t) xs [ρ l]:=by
 rcases h.2 with ⟨hv,hn⟩|⟨g,cap,cur,hv,_,hg,hc,hm',hs,ht⟩
 ·have hx:xs=[]:=List.eq_nil_of_length_eq_zero hn
  subst hx
  exact ⟨none,0,by rw [hv];rfl,by simp,.inl rfl⟩
 ·refine ⟨some ⟨g,0,none⟩,cap,by rw [hv],hc,.inr ⟨g,0,rfl,hb g (by rw [hv];rfl),fun i x hi=>?_⟩⟩
  obtain ⟨cs,hk,hv⟩:=(hr.move (w':=w) (ok':=ok') fun b hb=>⟨hm b hb,rfl⟩).get i x hi
  refine ⟨cs,hk,fun j v hj=>?_⟩
  have hx:=hv j v hj
  rw [←ht,List.getElem?_take] at hx
  split at hx
  ·rw [Nat.zero_add]
   simpa [World.cell?,hg] using hx
  ·cases hx
def fi (hp:cT) (u:Ups):Prop:=∀p∈u,∃e t xs,hp p.1=some (.arr e t xs)∧p.2=some (.frz e t xs)
theorem fi.app {hp:cT} {u v:Ups} (h:fi hp u) (k:fi hp v):fi hp (u++v):=fun p hp=>by
 rcases List.mem_append.1 hp with h'|h'
 ·exact h p h'
 ·exact k p h'
theorem fi.sub {hp hp':cT} {u:Ups} (h:fi hp' u) (hs:∀l o,hp' l=some o→hp l=some o):fi hp u:=fun p hp=>
 let ⟨e,t,xs,h1,h2⟩:=h p hp
 ⟨e,t,xs,hs _ _ h1,h2⟩
theorem wq (hp:cT) (l:Nat):fi hp (wk hp l):=by
 unfold wk
 split
 ·rename_i e t xs h
  intro p hp
  cases List.mem_singleton.1 hp
  exact ⟨e,t,xs,h,rfl⟩
 ·intro p hp;cases hp
theorem kH (hp:cT):∀cs,fi hp (ja hp cs)
 | []=>fun p hp=>by cases hp
 |c::r=>by
  have ih:=kH hp r
  cases c<;>first|exact ih|exact (wq hp _).app ih
theorem ie {hp:cT} {u:Ups} (h:fi hp u) (l:Nat):
 (l∈names u∧∃e t xs,hp l=some (.arr e t xs)∧ups hp u l=some (.frz e t xs))∨(l∉names u∧ups hp u l=hp l):=by
 by_cases hm:l∈names u
 ·refine .inl ⟨hm,?_⟩
  cases hl:jv u l with
  |none=>exact absurd hm (gk.1 hl)
  |some o=>
   obtain ⟨e,t,xs,h1,h2⟩:=h _ (jY hl)
   simp only at h1 h2
   refine ⟨e,t,xs,h1,?_⟩
   rw [im,hl];exact h2
 ·exact .inr ⟨hm,by rw [im,gk.2 hm]⟩
def gZ (ok:Nat→Prop) (ρ:Nat→Value) (D:List Nat):Nat→Prop:=fun b=>ok b∨∃l∈D,blk (ρ l)=some b
theorem mb {ρ ok w hp nx} (hH : ew ρ ok w hp nx) {u : Ups} (hu : fi hp u) : Eff ρ ok w hp nx u 0 ρ (gZ ok ρ (names u)) w := by
  have own:∀l∈names u,∃o,hp l=some o∧o.own=true∧l<nx:=fun l hl=>by
    rcases ie hu l with ⟨_,e,t,xs,h1,_⟩|⟨hn,_⟩
    · exact ⟨_,h1,rfl,(hH.ob l _ h1).1⟩
    · exact absurd hl hn
  have hS:gU ok (gZ ok ρ (names u)) w w:=fun b hb=>⟨.inl hb,rfl⟩
  refine ⟨⟨?_,?_,?_,?_,hH.gl.move hS⟩,⟨rfl,rfl,ji.rfl,Nat.le_refl _,by omega,fun _ _ _=>rfl,fun _ _=>rfl,fun b hb=> .inl hb,?_,?_,?_,?_⟩⟩
  · intro l o ho
    rcases ie hu l with ⟨hl,e,t,xs,h1,h2⟩|⟨hn,h2⟩
    · rw [h2] at ho;cases ho
      obtain ⟨hlt,inner,h3,h4⟩:=hH.ob l _ h1
      exact ⟨by omega,oQ h3 h4 (fun b hb=> .inl hb) fun b hb=> .inr ⟨l,hl,hb⟩⟩
    · rw [h2] at ho
      obtain ⟨h3,h4⟩:=hH.ob l o ho
      exact ⟨by omega,h4.move hS (fun _ _=>rfl) (by omega) rfl fun _ _ _=>rfl⟩
  · rintro b (hb|⟨l,hl,hb⟩)
    · exact hH.okl b hb
    · obtain ⟨o,h1,h2,_⟩:=own l hl
      exact hH.lt h1 h2 hb
  · intro l o b ho hw hb
    rcases ie hu l with ⟨hl,e,t,xs,h1,h2⟩|⟨hn,h2⟩
    · rw [h2] at ho;cases ho;cases hw
    · rw [h2] at ho
      rintro (h3|⟨m,hm,h3⟩)
      · exact hH.sep l o b ho hw hb h3
      · obtain ⟨p,h4,h5,_⟩:=own m hm
        exact hn (hH.dis l m o p b ho h4 hw h5 hb h3▸hm)
  · intro l m o p b ho hp' hw hpw hb hb'
    rcases ie hu l with ⟨hl,e,t,xs,h1,h2⟩|⟨hn,h2⟩
    · rw [h2] at ho;cases ho;cases hw
    · rcases ie hu m with ⟨hm,e,t,xs,h1,h3⟩|⟨hn',h3⟩
      · rw [h3] at hp';cases hp';cases hpw
      · rw [h2] at ho;rw [h3] at hp'
        exact hH.dis l m o p b ho hp' hw hpw hb hb'
  · rintro b (hb|⟨l,hl,hb⟩)
    · exact .inl hb
    · obtain ⟨o,h1,h2,h3⟩:=own l hl
      exact .inr (.inr ⟨l,hl,h3,o,h1,h2,hb⟩)
  · intro l _ hn
    rcases ie hu l with ⟨hl,_⟩|⟨_,h2⟩
    · exact absurd hl hn
    · exact h2
  · intro l _ o ho
    rcases ie hu l with ⟨hl,e,t,xs,h1,h2⟩|⟨_,h2⟩
    · rw [h2] at ho;cases ho;exact ⟨_,h1,fun h=>by cases h⟩
    · rw [h2] at ho;exact ⟨o,ho,id⟩
  · intro l o b hl ho hw _
    rcases ie hu l with ⟨_,e,t,xs,h1,h2⟩|⟨_,h2⟩
    · exact absurd (hH.ob l _ h1).1 (by omega)
    · rw [h2] at ho;exact absurd (hH.ob l _ ho).1 (by omega)
def ig (ρ:Nat→Value) (l:Nat) (v:Value):Nat→Value:=fun m=>if m=l then v else ρ m
theorem ip {α:Type} (f:Nat→Option α) (t:Nat) (s:Option α):put f t s t=s:=by simp [put]
theorem iT {α:Type} (f:Nat→Option α) {t i:Nat} (s:Option α) (h:i≠t):put f t s i=f i:=by
 unfold put;rw [if_neg fun e=>h (Nat.eq_of_beq_eq_true e)]
theorem k8 {ρ ok w hp nx} (hH : ew ρ ok w hp nx) {w' : World} {v : Value} {o : Ob} (hos : w'.os = w.os) (htape : w'.tape = w.tape) (hout : ji w w')
    (hsz:w.heap.size≤w'.heap.size) (hold:∀b,b<w.heap.size→w'.heap[b]?=w.heap[b]?)
    (ho:ObR (ig ρ nx v) ok w' (nx+1) nx o) (hb:o.own=true→∀b,blk v=some b→w.heap.size≤b):
    Eff ρ ok w hp nx [(nx,some o)] 1 (ig ρ nx v) ok w':=by
  have hN:hp nx=none:=by
    cases h:hp nx with
    |none=>rfl
    |some p=>exact absurd (hH.ob nx p h).1 (by omega)
  have hr:∀l,l<nx→ig ρ nx v l=ρ l:=fun l hl=>by simp [ig,Nat.ne_of_lt hl]
  have hrn:ig ρ nx v nx=v:=by simp [ig]
  have hS:gU ok ok w w':=fun b hb=>⟨hb,hold b (hH.okl b hb)⟩
  have hat:∀l,ups hp [(nx,some o)] l=if l=nx then some o else hp l:=fun l=>by
    show put hp nx (some o) l=_
    by_cases e:l=nx
    · subst e;simp [ip]
    · rw [iT _ _ e,if_neg e]
  have hlt:∀{l p b},hp l=some p→p.own=true→blk (ρ l)=some b→b<w.heap.size:=fun h1 h2 h3=>hH.lt h1 h2 h3
  refine ⟨⟨?_,fun b hb=>Nat.lt_of_lt_of_le (hH.okl b hb) hsz,?_,?_,hH.gl.move hS⟩,⟨hos,htape,hout,hsz,by omega,fun b hb _=>hold b hb,hr,fun _ h=>h,fun _ h=> .inl h,?_,?_,?_⟩⟩
  · intro l p hp'
    rw [hat] at hp'
    by_cases e:l=nx
    · subst e;rw [if_pos rfl] at hp';cases hp'
      exact ⟨by omega,ho⟩
    · rw [if_neg e] at hp'
      obtain ⟨h1,h2⟩:=hH.ob l p hp'
      exact ⟨by omega,h2.move hS hr (by omega) (hr l h1) fun hw b hbl=>hold b (hlt hp' hw hbl)⟩
  · intro l p b hp' hw hbl hok
    rw [hat] at hp'
    by_cases e:l=nx
    · subst e;rw [if_pos rfl] at hp';cases hp'
      rw [hrn] at hbl
      have:=hb hw b hbl
      have:=hH.okl b hok
      omega
    · rw [if_neg e] at hp'
      obtain ⟨h1,_⟩:=hH.ob l p hp'
      rw [hr l h1] at hbl
      exact hH.sep l p b hp' hw hbl hok
  · intro l m p q b hp' hq hpw hqw hbl hbm
    rw [hat] at hp' hq
    by_cases e:l=nx
    · by_cases e':m=nx
      · rw [e,e']
      · subst e;rw [if_pos rfl] at hp';cases hp'
        rw [if_neg e'] at hq
        rw [hrn] at hbl
        have h1:=hb hpw b hbl
        rw [hr m (hH.ob m q hq).1] at hbm
        have:=hlt hq hqw hbm
        omega
    · rw [if_neg e] at hp'
      rw [hr l (hH.ob l p hp').1] at hbl
      by_cases e':m=nx
      · subst e';rw [if_pos rfl] at hq;cases hq
        rw [hrn] at hbm
        have h1:=hb hqw b hbm
        have:=hlt hp' hpw hbl
        omega
      · rw [if_neg e'] at hq
        rw [hr m (hH.ob m q hq).1] at hbm
        exact hH.dis l m p q b hp' hq hpw hqw hbl hbm
  · intro l hl _
    rw [hat,if_neg (by omega)]
  · intro l hl p hp'
    rw [hat,if_neg (by omega)] at hp'
    exact ⟨p,hp',id⟩
  · intro l p b hl hp' hw hbl
    rw [hat] at hp'
    by_cases e:l=nx
    · subst e;rw [if_pos rfl] at hp';cases hp'
      rw [hrn] at hbl
      exact .inl (hb hw b hbl)
    · rw [if_neg e] at hp'
      exact absurd (hH.ob l p hp').1 (by omega)
theorem k9 {ρ ok w hp nx} (hH:ew ρ ok w hp nx) {w':World} {l:Nat} {o p:Ob} (hl:hp l=some p) (hpw:p.own=true) (hos:w'.os=w.os) (htape:w'.tape=w.tape) (hout:ji w w')
 (hsz:w'.heap.size=w.heap.size) (hold:∀b,blk (ρ l)≠some b→w'.heap[b]?=w.heap[b]?)
 (ho:ObR ρ ok w' nx l o):
 Eff ρ ok w hp nx [(l,some o)] 0 ρ ok w':=by
 have hln:=(hH.ob l p hl).1
 have hS:gU ok ok w w':=fun b hb=>⟨hb,hold b fun e=>hH.sep l p b hl hpw e hb⟩
 have hat:∀m,ups hp [(l,some o)] m=if m=l then some o else hp m:=fun m=>by
  show put hp l (some o) m=_
  by_cases e:m=l
  ·subst e;simp [ip]
  ·rw [iT _ _ e,if_neg e]
 -- whatever is there now was there,and own if it is own
 have was:∀m q,ups hp [(l,some o)] m=some q→∃q',hp m=some q'∧(q.own=true→q'.own=true):=fun m q hq=>by
  rw [hat] at hq
  by_cases e:m=l
  ·subst e;exact ⟨p,hl,fun _=>hpw⟩
  ·rw [if_neg e] at hq;exact ⟨q,hq,id⟩
 refine ⟨⟨?_,fun b hb=>by rw [hsz];exact hH.okl b hb,?_,?_,hH.gl.move hS⟩,⟨hos,htape,hout,by omega,by omega,?_,fun _ _=>rfl,fun _ h=>h,fun _ h=> .inl h,?_,?_,?_⟩⟩
 ·intro m q hq
  rw [hat] at hq
  by_cases e:m=l
  ·subst e;rw [if_pos rfl] at hq;cases hq
   exact ⟨by omega,ho⟩
  ·rw [if_neg e] at hq
   obtain ⟨h1,h2⟩:=hH.ob m q hq
   exact ⟨by omega,h2.move hS (fun _ _=>rfl) (by omega) rfl fun hw b hbl=>hold b fun e'=>e (hH.dis m l q p b hq hl hw hpw hbl e')⟩
 ·intro m q b hq hw hbl hok
  obtain ⟨q',h1,h2⟩:=was m q hq
  exact hH.sep m q' b h1 (h2 hw) hbl hok
 ·intro m n q r b hq hr hqw hrw hbl hbm
  obtain ⟨q',h1,h2⟩:=was m q hq
  obtain ⟨r',h3,h4⟩:=was n r hr
  exact hH.dis m n q' r' b h1 h3 (h2 hqw) (h4 hrw) hbl hbm
 ·intro b hb hne
  exact hold b (hne l (by simp [names]) hln p hl hpw)
 ·intro m hm hn
  rw [hat,if_neg fun e=>hn (by simp [names,e])]
 ·intro m hm q hq
  exact was m q hq
 ·intro m q b hm hq hw hbl
  obtain ⟨q',h1,_⟩:=was m q hq
  exact absurd (hH.ob m q' h1).1 (by omega)
theorem oS {ρ ok w hp nx} (hH : ew ρ ok w hp nx) {w' : World} {l : Nat} {o p : Ob} {v : Value} (hl : hp l = some p) (hpw : p.own = true) (hos : w'.os = w.os) (htape : w'.tape = w.tape) (hout : ji w w')
    (hsz:w.heap.size≤w'.heap.size) (hold:∀b,b<w.heap.size→blk (ρ l)≠some b→w'.heap[b]?=w.heap[b]?)
    (ho:ObR (ig ρ nx v) ok w' (nx+1) nx o) (hv:∀b,blk v=some b→w.heap.size≤b∨blk (ρ l)=some b):
    Eff ρ ok w hp nx [(l,none),(nx,some o)] 1 (ig ρ nx v) ok w':=by
  have hln:=(hH.ob l p hl).1
  have hr:∀m,m<nx→ig ρ nx v m=ρ m:=fun m hm=>by simp [ig,Nat.ne_of_lt hm]
  have hrn:ig ρ nx v nx=v:=by simp [ig]
  have hS:gU ok ok w w':=fun b hb=>⟨hb,hold b (hH.okl b hb) fun e=>hH.sep l p b hl hpw e hb⟩
  have hat:∀m,ups hp [(l,none),(nx,some o)] m=if m=nx then some o else if m=l then none else hp m:=fun m=>by
    show put (put hp l none) nx (some o) m=_
    by_cases e:m=nx
    · subst e;simp [ip]
    · rw [iT _ _ e,if_neg e]
      by_cases e':m=l
      · subst e';simp [ip]
      · rw [iT _ _ e',if_neg e']
  have was:∀m q,m≠nx→ups hp [(l,none),(nx,some o)] m=some q→hp m=some q∧m≠l:=fun m q hm hq=>by
    rw [hat,if_neg hm] at hq
    by_cases e:m=l
    · rw [if_pos e] at hq;cases hq
    · rw [if_neg e] at hq;exact ⟨hq,e⟩
  refine ⟨⟨?_,fun b hb=>Nat.lt_of_lt_of_le (hH.okl b hb) hsz,?_,?_,hH.gl.move hS⟩,⟨hos,htape,hout,hsz,by omega,?_,hr,fun _ h=>h,fun _ h=> .inl h,?_,?_,?_⟩⟩
  · intro m q hq
    by_cases e:m=nx
    · subst e;rw [hat,if_pos rfl] at hq;cases hq
      exact ⟨by omega,ho⟩
    · obtain ⟨h1,h2⟩:=was m q e hq
      obtain ⟨h3,h4⟩:=hH.ob m q h1
      exact ⟨by omega,h4.move hS hr (by omega) (hr m h3) fun hw b hbl=>hold b (hH.lt h1 hw hbl) fun e'=>h2 (hH.dis m l q p b h1 hl hw hpw hbl e')⟩
  · intro m q b hq hw hbl hok
    by_cases e:m=nx
    · subst e
      rw [hrn] at hbl
      rcases hv b hbl with h1|h1
      · have:=hH.okl b hok;omega
      · exact hH.sep l p b hl hpw h1 hok
    · obtain ⟨h1,h2⟩:=was m q e hq
      rw [hr m (hH.ob m q h1).1] at hbl
      exact hH.sep m q b h1 hw hbl hok
  · have key:∀m q b,m≠nx→ups hp [(l,none),(nx,some o)] m=some q→q.own=true→blk (ig ρ nx v m)=some b→blk v=some b→False:=fun m q b e hq hqw hbl hbv=>by
      obtain ⟨h1,h2⟩:=was m q e hq
      rw [hr m (hH.ob m q h1).1] at hbl
      rcases hv b hbv with h3|h3
      · have:=hH.lt h1 hqw hbl;omega
      · exact h2 (hH.dis m l q p b h1 hl hqw hpw hbl h3)
    intro m n q r b hq hr' hqw hrw hbl hbm
    by_cases e:m=nx
    · by_cases e':n=nx
      · rw [e,e']
      · exact (key n r b e' hr' hrw hbm (by rw [e,hrn] at hbl;exact hbl)).elim
    · by_cases e':n=nx
      · exact (key m q b e hq hqw hbl (by rw [e',hrn] at hbm;exact hbm)).elim
      · obtain ⟨h1,_⟩:=was m q e hq
        obtain ⟨h2,_⟩:=was n r e' hr'
        rw [hr m (hH.ob m q h1).1] at hbl
        rw [hr n (hH.ob n r h2).1] at hbm
        exact hH.dis m n q r b h1 h2 hqw hrw hbl hbm
  · intro b hb hne
    exact hold b hb (hne l (by simp [names]) hln p hl hpw)
  · intro m hm hn
    rw [hat,if_neg (by omega),if_neg fun e=>hn (by simp [names,e])]
  · intro m hm q hq
    exact ⟨q,(was m q (by omega) hq).1,id⟩
  · intro m q b hm hq hw hbl
    by_cases e:m=nx
    · subst e
      rw [hrn] at hbl
      rcases hv b hbl with h1|h1
      · exact .inl h1
      · exact .inr ⟨l,by simp [names],hln,p,hl,hpw,h1⟩
    · exact absurd (hH.ob m q (was m q e hq).1).1 (by omega)
end Lv
end
section
namespace Lv
variable [gG]
open Go
def lb:List (Nat×Nat)→List Field→Bool
 | [],[]=>true
 |(t,o)::r,f::s=>Nat.beq t f.type&&(Nat.beq o f.offset&&lb r s)
 |_,_=>false
def kI:TK→TypeDesc→Bool
 | .int k,.int l=>kb k l
 | .bool,.bool=>true
 | .str,.string=>true
 | .sl e,.slice f=>Nat.beq e f
 | .st fs,.struct gs=>lb fs gs.toList
 | .arr n e,.array m f=>Nat.beq n m&&Nat.beq e f
 | .ptr,.pointer _=>true
 | .other,.map _ _=>true
 | .other,.func _ _ _=>true
 | .other,.interface _=>true
 | .ifc,.interface _=>true
 | .map k e,.map k' e'=>Nat.beq k k'&&Nat.beq e e'
 |_,_=>false
def zB:Value→Value→Bool
 | .int k a,.int l b=>kb k l&&decide (a=b)
 | .bool a,.bool b=>a==b
 | .string s,.string u=>Nat.beq s.size 0&&Nat.beq u.size 0
 | .slice none 0 0,.slice none 0 0=>true
 | .pointer none,.pointer none=>true
 | .map none,.map none=>true
 | .nilFunc,.nilFunc=>true
 | .nilIface,.nilIface=>true
 |_,_=>false
def zsB:List Value→List Value→Bool
 | [],[]=>true
 |a::r,b::s=>zB a b&&zsB r s
 |_,_=>false
def aggV:Value→Bool
 | .agg _=>true
 |_=>false
def rowB (P:Program) (t:Nat) (i:TI):Bool:=
 match P.info? t,P.underlying t with
 |some info,some d=>kI i.kind d&&(Nat.beq info.size i.size&&(Nat.beq info.bytes i.bytes&&((match info.zero with|some z=>zsB z.cells.toList i.zero&&(aggV z==i.agg)|none=>false)&&
  ((match i.kind with| .st fs=>fs.all fun f=>Nat.blt 0 (P.cellsOf f.1)|_=>true)&&((match i.ty with|some ty=>Nat.beq ty.n i.size|none=>true)&&
  (Nat.ble (i.cap*i.bytes) 140737488355328&&(Nat.ble i.cap 140737488355328&&(Nat.blt 0 i.size&&(Nat.beq i.zero.length i.size&&(i.agg||Nat.beq i.size 1))))))))))
 |_,_=>false
def BE (P:Program):List (Nat×TI)→Bool
 | []=>true
 |(t,i)::r=>rowB P t i&&BE P r
theorem zB_eq:∀{a b:Value},zB a b=true→a=b:=by
 intro a b h
 unfold zB at h
 split at h<;>first|rfl|(cases h;done)|skip
 ·have:=Bool.and_eq_true_iff.1 h
  rw [pX this.1,of_decide_eq_true this.2]
 ·rw [eq_of_beq h]
 ·rename_i s u
  have:=Bool.and_eq_true_iff.1 h
  have h1:=Nat.eq_of_beq_eq_true this.1
  have h2:=Nat.eq_of_beq_eq_true this.2
  have e:∀x:ByteArray,x.size=0→x=⟨#[]⟩:=fun x hx=>by
   cases x with
   |mk d=>congr 1;exact Array.eq_empty_of_size_eq_zero hx
  rw [e s h1,e u h2]
theorem B7:∀{a b:Value},zB a b=true→b.oneCell'=true:=by
 intro a b h
 unfold zB at h
 split at h<;>first|rfl|(cases h;done)
theorem xM:∀{a b:List Value},zsB a b=true→a=b∧∀u∈b,u.oneCell'=true
 | [],[],_=>⟨rfl,fun u hu=>by cases hu⟩
 |a::r,b::s,h=>by
  have h':=Bool.and_eq_true_iff.1 h
  obtain ⟨h1,h2⟩:=xM h'.2
  refine ⟨by rw [zB_eq h'.1,h1],fun u hu=>?_⟩
  rcases List.mem_cons.1 hu with rfl|hu
  ·exact B7 h'.1
  ·exact h2 u hu
structure jw (P:Program) (t:Nat) (i:TI):Prop where
 ex:∃info d z,P.info? t=some info∧P.underlying t=some d∧kI i.kind d=true∧info.size=i.size∧info.bytes=i.bytes∧info.zero=some z∧z.cells.toList=i.zero∧aggV z=i.agg
 z1:∀u∈i.zero,u.oneCell'=true
 fs:∀fs,i.kind=.st fs→∀f∈fs,0<P.cellsOf f.1
 ty:∀ty,i.ty=some ty→ty.n=i.size
 cap:i.cap*i.bytes≤140737488355328
 cap':i.cap≤140737488355328
 pos:0<i.size
 zl:i.zero.length=i.size
 one:i.agg=true∨i.size=1
def gC (P:Program) (tab:Nat→Option TI):Prop:=∀t i,tab t=some i→jw P t i
theorem zY {P : Program} {t : Nat} {i : TI} (h : rowB P t i = true) : jw P t i := by
  unfold rowB at h
  split at h
  · rename_i info d h1 h2
    simp only [Bool.and_eq_true] at h
    obtain ⟨a1,a2,a3,a4,a5,a6,a7,a8,a9,a10,a11⟩:=h
    split at a4
    · rename_i z hz
      obtain ⟨a4,az⟩:=Bool.and_eq_true_iff.1 a4
      obtain ⟨z1,z2⟩:=xM a4
      refine ⟨⟨info,d,z,h1,h2,a1,Nat.eq_of_beq_eq_true a2,Nat.eq_of_beq_eq_true a3,hz,z1,eq_of_beq az⟩,z2,?_,?_,Nat.le_of_ble_eq_true a7,Nat.le_of_ble_eq_true a8,Nat.le_of_ble_eq_true a9,Nat.eq_of_beq_eq_true a10,?_⟩
      · intro fs hf f hm
        rw [hf] at a5
        exact Nat.le_of_ble_eq_true (List.all_eq_true.1 a5 f hm)
      · intro ty hty
        rw [hty] at a6
        exact Nat.eq_of_beq_eq_true a6
      · rcases Bool.or_eq_true_iff.1 a11 with h|h
        · exact .inl h
        · exact .inr (Nat.eq_of_beq_eq_true h)
    · cases a4
  · cases h
theorem rU {P:Program}:∀{rows:List (Nat×TI)},BE P rows=true→gC P (rI rows)
  | [],_=>fun t i h=>by cases h
  |(u,j)::r,h=>fun t i hi=>by
    have h':=Bool.and_eq_true_iff.1 h
    unfold rI at hi
    by_cases e:Nat.beq u t=true
    · rw [if_pos e] at hi;cases hi
      rw [←Nat.eq_of_beq_eq_true e]
      exact zY h'.1
    · rw [if_neg e] at hi
      exact rU h'.2 t i hi
section
variable {P:Program} {t:Nat} {i:TI} (w:World)
theorem jw.info (h:jw P t i):∃info z,P.info? t=some info∧info.size=i.size∧info.bytes=i.bytes∧info.zero=some z∧z.cells.toList=i.zero:=by
 obtain ⟨info,d,z,h1,_,_,h4,h5,h6,h7,_⟩:=h.ex
 exact ⟨info,z,h1,h4,h5,h6,h7⟩
theorem kC (h:jw P t i):(Go.sizeOf t).run P w=.ok i.size w:=by
 obtain ⟨info,z,h1,h2,_⟩:=h.info
 simp [Go.sizeOf,typeInfo,h1,h2]
theorem mD (h:jw P t i):P.cellsOf t=i.size:=by
 obtain ⟨info,z,h1,h2,_⟩:=h.info
 simp [Program.cellsOf,h1,h2]
def aggD:TypeDesc→Bool
 | .struct _=>true
 | .array _ _=>true
 |_=>false
def aggK:TK→Bool
 | .st _=>true
 | .arr _ _=>true
 |_=>false
theorem p6 {k:TK} {d:TypeDesc} (h:kI k d=true):aggK k=aggD d:=by
 cases k<;>cases d<;>first|rfl|cases h
theorem ox (h:jw P t i):(isAgg t).run P w=.ok i.agg w:=by
 obtain ⟨info,d,z,_,h2,h3,_⟩:=h.ex
 have h4:i.agg=aggD d:=(p6 h3)▸rfl
 rw [h4]
 cases d<;>simp [isAgg,run_underlying h2,aggD]
theorem lA (h:jw P t i):∃z,(zeroValue t).run P w=.ok z w∧z.cells.toList=i.zero:=by
 obtain ⟨info,z,h1,_,_,h4,h5⟩:=h.info
 exact ⟨z,by simp [zeroValue,typeInfo,h1,h4],h5⟩
theorem ws (h:jw P t i):∃z,(zeroValue t).run P w=.ok z w∧z.cells.toList=i.zero∧aggV z=i.agg:=by
 obtain ⟨info,d,z,h1,_,_,_,_,h4,h5,h6⟩:=h.ex
 exact ⟨z,by simp [zeroValue,typeInfo,h1,h4],h5,h6⟩
theorem jw.sl {e:Nat} (h:jw P t i) (hk:i.kind=.sl e):P.underlying t=some (.slice e):=by
 obtain ⟨info,d,z,_,h2,h3,_⟩:=h.ex
 rw [hk] at h3
 cases d<;>simp [kI] at h3
 rw [h2,h3]
theorem jw.arr {n e:Nat} (h:jw P t i) (hk:i.kind=.arr n e):P.underlying t=some (.array n e):=by
 obtain ⟨info,d,z,_,h2,h3,_⟩:=h.ex
 rw [hk] at h3
 cases d<;>simp [kI] at h3
 rw [h2,h3.1,h3.2]
theorem jw.ifc (h:jw P t i) (hk:i.kind=.ifc):∃ms,P.underlying t=some (.interface ms):=by
 obtain ⟨info,d,z,_,h2,h3,_⟩:=h.ex
 rw [hk] at h3
 cases d<;>simp [kI] at h3
 exact ⟨_,h2⟩
theorem jw.map {k e:Nat} (h:jw P t i) (hk:i.kind=.map k e):P.underlying t=some (.map k e):=by
 obtain ⟨info,d,z,_,h2,h3,_⟩:=h.ex
 rw [hk] at h3
 cases d<;>simp [kI] at h3
 rw [h2,h3.1,h3.2]
theorem jw.str (h:jw P t i) (hk:i.kind=.str):P.underlying t=some .string:=by
 obtain ⟨info,d,z,_,h2,h3,_⟩:=h.ex
 rw [hk] at h3
 cases d<;>simp [kI] at h3
 exact h2
theorem jw.bool (h:jw P t i) (hk:i.kind=.bool):P.underlying t=some .bool:=by
 obtain ⟨info,d,z,_,h2,h3,_⟩:=h.ex
 rw [hk] at h3
 cases d<;>simp [kI] at h3
 exact h2
theorem jw.int {k:IntKind} (h:jw P t i) (hk:i.kind=.int k):P.underlying t=some (.int k):=by
 obtain ⟨info,d,z,_,h2,h3,_⟩:=h.ex
 rw [hk] at h3
 cases d<;>simp [kI] at h3
 rw [h2,pX h3]
theorem iD:∀{fs:List (Nat×Nat)} {gs:List Field},lb fs gs=true→∀(n:Nat) u o,fs[n]?=some (u,o)→∃g,gs[n]?=some g∧g.type=u∧g.offset=o
  | [],[],_,n,u,o,h=>by simp at h
  |(a,b)::r,g::s,h,n,u,o,hn=>by
    simp only [lb,Bool.and_eq_true] at h
    cases n with
    |zero=>
      simp at hn
      exact ⟨g,by simp,by rw [←Nat.eq_of_beq_eq_true h.1,hn.1],by rw [←Nat.eq_of_beq_eq_true h.2.1,hn.2]⟩
    |succ n=>simpa using iD h.2.2 n u o (by simpa using hn)
theorem lB:∀{fs:List (Nat×Nat)} {gs:List Field},lb fs gs=true→fs.length=gs.length
  | [],[],_=>rfl
  |(a,b)::r,g::s,h=>by
    simp only [lb,Bool.and_eq_true] at h
    simp [lB h.2.2]
theorem jw.st {fs:List (Nat×Nat)} (h:jw P t i) (hk:i.kind=.st fs):∃gs:Array Field,P.underlying t=some (.struct gs)∧lb fs gs.toList=true:=by
 obtain ⟨info,d,z,_,h2,h3,_⟩:=h.ex
 rw [hk] at h3
 cases d<;>simp [kI] at h3
 exact ⟨_,h2,h3⟩
end
theorem zZ (v:Value):oneV v=v.oneCell':=by cases v<;>rfl
theorem BF {ρ ok w nx} {v:Value} (h:v.oneCell'=true):dP ρ ok w nx (Cell.of v) v:=by
 cases v<;>first|rfl|exact ⟨rfl,h⟩
theorem lD {ρ ok w nx}:∀{vs:List Value},(∀u∈vs,u.oneCell'=true)→All2 (dP ρ ok w nx) (vs.map Cell.of) vs
 | [],_=> .nil
 |v::r,h=> .cons (BF (h v (by simp))) (lD fun u hu=>h u (List.mem_cons_of_mem _ hu))
theorem wu {ρ ok w nx} {v:Value} (h:tM v=true):ij ρ ok w nx (fE.of v) v:=by
 cases v
 case agg cs=>
  refine ⟨cs.toList,rfl,lD fun u hu=>?_⟩
  rw [←zZ]
  exact List.all_eq_true.1 h u hu
 case tuple=>cases h
 all_goals exact ⟨_,rfl,BF rfl⟩
theorem jf {ρ ok w nx env} {a:Act} (he:eH ρ ok w nx env a.tmps) {x:Operand} {s:fE} (h:opd env x=some s):ij ρ ok w nx s (a.eval x):=by
 cases x with
 |tmp t=>
  obtain ⟨v,h1,h2⟩:=he t s h
  have:a.eval (.tmp t)=v:=by simp [Act.eval,Array.getD_eq_getD_getElem?,h1]
  rw [this];exact h2
 |const v=>
  simp only [opd] at h
  split at h
  ·cases h;rename_i hp;exact wu hp
  ·cases h
 |global g=>cases h;exact ⟨_,rfl,rfl,rfl⟩
 |func f=>cases h;exact ⟨_,rfl,rfl,rfl⟩
theorem kq {s:Option fE} {c:Cell} (h:eN s=some c):s=some (.v false [c]):=by
 unfold eN at h
 split at h
 ·cases h;rfl
 ·cases h
theorem dc {ρ ok w nx env} {a:Act} (he:eH ρ ok w nx env a.tmps) {x:Operand} {c:Cell} (h:eN (opd env x)=some c):dP ρ ok w nx c (a.eval x):=by
 obtain ⟨d,h1,h2⟩:=jf he (kq h)
 cases h1;exact h2
theorem lE {ρ ok w nx env} {a:Act} (he:eH ρ ok w nx env a.tmps) {x:Operand} {cs:List Cell} (h:cellsOf (opd env x)=some cs):∃vs,(a.eval x).cells.toList=vs∧All2 (dP ρ ok w nx) cs vs:=by
 unfold cellsOf at h
 split at h
 ·rename_i agg ds hd
  cases h
  have:=jf he hd
  cases agg with
  |true=>obtain ⟨vs,e,h⟩:=this;rw [e];exact ⟨vs,rfl,h⟩
  |false=>
   obtain ⟨c,e,h⟩:=this
   subst e
   refine ⟨[a.eval x],?_,.cons h .nil⟩
   have h1:=h.one
   revert h1
   cases a.eval x<;>simp [Value.cells,Value.oneCell']
 ·cases h
theorem lF {ρ ok w nx}:∀{t:Ty} {x:t.T} {vs:List Value},K ok w t x vs→All2 (dP ρ ok w nx) (t.ex x) vs
 | .int _,_,_,h=>by cases h;exact .cons rfl .nil
 | .bool,_,_,h=>by cases h;exact .cons rfl .nil
 | .str,_,_,h=>by cases h;exact .cons rfl .nil
 | .val,_,_,h=>by obtain ⟨h1,h2⟩:=h;cases h1;exact .cons ⟨rfl,h2⟩ .nil
 | .unit,_,_,h=>by cases h;exact .nil
 | .pair a b,x,vs,h=>by
  obtain ⟨c,d,rfl,h1,h2⟩:=h
  exact (lF h1).app (lF h2)
 | .sl e t,xs,vs,h=>by
  obtain ⟨A,cap,rfl,h1⟩:=h
  exact .cons ⟨A,cap,rfl,h1⟩ .nil
theorem tT:∀(t:Ty) (x:t.T),(t.ex x).length=t.n
 | .int _,_=>rfl
 | .bool,_=>rfl
 | .str,_=>rfl
 | .val,_=>rfl
 | .unit,_=>rfl
 | .pair a b,x=>by simp [Ty.ex,tT a x.1,tT b x.2,Ty.n]
 | .sl _ _,_=>rfl
theorem ia {e f:Nat} {t u:Ty} {xs:List u.T} {ys:List t.T} (h:kB e t f u xs=some ys):e=f∧u=t∧HEq ys xs:=by
 unfold kB at h
 split at h
 ·rename_i h1
  split at h
  ·rename_i h2
   cases h
   obtain rfl:=Ty.b_eq h2
   exact ⟨Nat.eq_of_beq_eq_true h1,rfl,HEq.rfl⟩
  ·cases h
 ·cases h
def xN (hp:cT) (u:Ups) (cs:List Cell):Prop:=∀l e t xs,hp l=some (.arr e t xs)→(Cell.ref l∈cs∨∃n lo len,Cell.sub l n lo len∈cs)→l∈names u
theorem lG (hp : cT) : ∀ cs,xN hp (ja hp cs) cs
  | []=>fun l e t xs _ h=>by rcases h with h|⟨_,_,_,h⟩<;>cases h
  | c :: r => by
    have ih:=lG hp r
    intro l e t xs hl hm
    have one:∀m,l=m→l∈names (wk hp m):=fun m e'=>by subst e';simp [wk,hl,names]
    rcases hm with hm|⟨n,lo,len,hm⟩
    · rcases List.mem_cons.1 hm with h|h
      · subst h
        simp only [ja,names,List.map_append,List.mem_append]
        exact .inl (one l rfl)
      · have:=ih l e t xs hl (.inl h)
        cases c<;>simp only [ja,names,List.map_append,List.mem_append] at this ⊢<;>first|exact this|exact .inr this
    · rcases List.mem_cons.1 hm with h|h
      · subst h
        simp only [ja,names,List.map_append,List.mem_append]
        exact .inl (one l rfl)
      · have:=ih l e t xs hl (.inr ⟨n,lo,len,h⟩)
        cases c<;>simp only [ja,names,List.map_append,List.mem_append] at this ⊢<;>first|exact this|exact .inr this
theorem Row.part {α:Type} {R:α→List Value→Prop} {n:Nat} {ok:Nat→Prop} {w:World} {b:Nat} {o:Nat} {xs:List α} (hb:ok b)
 (h:∀i x,xs[i]?=some x→∃cs,R x cs∧∀j v,cs[j]?=some v→w.cell? ⟨b,o+i*n+j,none⟩=some v) (lo len:Nat):Row R n ok w (some ⟨b,o+lo*n,none⟩) ((xs.drop lo).take len):=by
 refine .inr ⟨b,o+lo*n,rfl,hb,fun i x hi=>?_⟩
 rw [List.getElem?_take] at hi
 split at hi
 ·rw [List.getElem?_drop] at hi
  obtain ⟨cs,h1,h2⟩:=h _ _ hi
  refine ⟨cs,h1,fun j v hj=>?_⟩
  have:=h2 j v hj
  rwa [show o+(lo+i)*n+j=o+lo*n+i*n+j by rw [Nat.add_mul];omega] at this
 ·cases hi
theorem qD {ρ ok w hp nx} (hH : ew ρ ok w hp nx) {hp' : cT} (hs : ∀ l o,hp' l = some o → hp l = some o) {ok' : Nat → Prop} (hm : ∀ b,ok b → ok' b) {e : Nat} {t : Ty} {c : Cell} {xs : List t.T} {v : Value}
    (hc:dP ρ ok w nx c v) (hok:∀l f u ys,hp' l=some (.arr f u ys)→(Cell.ref l=c∨∃n lo len,Cell.sub l n lo len=c)→∀b,blk (ρ l)=some b→ok' b)
    (h:mQ e t hp' c=some xs):K ok' w (.sl e t) xs [v]:=by
  have hS:gU ok ok' w w:=fun b hb=>⟨hm b hb,rfl⟩
  cases c with
  |sl f u ys=>
    obtain ⟨rfl,rfl,h⟩:=ia h
    cases h
    exact ju hS hc
  |ref l=>
    simp only [mQ] at h
    obtain ⟨h1,rfl,h3⟩:=hc
    split at h
    · rename_i f u ys hl
      obtain ⟨rfl,rfl,h⟩:=ia h
      cases h
      obtain ⟨_,inner,h4,h5⟩:=hH.ob l _ (hs _ _ hl)
      exact oQ h4 h5 hm (hok l _ _ _ hl (.inl rfl))
    · rename_i f u ys hl
      obtain ⟨rfl,rfl,h⟩:=ia h
      cases h
      exact ju hS (hH.ob l _ (hs _ _ hl)).2
    · cases h
  | sub l n lo len =>
    simp only [mQ] at h
    obtain ⟨h1,A,cap,rfl,h3,h4⟩:=hc
    have fin:∀(f:Nat) (u:Ty) (ys:List u.T),n=u.n→K ok' w (.sl f u) ys [ρ l]→kB e t f u ((ys.drop lo).take len)=some xs→K ok' w (.sl e t) xs [.slice A len cap]:=by
      intro f u ys hnu hk hx
      obtain ⟨rfl,rfl,hx⟩:=ia hx
      cases hx
      obtain ⟨A',cap',hv,hle,hr⟩:=hk
      have hv:ρ l=.slice A' ys.length cap':=by injection hv
      rcases h4 with rfl|⟨b,L,C,h5,h6,h7⟩
      · exact ⟨A,cap,by simp,by simp,.inl (by simp)⟩
      · rw [h5] at hv
        injection hv with e1 e2 e3
        have hlen:((ys.drop lo).take len).length=len:=by simp;omega
        refine ⟨A,cap,by rw [hlen],by rw [hlen];exact h3,?_⟩
        rcases hr with hr|⟨b',o',hA,hb,hr⟩
        · subst hr;exact .inl (by simp)
        · rw [hA] at e1
          injection e1 with e1
          injection e1 with e4 e5
          subst e4 e5
          rw [h6,hnu]
          have:=Row.part (R:=K ok' w u) hb hr lo len
          rwa [Nat.zero_add] at this
    split at h
    · rename_i f u ys hl
      have hl':=hs _ _ hl
      obtain ⟨_,inner,h5,h6⟩:=hH.ob l _ hl'
      split at h
      · rename_i hnu
        exact fin f u ys (Nat.eq_of_beq_eq_true hnu) (oQ h5 h6 hm (hok l _ _ _ hl (.inr ⟨n,lo,len,rfl⟩))) h
      · cases h
    · rename_i f u ys hl
      have hl':=hs _ _ hl
      split at h
      · rename_i hnu
        exact fin f u ys (Nat.eq_of_beq_eq_true hnu) (ju hS (hH.ob l _ hl').2) h
      · cases h
    · cases h
  |val u=>
    obtain ⟨rfl,h1⟩:=hc
    unfold mQ at h
    split at h<;>rename_i heq<;>first|(cases heq;done)|(cases h;done)|skip
    all_goals first|(cases heq;cases h;exact ⟨none,0,rfl,Nat.le_refl _,.inl rfl⟩)|skip
  |_=>cases h
def ld (ρ:Nat→Value) (ok':Nat→Prop) (hp':cT) (cs:List Cell):Prop:=
 ∀(l f:Nat) (u:Ty) (ys:List u.T),hp' l=some (.arr f u ys)→(Cell.ref l∈cs∨∃n lo len,Cell.sub l n lo len∈cs)→∀b,blk (ρ l)=some b→ok' b
theorem ld.sub {ρ ok' hp' cs ds} (h:ld ρ ok' hp' cs) (hd:∀c∈ds,c∈cs):ld ρ ok' hp' ds:=fun l f u ys hl hm=>
 h l f u ys hl (hm.imp (hd _) fun ⟨n,lo,len,hm⟩=>⟨n,lo,len,hd _ hm⟩)
theorem ld.of {ρ:Nat→Value} {ok:Nat→Prop} {hp':cT} {u:Ups} {cs:List Cell} (hc:xN hp' u cs):ld ρ (gZ ok ρ (names u)) hp' cs:=fun l f _ ys hl hm b hb=>
 .inr ⟨l,hc l f _ ys hl hm,hb⟩
theorem xO {ρ ok w nx} {c:Cell} {v u:Value} (hc:dP ρ ok w nx c v) (h:c.raw=some u):v=u∧u.oneCell'=true:=by
 cases c<;>simp only [Cell.raw] at h<;>first|(cases h;done)|(cases h;exact ⟨hc,rfl⟩)|(cases h;exact hc)
theorem lH {ρ ok w hp nx} (hH:ew ρ ok w hp nx) {hp':cT} (hs:∀l o,hp' l=some o→hp l=some o) {ok':Nat→Prop} (hm:∀b,ok b→ok' b):
 ∀{t:Ty} {cs:List Cell} {vs:List Value} {x:t.T},All2 (dP ρ ok w nx) cs vs→ld ρ ok' hp' cs→t.co hp' cs=some x→K ok' w t x vs
 | .int k,cs,vs,x,hc,_,h=>by
  simp only [Ty.co] at h
  unfold Bw at h
  split at h<;>try (cases h;done)
  split at h
  ·rename_i hk
   cases h
   obtain ⟨v,rfl,hv⟩:=hc.one
   rw [pX hk]
   exact congrArg (fun a=> [a]) hv
  ·cases h
 | .bool,cs,vs,x,hc,_,h=>by
  simp only [Ty.co] at h
  unfold xq at h
  split at h<;>try (cases h;done)
  cases h
  obtain ⟨v,rfl,hv⟩:=hc.one
  exact congrArg (fun a=> [a]) hv
 | .str,cs,vs,x,hc,_,h=>by
  simp only [Ty.co] at h
  unfold Bx at h
  split at h<;>try (cases h;done)
  cases h
  obtain ⟨v,rfl,hv⟩:=hc.one
  exact congrArg (fun a=> [a]) hv
 | .val,cs,vs,x,hc,_,h=>by
  simp only [Ty.co] at h
  unfold Bz at h
  split at h<;>try (cases h;done)
  obtain ⟨v,rfl,hv⟩:=hc.one
  obtain ⟨rfl,h2⟩:=xO hv h
  exact ⟨rfl,h2⟩
 | .unit,cs,vs,x,hc,_,h=>by
  simp only [Ty.co] at h
  unfold xu at h
  split at h<;>try (cases h;done)
  cases hc
  rfl
 | .pair a b,cs,vs,x,hc,hf,h=>by
  simp only [Ty.co] at h
  split at h<;>try (cases h;done)
  rename_i y z h1 h2
  cases h
  refine ⟨vs.take a.n,vs.drop a.n,(List.take_append_drop _ _).symm,?_,?_⟩
  ·exact lH hH hs hm (hc.take a.n) (hf.sub fun c hc=>List.mem_of_mem_take hc) h1
  ·exact lH hH hs hm (hc.drop a.n) (hf.sub fun c hc=>List.mem_of_mem_drop hc) h2
 | .sl e t,cs,vs,x,hc,hf,h=>by
  simp only [Ty.co] at h
  unfold BA at h
  split at h<;>try (cases h;done)
  obtain ⟨v,rfl,hv⟩:=hc.one
  exact qD hH hs hm hv (fun l f u ys hl hx=>hf l f u ys hl (hx.imp (fun e=>by simp [e]) fun ⟨n,lo,len,e⟩=>⟨n,lo,len,by simp [e]⟩)) h
theorem rV {ρ ok w hp nx} (hH:ew ρ ok w hp nx) {hp':cT} (hs:∀l o,hp' l=some o→hp l=some o) {ok':Nat→Prop} (hm:∀b,ok b→ok' b) {t:Ty}:
 ∀{css:List (List Cell)} {vss:List (List Value)} {xs:List t.T},All2 (fun cs vs=>All2 (dP ρ ok w nx) cs vs) css vss→ld ρ ok' hp' css.flatten→nY hp' t css=some xs→Rows ok' w t xs vss.flatten
 | [],_,xs,.nil,_,h=>by cases h;exact ⟨[],rfl,.nil⟩
 |cs::r,_,xs,.cons (bs:=vr) hc hr,hf,h=>by
  simp only [nY] at h
  split at h<;>try (cases h;done)
  rename_i y ys h1 h2
  cases h
  obtain ⟨css,e,h3⟩:=rV hH hs hm hr (hf.sub fun c hc=>by simp only [List.flatten_cons,List.mem_append];exact .inr hc) h2
  exact ⟨_::css,by rw [List.flatten_cons,List.flatten_cons,e],.cons (lH hH hs hm hc (hf.sub fun c hc=>by simp only [List.flatten_cons,List.mem_append];exact .inl hc) h1) h3⟩
end Lv
end
section
namespace Lv
variable [gG]
open Go
def fh (P : Program) (o : Oper) (a : Act) (ρ : Nat → Value) (ok : Nat → Prop) (w : World) (st : St) (r : Res) : Prop :=
  ∃ n w' ρ' ok',(execOp a.eval o).run P w = .ok n w' ∧ Eff ρ ok w st.hp st.nx r.up r.nw ρ' ok' w' ∧
    ((∃v,n=.value v∧∀s,r.s=some s→ij ρ' ok' w' (st.nx+r.nw) s v)∨(n=.skip∧r.s=none))
structure Now (P:Program) (ρ:Nat→Value) (ok:Nat→Prop) (w:World) (st:St) (a:Act) (hp':cT):Prop where
 H:ew ρ ok w st.hp st.nx
 E:eH ρ ok w st.nx st.env a.tmps
 sub:∀l o,hp' l=some o→st.hp l=some o
section
variable {P:Program} {o:Oper} {a:Act} {ρ:Nat→Value} {ok:Nat→Prop} {w:World} {st:St} {hp':cT}
theorem fh.pure (hN:Now P ρ ok w st a hp') {s:Option fE} {v:Value} (hr:(execOp a.eval o).run P w=.ok (.value v) w) (hs:∀x,s=some x→ij ρ ok w st.nx x v):
 fh P o a ρ ok w st ⟨true,s,[],0⟩:=⟨_,w,ρ,ok,hr,Eff.refl hN.H,.inl ⟨v,rfl,hs⟩⟩
theorem fh.cell (hN:Now P ρ ok w st a hp') {b:Bool} {c:Cell} {v:Value} (hr:(execOp a.eval o).run P w=.ok (.value v) w) (hs:dP ρ ok w st.nx c v):
 fh P o a ρ ok w st ⟨b,some (.v false [c]),[],0⟩:=⟨_,w,ρ,ok,hr,Eff.refl hN.H,.inl ⟨v,rfl,fun x hx=>by cases hx;exact ⟨c,rfl,hs⟩⟩⟩
theorem jH (b o n:Nat):Addr.add ⟨b,o,none⟩ n=⟨b,o+n,none⟩:=Addr.add_lit b o n
theorem p7 {t:Nat} {i:TI} (hi:jw P t i) {b off:Nat} {cs:List Value} (hl:cs.length=i.size) (h:∀j v,cs[j]?=some v→w.cell? ⟨b,off+j,none⟩=some v):
 (loadVar t ⟨b,off,none⟩).run P w=.ok (if i.agg=true then .agg cs.toArray else cs.getD 0 undef) w:=by
 unfold loadVar
 simp only [Sem.run_bind,ox w hi,Result.andThen_ok]
 by_cases ha:i.agg=true
 ·simp only [ha,if_true,Sem.run_bind,kC w hi,Result.andThen_ok]
  rw [←hl,run_loadCells_list w _ cs (fun j v hj=>by rw [jH];exact h j v hj)]
  simp
 ·simp only [ha,if_false,Bool.false_eq_true]
  have h1:i.size=1:=hi.one.resolve_left ha
  rw [h1] at hl
  match cs,hl with
  | [v],_=>
   have:=h 0 v (by simp)
   rw [Nat.add_zero] at this
   simp [this]
theorem kr (hN : Now P ρ ok w st a hp') {t : Nat} {i : TI} (hi : jw P t i) {x : Operand} (ho : o.op = .load t x) {b off base : Nat} {cs : List Cell} {vs : List Value} {r : Res}
    (hx:a.eval x=.pointer (some ⟨b,base+off,none⟩)) (hc:All2 (dP ρ ok w st.nx) cs vs) (hm:∀j v,vs[j]?=some v→w.cell? ⟨b,base+j,none⟩=some v) (h:jL i cs off=some r):fh P o a ρ ok w st r:=by
  unfold jL at h
  split at h
  · rename_i hb
    have hle:=Nat.le_of_ble_eq_true hb
    have hl:=hc.len
    have hc':=(hc.drop off).take i.size
    have hlen:((vs.drop off).take i.size).length=i.size:=by simp;omega
    have hrun:=p7 (w:=w) hi (b:=b) (off:=base+off) hlen (fun j v hj=>by
      rw [List.getElem?_take] at hj
      split at hj
      · rw [List.getElem?_drop] at hj
        have:=hm _ _ hj
        rwa [Nat.add_assoc]
      · cases hj)
    have hr:(execOp a.eval o).run P w=.ok (.value (if i.agg=true then .agg ((vs.drop off).take i.size).toArray else ((vs.drop off).take i.size).getD 0 undef)) w:=by
      simp only [execOp,ho,Instr.loadAt,hx,Instr.sureAddr,Sem.run_bind,Sem.run_pure,Result.andThen_ok,hrun]
    split at h
    · rename_i ha
      cases h
      rw [if_pos ha] at hr
      exact fh.pure hN hr fun s hs=>by cases hs;exact ⟨_,rfl,hc'⟩
    · rename_i ha
      cases h
      rw [if_neg ha] at hr
      have h1:i.size=1:=hi.one.resolve_left ha
      refine fh.pure hN hr fun s hs=>?_
      cases hs
      rw [h1] at hc' hlen ⊢
      have hl2:=hc'.len
      match hcs:(cs.drop off).take 1,hvs:(vs.drop off).take 1,hlen with
      | [],[v],_=>rw [hcs,hvs] at hl2;simp at hl2
      | [c],[v],_=>
        rw [hcs,hvs] at hc'
        obtain ⟨u,e,hu⟩:=hc'.one
        cases e
        exact ⟨c,rfl,hu⟩
      |_::_::_,[v],_=>rw [hcs,hvs] at hl2;simp at hl2
  · cases h
theorem rX {n:Nat} {t:Ty} {xs:List t.T} {inner:List Value} (h:Rows ok w t xs inner) {g e:Nat} {cur:Array Value} (hg:w.heap[g]?=some (.cells cur e (0,0))) (ht:cur.toList.take inner.length=inner) {j:Nat} {x:t.T} (hx:xs[j]?=some x):
 ∃vs,K ok w t x vs∧∀k v,vs[k]?=some v→w.cell? ⟨g,j*t.n+k,none⟩=some v:=by
 obtain ⟨cs,h1,h2⟩:=h.get j x hx
 refine ⟨cs,h1,fun k v hk=>?_⟩
 have:=h2 k v hk
 rw [←ht,List.getElem?_take] at this
 split at this
 ·simpa [World.cell?,hg] using this
 ·cases this
theorem rY (hH:ew ρ ok w st.hp st.nx) {l e:Nat} {t:Ty} {xs:List t.T} (hl:st.hp l=some (.arr e t xs)) {g L C:Nat} (hv:ρ l=.slice (some ⟨g,0,none⟩) L C):
 L=xs.length∧∀j x,xs[j]?=some x→∃vs,K ok w t x vs∧∀k v,vs[k]?=some v→w.cell? ⟨g,j*t.n+k,none⟩=some v:=by
 obtain ⟨_,inner,h1,h2⟩:=hH.ob l _ hl
 rcases h1.2 with ⟨h3,_⟩|⟨g',cap,cur,h3,_,h4,h5,_,h6,h7⟩
 ·rw [hv] at h3;cases h3
 ·rw [hv] at h3
  injection h3 with e1 e2 e3
  injection e1 with e1
  injection e1 with e1
  subst e1 e2
  refine ⟨rfl,fun j x hx=>rX (n:=0) h2 h4 ?_ hx⟩
  rw [h1.1];exact h7
theorem xP (hH:ew ρ ok w st.hp st.nx) {l e:Nat} {t:Ty} {xs:List t.T} (hl:st.hp l=some (.frz e t xs)) {g L C:Nat} (hv:ρ l=.slice (some ⟨g,0,none⟩) L C):
 L=xs.length∧∀j x,xs[j]?=some x→ok g∧∃vs,K ok w t x vs∧∀k v,vs[k]?=some v→w.cell? ⟨g,j*t.n+k,none⟩=some v:=by
 obtain ⟨_,A,cap,h1,h2,h3⟩:=hH.ob l _ hl
 rw [hv] at h1
 injection h1 with e1 _
 injection e1 with e1 e2 e3
 refine ⟨e2,fun j x hx=>?_⟩
 rcases h3 with h3|⟨b,o,h4,h5,h6⟩
 ·subst h3;simp at hx
 ·rw [←e1] at h4
  injection h4 with h4
  injection h4 with h4 h7
  subst h4 h7
  refine ⟨h5,?_⟩
  obtain ⟨vs,g1,g2⟩:=h6 j x hx
  exact ⟨vs,g1,fun k v hk=>by have:=g2 k v hk;rwa [Nat.zero_add] at this⟩
theorem getD_some {α:Type} {xs:List α} {i:Nat} (h:i<xs.length) (d:α):xs[i]?=some (xs.getD i d):=by
 simp [List.getD,List.getElem?_eq_getElem h]
theorem Aa (cx:Cx) (hT:gC P cx.tab) (hN:Now P ρ ok w st a hp') {t:Nat} {x:Operand} (ho:o.op=.load t x) {r:Res} (h:gR cx st.nx (.load t x) (opd st.env) hp'=some r):fh P o a ρ ok w st r:=by
 simp only [gR] at h
 split at h<;>try (cases h;done)
 ·rename_i i l off h1 h2
  split at h<;>try (cases h;done)
  rename_i e cs hl
  obtain ⟨_,b,h3,h4⟩:=dc hN.E h2
  obtain ⟨_,b',vs,h5,h6,h7⟩:=hN.H.ob l _ (hN.sub _ _ hl)
  rw [h3] at h5;cases h5
  exact kr hN (hT t i h1) ho (base:=0) (by rw [Nat.zero_add];exact h4) h7 (fun j v hj=>by rw [Nat.zero_add];simpa [World.cell?,h6] using hj) h
 ·rename_i i u y off h1 h2
  obtain ⟨b,base,vs,h3,_,h5,h6⟩:=dc hN.E h2
  exact kr hN (hT t i h1) ho h3 (lF h5) h6 h
 ·rename_i i l n j off h1 h2
  obtain ⟨_,b,L,C,h3,h4,h5⟩:=dc hN.E h2
  split at h<;>try (cases h;done)
  ·rename_i e u xs hl
   split at h<;>try (cases h;done)
   rename_i hn
   have hn:=Nat.eq_of_beq_eq_true hn
   subst hn
   obtain ⟨h6,h7⟩:=rY hN.H (hN.sub _ _ hl) h3
   obtain ⟨vs,h8,h9⟩:=h7 j _ (getD_some (by omega) u.z)
   exact kr hN (hT t i h1) ho h5 (lF h8) h9 h
  ·rename_i e u xs hl
   split at h<;>try (cases h;done)
   rename_i hn
   have hn:=Nat.eq_of_beq_eq_true hn
   subst hn
   obtain ⟨h6,h7⟩:=xP hN.H (hN.sub _ _ hl) h3
   obtain ⟨_,vs,h8,h9⟩:=h7 j _ (getD_some (by omega) u.z)
   exact kr hN (hT t i h1) ho h5 (lF h8) h9 h
theorem tU {α:Type} (cur us:List α) (N jn n off:Nat) (hN:N≤cur.length) (hj:jn+n≤N) (ho:off+us.length≤n):
 (cur.take (jn+off)++us++cur.drop (jn+off+us.length)).take N=
  (cur.take N).take jn++(((cur.drop jn).take n).take off++us++((cur.drop jn).take n).drop (off+us.length))++(cur.take N).drop (jn+n):=by
 apply List.ext_getElem?
 intro k
 simp only [List.getElem?_take,List.getElem?_append,List.getElem?_drop,List.length_append,List.length_take,List.length_drop]
 repeat' split
 all_goals first|rfl|omega|(congr 1;omega)|(symm;apply List.getElem?_eq_none;omega)|(apply List.getElem?_eq_none;omega)|skip
theorem p8 {ρ:Nat→Value} {ok:Nat→Prop} {w:World} {nx:Nat} {cs:List Cell} {vs:List Value} (h:All2 (dP ρ ok w nx) cs vs):∀u∈vs,u.oneCell'=true:=by
 induction h with
 |nil=>intro u hu;cases hu
 |cons hc _ ih=>
  intro u hu
  rcases List.mem_cons.1 hu with rfl|hu
  ·exact hc.one
  ·exact ih u hu
theorem mZ:∀(t:Ty) (x:t.T),(∀m,Cell.ref m∉t.ex x)∧(∀m n lo len,Cell.sub m n lo len∉t.ex x)
 | .pair a b,x=>by
  have ha:=mZ a x.1
  have hb:=mZ b x.2
  simp only [Ty.ex,List.mem_append]
  exact ⟨fun m h=>h.elim (ha.1 m) (hb.1 m),fun m n lo len h=>h.elim (ha.2 m n lo len) (hb.2 m n lo len)⟩
 | .int _,_=>by simp [Ty.ex]
 | .bool,_=>by simp [Ty.ex]
 | .str,_=>by simp [Ty.ex]
 | .val,_=>by simp [Ty.ex]
 | .unit,_=>by simp [Ty.ex]
 | .sl _ _,_=>by simp [Ty.ex]
theorem iK {x:Nat}:∀{l:List Nat},mR x l=true↔x∈l
 | []=>by simp [mR]
 |y::r=>by simp only [mR,Bool.or_eq_true,List.mem_cons,iK (l:=r)];exact or_congr ⟨Nat.eq_of_beq_eq_true,fun h=>h▸Nat.beq_refl x⟩ Iff.rfl
theorem All2.splice {α β:Type} {R:α→β→Prop} {cs:List α} {vs:List β} {ds:List α} {us:List β} (h:All2 R cs vs) (k:All2 R ds us) (off:Nat):
 All2 R (cs.take off++ds++cs.drop (off+ds.length)) (vs.take off++us++vs.drop (off+ds.length)):=((h.take off).app k).app (h.drop _)
theorem oT {t:Nat} {i:TI} (hi:jw P t i) {v:Value} {us:List Value} (hv:v.cells.toList=us) (hl:us.length=i.size) (h1:∀u∈us,u.oneCell'=true) {g off e:Nat} {cur:Array Value} (hg:w.heap[g]?=some (.cells cur e (0,0)))
 (hle:off+us.length≤cur.size):(storeVar t ⟨g,off,none⟩ v).run P w=.ok () (w.setRow g (cur.toList.take off++us++cur.toList.drop (off+us.length)).toArray):=by
 have hs:v.cells.size=i.size:=by rw [←hl,←hv];simp
 have hst:=run_storeCells_at P g off e us 0 cur w hg (by simpa using hle) h1
 simp only [Nat.add_zero] at hst
 unfold storeVar
 simp only [Sem.run_bind,kC w hi,Result.andThen_ok,hs,ne_eq,not_true,if_false,Sem.run_pure,hv]
 exact hst
theorem xQ (cx : Cx) (hT : gC P cx.tab) (hN : Now P ρ ok w st a hp') {t : Nat} {x y : Operand} (ho : o.op = .store t x y) {r : Res} (h : gR cx st.nx (.store t x y) (opd st.env) hp' = some r) : fh P o a ρ ok w st r := by
  simp only [gR] at h
  split at h<;>try (cases h;done)
  · rename_i i l off ds h1 h2 h3
    split at h<;>try (cases h;done)
    rename_i e cs hl
    split at h<;>try (cases h;done)
    rename_i hd
    split at h<;>try (cases h;done)
    rename_i hle
    cases h
    have hd:=Nat.eq_of_beq_eq_true hd
    have hle:=Nat.le_of_ble_eq_true hle
    obtain ⟨_,b,h4,h5⟩:=dc hN.E h2
    obtain ⟨us,h6,h7⟩:=lE hN.E h3
    have hl':=hN.sub _ _ hl
    obtain ⟨_,b',vs,h8,h9,h10⟩:=hN.H.ob l _ hl'
    rw [h4] at h8;cases h8
    have hlen:=h7.len
    have hlen2:=h10.len
    have hone:=p8 h7
    have hrun:=oT (w:=w) (hT t i h1) h6 (by omega) hone h9 (off:=off) (by simp;omega)
    have hr:(execOp a.eval o).run P w=.ok .skip (w.setRow b (vs.take off++us++vs.drop (off+us.length)).toArray):=by
      simp only [execOp,ho,Instr.storeAt,h5,Instr.sureAddr,Sem.run_bind,Sem.run_pure,Result.andThen_ok,hrun]
    refine ⟨_,_,ρ,ok,hr,?_,.inr ⟨rfl,rfl⟩⟩
    refine k9 hN.H hl' rfl rfl rfl ⟨rfl,fun _=>Nat.le_refl _⟩ (by simp) (fun c hc=>setRow_other w b c _ fun e'=>hc (by rw [h4,e'];rfl)) ?_
    refine ⟨b,vs.take off++us++vs.drop (off+us.length),h4,setRow_heap w b _ _ e _ h9,?_⟩
    have hS:gU ok ok w (w.setRow b (vs.take off++us++vs.drop (off+us.length)).toArray):=fun c hc=>⟨hc,setRow_other w b c _ fun e'=>hN.H.sep l _ b hl' rfl (by rw [h4];rfl) (e'▸hc)⟩
    have:=All2.splice h10 h7 off
    rw [hlen] at this
    exact (by unfold Lv.splice;rw [hlen];exact this.imp fun _ _=>dP.move hS (fun _ _=>rfl) (Nat.le_refl _))
  · rename_i i l n j off ds h1 h2 h3
    split at h<;>try (cases h;done)
    rename_i e u xs hl
    split at h<;>try (cases h;done)
    rename_i hd
    split at h<;>try (cases h;done)
    rename_i hle
    split at h<;>try (cases h;done)
    rename_i z hz
    cases h
    rw [Bool.and_eq_true,Bool.and_eq_true] at hd
    obtain ⟨hn,hd,hnm⟩:=hd
    have hnm:l∉names (ja hp' ds):=fun hm=>by rw [iK.2 hm] at hnm;cases hnm
    have hn:=Nat.eq_of_beq_eq_true hn
    subst hn
    have hd:=Nat.eq_of_beq_eq_true hd
    have hle:=Nat.le_of_ble_eq_true hle
    obtain ⟨_,b,L,C,h4,hj,h5⟩:=dc hN.E h2
    obtain ⟨us,h6,h7⟩:=lE hN.E h3
    have hl':=hN.sub _ _ hl
    obtain ⟨hL,helem⟩:=rY hN.H hl' h4
    obtain ⟨vs,h8,h9⟩:=helem j _ (getD_some (by omega) u.z)
    have hlen:=h7.len
    have hvl:vs.length=u.n:=jh h8
    have hone:=p8 h7
    -- first the parts become data
    have hF:fi st.hp (ja hp' ds):=(kH hp' ds).sub hN.sub
    have e1:=mb hN.H hF
    -- the new element
    have hsp:=All2.splice (lF (ρ:=ρ) (nx:=st.nx) h8) h7 off
    have hz':K (gZ ok ρ (names (ja hp' ds))) w u z (vs.take off++us++vs.drop (off+ds.length)):=by
      refine lH hN.H hN.sub (fun b hb=> .inl hb) hsp ?_ hz
      intro m f v ys hm hc
      have key:∀c,c∈List.take off (u.ex (xs.getD j u.z))++ds++List.drop (off+ds.length) (u.ex (xs.getD j u.z))→c∈ds∨c∈u.ex (xs.getD j u.z):=fun c hc=>by
        simp only [List.mem_append] at hc
        rcases hc with (hc|hc)|hc
        · exact .inr (List.mem_of_mem_take hc)
        · exact .inl hc
        · exact .inr (List.mem_of_mem_drop hc)
      refine fun b hb=> .inr ⟨m,lG hp' ds m f v ys hm ?_,hb⟩
      rcases hc with hc|⟨n',lo,len,hc⟩
      · exact .inl ((key _ hc).resolve_right ((mZ u _).1 m))
      · exact .inr ⟨n',lo,len,(key _ hc).resolve_right ((mZ u _).2 m n' lo len)⟩
    -- the array is not among what became data
    have hl1:ups st.hp (ja hp' ds) l=some (.arr e u xs):=by
      rcases ie hF l with ⟨hm,_⟩|⟨_,h10⟩
      · exact absurd hm hnm
      · rw [h10];exact hl'
    obtain ⟨_,inner,h10,h11⟩:=e1.1.ob l _ hl1
    rcases h10.2 with ⟨h12,_⟩|⟨g,cap,cur,h12,_,h13,h14,h15,h16,h17⟩
    · rw [h4] at h12;cases h12
    rw [h4] at h12
    injection h12 with e2 e3 e4
    injection e2 with e2
    injection e2 with e2
    subst e2
    have hin:inner.length=xs.length*u.n:=h10.1
    have hjx:j<xs.length:=by omega
    have hmul:j*u.n+u.n≤xs.length*u.n:=by rw [←Nat.succ_mul];exact Nat.mul_le_mul_right _ hjx
    have hcap:xs.length*u.n≤cur.size:=by rw [h16];exact Nat.mul_le_mul_right _ h14
    have hrun:=oT (w:=w) (hT t i h1) h6 (by omega) hone h13 (off:=j*u.n+off) (by omega)
    have hr:(execOp a.eval o).run P w=.ok .skip (w.setRow b (cur.toList.take (j*u.n+off)++us++cur.toList.drop (j*u.n+off+us.length)).toArray):=by
      simp only [execOp,ho,Instr.storeAt,h5,Instr.sureAddr,Sem.run_bind,Sem.run_pure,Result.andThen_ok,hrun]
    refine ⟨_,_,ρ,_,hr,e1.trans (m:=0) (k9 e1.1 hl1 rfl rfl rfl ⟨rfl,fun _=>Nat.le_refl _⟩ (by simp) (fun c hc=>setRow_other w b c _ fun e'=>hc (by rw [h4,e'];rfl)) ?_),.inr ⟨rfl,rfl⟩⟩
    have hrows:=h11.set hjx hz'
    have hS:gU (gZ ok ρ (names (ja hp' ds))) (gZ ok ρ (names (ja hp' ds))) w (w.setRow b (cur.toList.take (j*u.n+off)++us++cur.toList.drop (j*u.n+off+us.length)).toArray):=
      fun c hc=>⟨hc,setRow_other w b c _ fun e'=>e1.1.sep l _ b hl1 rfl (by rw [h4];rfl) (e'▸hc)⟩
    refine ⟨_,?_,hrows.move hS⟩
    have hcl:cur.toList.length=cur.size:=by simp
    have hvs:vs=(cur.toList.drop (j*u.n)).take u.n:=by
      apply List.ext_getElem?
      intro k
      rw [List.getElem?_take,List.getElem?_drop]
      split
      · rename_i hk
        have hg:vs[k]?=some (vs[k]'(by omega)):=List.getElem?_eq_getElem (by omega)
        have h20:=h9 k _ hg
        rw [hg]
        have h21:w.cell? ⟨b,j*u.n+k,none⟩=cur[j*u.n+k]?:=by simp [World.cell?,h13]
        rw [h21] at h20
        rw [←h20];simp
      · exact List.getElem?_eq_none (by omega)
    refine ⟨?_,.inr ⟨b,cap,_,by rw [h4,e3,e4];simp,Nat.zero_le _,setRow_heap w b cur _ e _ h13,by simpa using h14,h15,?_,?_⟩⟩
    · rw [hrows.len]
    · simp only [List.size_toArray,List.length_append,List.length_take,List.length_drop,hcl];omega
    · rw [List.length_set,hlen,←h17,hvs]
      exact tU _ _ _ _ _ _ (by omega) hmul (by omega)
end
end Lv
end
section
namespace Lv
variable [gG]
open Go Go.RowKit
section
variable {P:Program} {o:Oper} {a:Act} {ρ:Nat→Value} {ok:Nat→Prop} {w:World} {st:St} {hp':cT}
theorem vc (cx:Cx) (hN:Now P ρ ok w st a hp') {x:Operand} (ho:o.op=.move x∨o.op=.assign x) {r:Res} (h:some (⟨true,opd st.env x,[],0⟩:Res)=some r):fh P o a ρ ok w st r:=by
 cases h
 refine fh.pure hN (v:=a.eval x) ?_ fun s hs=>jf hN.E hs
 rcases ho with ho|ho<;>simp only [execOp,ho]<;>rfl
theorem Ab (cx:Cx) (hN:Now P ρ ok w st a hp') {c x y:Operand} (ho:o.op=.pick c x y) {r:Res} (h:gR cx st.nx (.pick c x y) (opd st.env) hp'=some r):fh P o a ρ ok w st r:=by
 simp only [gR] at h
 split at h<;>try (cases h;done)
 rename_i b hb
 cases h
 obtain ⟨_,e,hc⟩:=jf hN.E hb
 cases e
 have hc:a.eval c=.bool b:=hc
 refine fh.pure hN (v:=if b=true then a.eval x else a.eval y) ?_ fun s hs=>?_
 ·simp only [execOp,ho,hc,asBool,Sem.run_bind,Sem.run_pure,Result.andThen_ok]
 ·cases b with
  |true=>rw [if_pos rfl];exact jf hN.E hs
  |false=>rw [if_neg (by simp)];exact jf hN.E hs
theorem oU (hN:Now P ρ ok w st a hp') {e:Nat} {cs:List Cell} {vs:List Value} (hc:All2 (dP ρ ok w st.nx) cs vs):
 Eff ρ ok w st.hp st.nx [(st.nx,some (.box e cs))] 1 (ig ρ st.nx (.pointer (some ⟨w.heap.size,0,none⟩))) ok (w.alloc (.cells vs.toArray e)):=by
 refine k8 hN.H rfl rfl ⟨rfl,fun _=>Nat.le_refl _⟩ (by simp) (fun b hb=>Below.heap_alloc w _ b hb) ?_ ?_
 ·refine ⟨w.heap.size,vs,by simp [ig],heap_alloc_new w _,hc.imp fun _ _=>dP.move (fun b hb=>⟨hb,Below.heap_alloc w _ b (hN.H.okl b hb)⟩) (fun l hl=>by simp [ig,Nat.ne_of_lt hl]) (by omega)⟩
 ·intro _ b hb
  cases hb
  exact Nat.le_refl _
theorem xR (cx:Cx) (hT:gC P cx.tab) (hN:Now P ρ ok w st a hp') {e:Nat} (ho:o.op=.alloc e) {r:Res} (h:gR cx st.nx (.alloc e) (opd st.env) hp'=some r):fh P o a ρ ok w st r:=by
 simp only [gR] at h
 split at h<;>try (cases h;done)
 rename_i i hi
 cases h
 obtain ⟨z,hz,hzc⟩:=lA w (hT e i hi)
 have hr:(execOp a.eval o).run P w=.ok (.value (.pointer (some ⟨w.heap.size,0,none⟩))) (w.alloc (.cells i.zero.toArray e)):=by
  simp only [execOp,ho,Instr.alloc,Sem.run_bind,hz,Result.andThen_ok,newVar,newRow,run_newObj,Sem.run_pure]
  rw [←hzc];rfl
 refine ⟨_,_,_,ok,hr,oU hN (lD (hT e i hi).z1),.inl ⟨_,rfl,fun s hs=>?_⟩⟩
 cases hs
 exact ⟨_,rfl,Nat.lt_succ_self _,w.heap.size,by simp [ig],rfl⟩
theorem B8 (cx:Cx) (hT:gC P cx.tab) (hN:Now P ρ ok w st a hp') {e:Nat} {x:Operand} (ho:o.op=.box e x) {r:Res} (h:gR cx st.nx (.box e x) (opd st.env) hp'=some r):fh P o a ρ ok w st r:=by
 simp only [gR] at h
 split at h<;>try (cases h;done)
 rename_i i cs hi hc
 split at h<;>try (cases h;done)
 cases h
 obtain ⟨vs,h1,h2⟩:=lE hN.E hc
 have hr:(execOp a.eval o).run P w=.ok (.value (.pointer (some ⟨w.heap.size,0,none⟩))) (w.alloc (.cells vs.toArray e)):=by
  simp only [execOp,ho,Instr.box,newVar,newRow,Sem.run_bind,run_newObj,Sem.run_pure,Result.andThen_ok]
  rw [←h1];rfl
 refine ⟨_,_,_,ok,hr,oU hN h2,.inl ⟨_,rfl,fun s hs=>?_⟩⟩
 cases hs
 exact ⟨_,rfl,Nat.lt_succ_self _,w.heap.size,by simp [ig],rfl⟩
theorem rZ (cx:Cx) (hN:Now P ρ ok w st a hp') {x:Operand} (ho:o.op=.nilCheck x) {r:Res} (h:gR cx st.nx (.nilCheck x) (opd st.env) hp'=some r):fh P o a ρ ok w st r:=by
 simp only [gR] at h
 split at h<;>try (cases h;done)
 all_goals
  rename_i hc
  cases h
  have hc:=dc hN.E hc
 ·obtain ⟨h1,b,h2,h3⟩:=hc
  exact fh.cell hN (v:=a.eval x) (by simp [execOp,ho,h3]) ⟨h1,b,h2,h3⟩
 ·obtain ⟨b,o',vs,h1,h2⟩:=hc
  exact fh.cell hN (v:=a.eval x) (by simp [execOp,ho,h1]) ⟨b,o',vs,h1,h2⟩
 ·obtain ⟨h1,b,L,C,h2,h3,h4⟩:=hc
  exact fh.cell hN (v:=a.eval x) (by simp [execOp,ho,h4]) ⟨h1,b,L,C,h2,h3,h4⟩
 ·obtain ⟨h1,h2⟩:=hc
  exact fh.cell hN (v:=a.eval x) (by simp [execOp,ho,h1]) ⟨h1,h2⟩
theorem Ac (cx:Cx) (hN:Now P ρ ok w st a hp') {op:UnOp} {t:Nat} {x:Operand} (ho:o.op=.unOp op t x) {r:Res} (h:gR cx st.nx (.unOp op t x) (opd st.env) hp'=some r):fh P o a ρ ok w st r:=by
 simp only [gR] at h
 split at h<;>try (cases h;done)
 all_goals
  rename_i hc
  cases h
  have hc:=dc hN.E hc
 ·have hc:a.eval x=.bool _:=hc
  exact fh.cell hN (v:=.bool _) (by simp only [execOp,ho,Op.unary,hc];rfl) rfl
 ·have hc:a.eval x=.int _ _:=hc
  exact fh.cell hN (v:=.int _ _) (by simp only [execOp,ho,Op.unary,Op.intArith,hc];rfl) rfl
theorem tV (cx:Cx) (hT:gC P cx.tab) (hN:Now P ρ ok w st a hp') {s d:Nat} {x:Operand} (ho:o.op=.convert s d x) {r:Res} (h:gR cx st.nx (.convert s d x) (opd st.env) hp'=some r):fh P o a ρ ok w st r:=by
 simp only [gR] at h
 split at h<;>try (cases h;done)
 ·rename_i h1 h2 hc
  cases h
  have hc:a.eval x=.int _ _:=dc hN.E hc
  have u1:=(hT _ _ h1).int rfl
  have u2:=(hT _ _ h2).int rfl
  exact fh.cell hN (v:=.int _ _) (by simp only [execOp,ho,convert,run_underlying u1,run_underlying u2,hc,Conv.intToInt,Sem.run_bind,Sem.run_pure,Result.andThen_ok]) rfl
 ·rename_i h1 h2 hc
  cases h
  have hc:a.eval x=.string _:=dc hN.E hc
  have u1:=(hT _ _ h1).str rfl
  have u2:=(hT _ _ h2).str rfl
  exact fh.cell hN (v:=.string _) (by simp only [execOp,ho,convert,run_underlying u1,run_underlying u2,hc,Sem.run_bind,Sem.run_pure,Result.andThen_ok]) rfl
theorem oV {u:Nat} {i:TI} {f:Field} (hf:0<P.cellsOf f.type) (b off:Nat):(fieldPlace ⟨b,off,none⟩ f).run P w=.ok ⟨b,off+f.offset,none⟩ w:=by
 unfold fieldPlace
 have:∃info,P.info? f.type=some info∧info.size≠0:=by
  unfold Program.cellsOf at hf
  cases hi:P.info? f.type with
  |none=>simp [hi] at hf
  |some info=>simp [hi] at hf;exact ⟨info,rfl,by omega⟩
 obtain ⟨info,h1,h2⟩:=this
 simp [Go.sizeOf,typeInfo,h1,h2,jH]
theorem qE (cx:Cx) (hT:gC P cx.tab) (hN:Now P ρ ok w st a hp') {s:Nat} {x:Operand} {f:Nat} (ho:o.op=.fieldAddr s x f) {r:Res} (h:gR cx st.nx (.fieldAddr s x f) (opd st.env) hp'=some r):fh P o a ρ ok w st r:=by
 have key:∀{i:TI} {fs:List (Nat×Nat)} {u off b base:Nat},cx.tab s=some i→i.kind=.st fs→fs[f]?=some (u,off)→a.eval x=.pointer (some ⟨b,base,none⟩)→
  (execOp a.eval o).run P w=.ok (.value (.pointer (some ⟨b,base+off,none⟩))) w:=by
  intro i fs u off b base h1 h2 h3 h4
  obtain ⟨gs,h5,h6⟩:=(hT s i h1).st h2
  obtain ⟨g,h7,h8,h9⟩:=iD h6 f u off h3
  have h10:gs[f]?=some g:=by simpa using h7
  have h11:=(hT s i h1).fs fs h2 (u,off) (List.mem_of_getElem? h3)
  have h12:=oV (P:=P) (w:=w) (u:=u) (i:=i) (f:=g) (by rw [h8];exact h11) b base
  simp only [execOp,ho,Instr.fieldAt,Sem.run_bind,run_underlying h5,Result.andThen_ok,h10,h4,Instr.sureAddr,Sem.run_pure,h12,h9]
 simp only [gR] at h
 split at h<;>try (cases h;done)
 all_goals
  rename_i h1 hc
  split at h<;>try (cases h;done)
  rename_i hf
  cases h
  have hc:=dc hN.E hc
 ·obtain ⟨h2,b,h3,h4⟩:=hc
  exact fh.cell hN (key h1 rfl hf h4) ⟨h2,b,h3,rfl⟩
 ·obtain ⟨b,o',vs,h3,h4⟩:=hc
  exact fh.cell hN (key h1 rfl hf h3) ⟨b,o',vs,by rw [Nat.add_assoc],h4⟩
 ·obtain ⟨h2,b,L,C,h3,h4,h5⟩:=hc
  exact fh.cell hN (key h1 rfl hf h5) ⟨h2,b,L,C,h3,h4,by rw [Nat.add_assoc]⟩
theorem tW (cx:Cx) (hN:Now P ρ ok w st a hp') {x:Operand} {n:Nat} (ho:o.op=.extract x n) {r:Res} (h:gR cx st.nx (.extract x n) (opd st.env) hp'=some r):fh P o a ρ ok w st r:=by
 simp only [gR] at h
 split at h<;>try (cases h;done)
 rename_i l hl
 split at h<;>try (cases h;done)
 rename_i g cs hg
 cases h
 obtain ⟨vs,h1,h2⟩:=jf hN.E hl
 obtain ⟨v,h3,h4⟩:=h2.get n _ hg
 refine fh.pure hN (v:=v) ?_ fun s hs=>by cases hs;exact h4
 simp only [execOp,ho,Instr.extract,h1,List.getElem?_toArray,h3]
 rfl
theorem xS (cx:Cx) (hT:gC P cx.tab) (hN:Now P ρ ok w st a hp') {t:Nat} {x y:Operand} (ho:o.op=.index t x y) {r:Res} (h:gR cx st.nx (.index t x y) (opd st.env) hp'=some r) (hb:r.c=true):fh P o a ρ ok w st r:=by
 simp only [gR] at h
 split at h<;>try (cases h;done)
 rename_i s k j h1 h2 h3
 cases h
 simp only [Bool.and_eq_true,decide_eq_true_eq] at hb
 obtain ⟨hb1,hb2⟩:=hb
 have hx:a.eval x=.string s:=dc hN.E h2
 have hy:a.eval y=.int k j:=dc hN.E h3
 have hlt:j.toNat<s.size:=by omega
 refine fh.cell hN (v:=.int .u8 (bM s j.toNat)) ?_ rfl
 have hs:s[j.toNat]?=some (s[j.toNat]'hlt):=by simp [hlt]
 have hb:bM s j.toNat=((s[j.toNat]'hlt).toNat:Int):=by
  have h20:s.data.toList[j.toNat]?=some (s[j.toNat]'hlt):=by
   rw [Array.getElem?_toList]
   exact Array.getElem?_eq_getElem hlt
  unfold bM
  rw [List.getD,h20];rfl
 simp only [execOp,ho,Instr.index,hx,hy,asIntOf,Sem.run_bind,Sem.run_pure,Result.andThen_ok,run_underlying ((hT t _ h1).str rfl),hb1,if_true,hs,hb]
theorem Ad {op:BinOp} {k:IntKind} {x y:Int} {c:Bool} {d:Cell} (h:binI op k x y=some (c,d)) (hc:c=true) (h1:op≠.shl) (h2:op≠.shr) (t:TypeId):
    ∃v,(Go.binOp op t (.int k x) (.int k y)).run P w=.ok v w∧∀ρ ok nx,dP ρ ok w nx d v:=by
  cases op<;>simp only [binI] at h<;>first|(cases h;done)|skip
  all_goals first|(exact absurd rfl h1)|(exact absurd rfl h2)|skip
  all_goals
    cases h
    refine ⟨_,?_,fun _ _ _=>rfl⟩
    simp only [Go.binOp,ne_eq,not_true,if_false]
    first
    |rfl
    | (simp only [Bool.not_eq_true',decide_eq_false_iff_not] at hc
       simp only [Op.intDiv,hc,if_false,Sem.run_pure])
theorem Ae {op:BinOp} {x y:ByteArray} {c:Bool} {d:Cell} (h:binS op x y=some (c,d)) (hc:c=true) (t:TypeId):
    ∃v,(Go.binOp op t (.string x) (.string y)).run P w=.ok v w∧∀ρ ok nx,dP ρ ok w nx d v:=by
  cases op<;>simp only [binS] at h<;>first|(cases h;done)|skip
  all_goals
    cases h
    refine ⟨_,?_,fun _ _ _=>rfl⟩
    simp only [Go.binOp,Op.stringOp]
    first
    |rfl
    | (simp only [Bool.not_eq_true',decide_eq_false_iff_not] at hc
       simp only [hc,if_false,Sem.run_pure])
theorem xT {op:BinOp} {k l:IntKind} {x y:Int} {c:Bool} {d:Cell} (h:shI op k x y=some (c,d)) (hc:c=true) (t:TypeId):
 ∃v,(Go.binOp op t (.int k x) (.int l y)).run P w=.ok v w∧∀ρ ok nx,dP ρ ok w nx d v:=by
 cases op<;>simp only [shI] at h<;>first|(cases h;done)|skip
 all_goals
  cases h
  refine ⟨_,?_,fun _ _ _=>rfl⟩
  simp only [Bool.not_eq_true',decide_eq_false_iff_not] at hc
  simp only [Go.binOp,Op.shift,hc,if_false,Sem.run_pure]
def qF (P:Program) (eqs:Nat→Option Ty):Prop:=∀t ty,eqs t=some ty→∀(op:BinOp) (X Y:Operand) (ok:Nat→Prop) (w:World) (x y:ty.T) (vs us:List Value),K ok w ty x vs→K ok w ty y us→(op=.eql∨op=.neq)→
 (do eqGuard op t X Y (.agg vs.toArray) (.agg us.toArray);Go.binOp op t (.agg vs.toArray) (.agg us.toArray):Sem Value).run P w=.ok (.bool (match op with| .eql=>ty.eq x y|_=> !ty.eq x y)) w∧(Op.equal t (.agg vs.toArray) (.agg us.toArray)).run P w=.ok (ty.eq x y) w
theorem r9 (op:BinOp) (t:TypeId) (X Y:Operand) (k l:IntKind) (i j:Int):(eqGuard op t X Y (.int k i) (.int l j)).run P w=.ok () w:=by cases op<;>rfl
theorem sc (op:BinOp) (t:TypeId) (X Y:Operand) (s u:ByteArray):(eqGuard op t X Y (.string s) (.string u)).run P w=.ok () w:=by cases op<;>rfl
theorem qG (op:BinOp) (t:TypeId) (X Y:Operand) (b c:Bool):(eqGuard op t X Y (.bool b) (.bool c)).run P w=.ok () w:=by cases op<;>rfl
theorem m5 (d:Nat) {t:TypeId} (hu:P.underlying t=some .bool) (b c:Bool):(Op.equalIn (d+1) t (.bool b) (.bool c)).run P w=.ok (b==c) w:=by
 simp only [Op.equalIn,Sem.run_bind,run_underlying hu,Result.andThen_ok,Sem.run_pure]
theorem oW {t:TypeId} (hu:P.underlying t=some .bool) (b c:Bool):(Op.equal t (.bool b) (.bool c)).run P w=.ok (b==c) w:=m5 9999 hu b c
theorem vd {ρ ok nx} {c:Option Cell} {b:Bool} (h:ifcB c=some b):∃d,c=some d∧∀v,dP ρ ok w nx d v→dP ρ ok w nx (.ifc b) v:=by
 unfold ifcB at h
 split at h<;>cases h
 ·exact ⟨_,rfl,fun v hv=>hv⟩
 ·exact ⟨_,rfl,fun v hv=> .inl ⟨rfl,hv.1⟩⟩
 ·exact ⟨_,rfl,fun v hv=> .inr ⟨rfl,_,_,hv.1⟩⟩
theorem sd (d:Nat) {t:TypeId} {ms} (hu:P.underlying t=some (.interface ms)) {ρ ok nx} {b:Bool} {v:Value} (hv:dP ρ ok w nx (.ifc b) v):(Op.equalIn (d+1) t v .nilIface).run P w=.ok b w:=by
 rcases hv with ⟨rfl,rfl⟩|⟨rfl,t',u',rfl⟩<;>simp only [Op.equalIn,Sem.run_bind,run_underlying hu,Result.andThen_ok,Sem.run_pure]
theorem p9 {t:TypeId} {ms} (hu:P.underlying t=some (.interface ms)) {ρ ok nx} {b:Bool} {v:Value} (hv:dP ρ ok w nx (.ifc b) v):(Op.equal t v .nilIface).run P w=.ok b w:=sd 9999 hu hv
theorem pI {t:TypeId} {ms} (hu:P.underlying t=some (.interface ms)) {ρ ok nx} {b:Bool} {v:Value} (hv:dP ρ ok w nx (.ifc b) v):(Go.binOp .eql t v .nilIface).run P w=.ok (.bool b) w:=by
 have h:=p9 hu hv
 rcases hv with ⟨rfl,rfl⟩|⟨rfl,t',u',rfl⟩<;>simp only [Go.binOp,Sem.run_bind,h,Result.andThen_ok,Sem.run_pure]
theorem pJ {t:TypeId} {ms} (hu:P.underlying t=some (.interface ms)) {ρ ok nx} {b:Bool} {v:Value} (hv:dP ρ ok w nx (.ifc b) v):(Go.binOp .neq t v .nilIface).run P w=.ok (.bool (!b)) w:=by
 have h:=p9 hu hv
 rcases hv with ⟨rfl,rfl⟩|⟨rfl,t',u',rfl⟩<;>simp only [Go.binOp,Sem.run_bind,h,Result.andThen_ok,Sem.run_pure]
theorem nZ {op:BinOp} (hop:op=.eql∨op=.neq) (t:TypeId) {x:Operand} (v:Value):(eqGuard op t x (.const .nilIface) v .nilIface).run P w=.ok () w:=by
 rcases hop with rfl|rfl<;>cases v<;>simp [eqGuard]
theorem xU (cx : Cx) (hT : gC P cx.tab) (hE : qF P cx.eqs) (hN : Now P ρ ok w st a hp') {op : BinOp} {t u : Nat} {x y : Operand} (ho : o.op = .binOp op t x y u) {r : Res} (h : gR cx st.nx (.binOp op t x y u) (opd st.env) hp' = some r) (hb : r.c = true) : fh P o a ρ ok w st r := by
  have fin:∀{c:Bool} {d:Cell} {v:Value},(eqGuard op t x y (a.eval x) (a.eval y)).run P w=.ok () w→(Go.binOp op t (a.eval x) (a.eval y)).run P w=.ok v w→dP ρ ok w st.nx d v→
      fh P o a ρ ok w st ⟨c,some (.v false [d]),[],0⟩:=by
    intro c d v h1 h3 h4
    refine fh.cell hN (v:=v) ?_ h4
    simp only [execOp,ho,Sem.run_bind,h1,Result.andThen_ok,h3,Sem.run_pure]
  simp only [gR] at h
  split at h
  · rename_i b hb'
    cases h
    unfold ifcX at hb'
    split at hb'<;>try (cases hb';done)
    · rename_i b' h1 h2
      cases hb'
      obtain ⟨d,h2,hd⟩:=vd (ρ:=ρ) (ok:=ok) (w:=w) (nx:=st.nx) h2
      have hx:=hd _ (dc hN.E h2)
      obtain ⟨ms,hu⟩:=(hT t _ h1).ifc rfl
      exact fin (v:=.bool b) (nZ (.inl rfl) _ _) (pI hu hx) rfl
    · rename_i b' h1 h2
      cases hb'
      obtain ⟨d,h2,hd⟩:=vd (ρ:=ρ) (ok:=ok) (w:=w) (nx:=st.nx) h2
      have hx:=hd _ (dc hN.E h2)
      obtain ⟨ms,hu⟩:=(hT t _ h1).ifc rfl
      exact fin (v:=.bool (!b')) (nZ (.inr rfl) _ _) (pJ hu hx) rfl
  unfold BC at h
  split at h<;>try (cases h;done)
  · rename_i k i l j h1 h2
    have hx:a.eval x=.int k i:=dc (c:=(.int k i)) hN.E (by rw [h1];rfl)
    have hy:a.eval y=.int l j:=dc (c:=(.int l j)) hN.E (by rw [h2];rfl)
    have g1:(eqGuard op t x y (a.eval x) (a.eval y)).run P w=.ok () w:=by rw [hx,hy];exact r9 _ _ _ _ _ _ _ _
    split at h
    · cases hs:shI .shl k i j with
      |none=>rw [hs] at h;cases h
      |some p=>
        obtain ⟨c,d⟩:=p
        rw [hs] at h;cases h
        obtain ⟨v,h3,h4⟩:=xT (P:=P) (w:=w) (l:=l) hs hb t
        exact fin g1 (by rw [hx,hy];exact h3) (h4 _ _ _)
    · cases hs:shI .shr k i j with
      |none=>rw [hs] at h;cases h
      |some p=>
        obtain ⟨c,d⟩:=p
        rw [hs] at h;cases h
        obtain ⟨v,h3,h4⟩:=xT (P:=P) (w:=w) (l:=l) hs hb t
        exact fin g1 (by rw [hx,hy];exact h3) (h4 _ _ _)
    · rename_i n1 n2
      split at h<;>try (cases h;done)
      rename_i hk
      have hk:=pX hk
      subst hk
      cases hs:binI op k i j with
      |none=>rw [hs] at h;cases h
      |some p=>
        obtain ⟨c,d⟩:=p
        rw [hs] at h;cases h
        obtain ⟨v,h3,h4⟩:=Ad (P:=P) (w:=w) hs hb n1 n2 t
        exact fin g1 (by rw [hx,hy];exact h3) (h4 _ _ _)
  · rename_i s u' h1 h2
    have hx:a.eval x=.string s:=dc (c:=(.str s)) hN.E (by rw [h1];rfl)
    have hy:a.eval y=.string u':=dc (c:=(.str u')) hN.E (by rw [h2];rfl)
    cases hs:binS op s u' with
    |none=>rw [hs] at h;cases h
    |some p=>
      obtain ⟨c,d⟩:=p
      rw [hs] at h;cases h
      obtain ⟨v,h3,h4⟩:=Ae (P:=P) (w:=w) hs hb t
      exact fin (by rw [hx,hy];exact sc _ _ _ _ _ _) (by rw [hx,hy];exact h3) (h4 _ _ _)
  · rename_i b c h1 h2
    have hx:a.eval x=.bool b:=dc (c:=(.bool b)) hN.E (by rw [h1];rfl)
    have hy:a.eval y=.bool c:=dc (c:=(.bool c)) hN.E (by rw [h2];rfl)
    have g1:(eqGuard op t x y (a.eval x) (a.eval y)).run P w=.ok () w:=by rw [hx,hy];exact qG _ _ _ _ _ _
    split at h<;>try (cases h;done)
    rename_i hi
    have hu:=(hT t _ hi).bool rfl
    split at h<;>try (cases h;done)
    · cases h
      exact fin g1 (v:=.bool (b==c)) (by rw [hx,hy];simp only [Go.binOp,Sem.run_bind,oW hu,Result.andThen_ok,Sem.run_pure]) rfl
    · cases h
      exact fin g1 (v:=.bool (!(b==c))) (by rw [hx,hy];simp only [Go.binOp,Sem.run_bind,oW hu,Result.andThen_ok,Sem.run_pure]) rfl
  · rename_i xs ys h1 h2
    split at h<;>try (cases h;done)
    rename_i ty hty
    split at h<;>try (cases h;done)
    rename_i p q hp hq
    obtain ⟨vs,hx,hxs⟩:=jf hN.E h1
    obtain ⟨us,hy,hys⟩:=jf hN.E h2
    have F:∀cs,ld ρ ok (fun _=>none) cs:=fun cs l f u ys hl=>by cases hl
    have k1:=lH hN.H (hp':=fun _=>none) (fun _ _ h=>by cases h) (fun _ h=>h) hxs (F _) hp
    have k2:=lH hN.H (hp':=fun _=>none) (fun _ _ h=>by cases h) (fun _ h=>h) hys (F _) hq
    split at h<;>try (cases h;done)
    · cases h
      have:=(hE t ty hty .eql x y ok w p q vs us k1 k2 (.inl rfl)).1
      refine fh.cell hN (v:=.bool (ty.eq p q)) ?_ rfl
      simp only [execOp,ho,hx,hy]
      rw [Sem.run_bind,this];rfl
    · cases h
      have:=(hE t ty hty .neq x y ok w p q vs us k1 k2 (.inr rfl)).1
      refine fh.cell hN (v:=.bool (!ty.eq p q)) ?_ rfl
      simp only [execOp,ho,hx,hy]
      rw [Sem.run_bind,this];rfl
end
end Lv
end
section
namespace Lv
variable [gG]
open Go Go.RowKit
section
variable {P:Program} {o:Oper} {a:Act} {ρ:Nat→Value} {ok:Nat→Prop} {w:World} {st:St} {hp':cT}
theorem qa (off:Nat):∀(l:List Value) (k:Nat) (cells:Array Value),off+k+l.length≤cells.size→
 (((l.zipIdx k).foldl (fun cs (p:Value×Nat)=>cs.setIfInBounds (off+p.2) p.1) cells).toList=cells.toList.take (off+k)++l++cells.toList.drop (off+k+l.length))
 | [],k,cells,h=>by simp
 |v::r,k,cells,h=>by
  simp only [List.zipIdx_cons,List.foldl_cons]
  simp only [List.length_cons] at h
  rw [qa off r (k+1) _ (by simp;omega)]
  simp only [Array.toList_setIfInBounds]
  have h1:off+k<cells.toList.length:=by simp;omega
  rw [show off+(k+1)=off+k+1 by omega,List.take_set,List.drop_set_of_lt (by omega)]
  rw [List.length_cons,show off+k+1+r.length=off+k+(r.length+1) by omega]
  rw [List.take_succ_eq_append_getElem h1,List.set_append_right _ _ (by simp;omega)]
  have:off+k-(cells.toList.take (off+k)).length=0:=by simp;omega
  rw [this]
  simp
theorem qb (place:Nat→Option (Nat×Nat)) (cells:Array Value) (i:Nat) (v:Value) (rest:List (Nat×Value)) {off size:Nat} (hp:place i=some (off,size)) (hs:v.cells.size=size) (hle:off+size≤cells.size):
 ∃cells':Array Value,Instr.fill place cells ((i,v)::rest)=Instr.fill place cells' rest∧cells'.toList=cells.toList.take off++v.cells.toList++cells.toList.drop (off+size):=by
 refine ⟨v.cells.zipIdx.foldl (fun cs (p:Value×Nat)=>cs.setIfInBounds (off+p.2) p.1) cells,?_,?_⟩
 ·rw [Instr.fill,hp]
  simp only
  rw [if_neg (by simp [hs];omega)]
 ·have:=qa off v.cells.toList 0 cells (by simp [hs];omega)
  simp only [Nat.add_zero] at this
  rw [←Array.foldl_toList,Array.toList_zipIdx]
  simpa [hs] using this
theorem lI:∀(gs:List Field),(∀g∈gs,0<P.cellsOf g.type)→(gs.mapM (fun f=>do pure (f.offset,←Go.sizeOf f.type):Field→Sem (Nat×Nat))).run P w=.ok (gs.map fun f=>(f.offset,P.cellsOf f.type)) w
  | [],_=>rfl
  | g :: r,h => by
    have hg:=h g (by simp)
    have hi:∃info,P.info? g.type=some info:=by
      unfold Program.cellsOf at hg
      cases hi:P.info? g.type with
      |none=>simp [hi] at hg
      |some info=>exact ⟨info,rfl⟩
    obtain ⟨info,hi⟩:=hi
    have hs:(Go.sizeOf g.type).run P w=.ok (P.cellsOf g.type) w:=by simp [Go.sizeOf,typeInfo,hi,Program.cellsOf]
    rw [List.mapM_cons]
    simp only [Sem.run_bind,hs,Result.andThen_ok,Sem.run_pure,lI r fun g hg=>h g (List.mem_cons_of_mem _ hg),List.map_cons]
theorem oX (cx:Cx) (hT:gC P cx.tab) (hN:Now P ρ ok w st a hp') {fs:List (Nat×Nat)} (place:Nat→Option (Nat×Nat))
    (hpl:∀(j t off:Nat),fs[j]?=some (t,off)→place j=some (off,P.cellsOf t)):
    ∀ (parts : List (Nat × Operand)) (cs : List Cell) (cells : Array Value) (r : List Cell),All2 (dP ρ ok w st.nx) cs cells.toList → rO (opd st.env) fs cx.tab cs parts = some r →
      ∃cells',Instr.fill place cells (parts.map fun (i,x)=>(i,a.eval x))=some cells'∧All2 (dP ρ ok w st.nx) r cells'.toList
  | [],cs,cells,r,hc,h=>by cases h;exact ⟨cells,rfl,hc⟩
  |(j,x)::rest,cs,cells,r,hc,h=>by
    simp only [rO] at h
    split at h<;>try (cases h;done)
    rename_i t off ds h1 h2
    split at h<;>try (cases h;done)
    rename_i i hi
    split at h<;>try (cases h;done)
    rename_i hd
    split at h<;>try (cases h;done)
    rename_i hle
    have hd:=Nat.eq_of_beq_eq_true hd
    have hle:=Nat.le_of_ble_eq_true hle
    obtain ⟨us,h3,h4⟩:=lE hN.E h2
    have hlen:=h4.len
    have hcl:=hc.len
    have hsz:(a.eval x).cells.size=i.size:=by rw [←hd,hlen,←h3];simp
    have hp1:=hpl j t off h1
    rw [mD (hT t i hi)] at hp1
    obtain ⟨cells',e1,e2⟩:=qb place cells j (a.eval x) (rest.map fun (i,x)=>(i,a.eval x)) hp1 hsz (by simp at hcl;omega)
    have hc':All2 (dP ρ ok w st.nx) (splice cs off ds) cells'.toList:=by
      rw [e2,h3,←hd]
      exact All2.splice hc h4 off
    obtain ⟨c2,e3,e4⟩:=oX cx hT hN place hpl rest _ cells' r hc' h
    exact ⟨c2,by rw [List.map_cons];exact e1.trans e3,e4⟩
theorem wv {n e size j t off:Nat} (h:(xE n e size)[j]?=some (t,off)):t=e∧off=j*size:=by
 unfold xE at h
 rw [List.getElem?_map] at h
 cases hj:(List.range n)[j]? with
 |none=>rw [hj] at h;cases h
 |some k=>
  rw [hj] at h
  obtain ⟨h1,h2⟩:=List.getElem?_eq_some_iff.1 hj
  simp at h2
  subst h2
  cases h
  exact ⟨rfl,rfl⟩
theorem xV (cx:Cx) (hT:gC P cx.tab) (hN:Now P ρ ok w st a hp') {t:Nat} {parts:Array (Nat×Operand)} (ho:o.op=.build t parts) {r:Res} (h:gR cx st.nx (.build t parts) (opd st.env) hp'=some r):fh P o a ρ ok w st r:=by
 simp only [gR] at h
 split at h<;>try (cases h;done)
 ·rename_i fs size bytes cap zero ty hi
  split at h<;>try (cases h;done)
  rename_i cs hf
  cases h
  have hTI:=hT t _ hi
  obtain ⟨gs,h1,h2⟩:=hTI.st rfl
  obtain ⟨z,hz,hzc⟩:=lA w hTI
  have hpos:∀g∈gs.toList,0<P.cellsOf g.type:=by
   intro g hg
   obtain ⟨j,hj⟩:=List.getElem?_of_mem hg
   have hlen:=lB h2
   have hjl:=(List.getElem?_eq_some_iff.1 hj).1
   obtain ⟨p,hp⟩:∃p,fs[j]?=some p:=⟨fs[j]'(by omega),List.getElem?_eq_getElem (by omega)⟩
   obtain ⟨u,off⟩:=p
   obtain ⟨g',h3,h4,h5⟩:=iD h2 j u off hp
   rw [hj] at h3;cases h3
   rw [h4]
   exact hTI.fs fs rfl (u,off) (List.mem_of_getElem? hp)
  have hpl:=lI (P:=P) (w:=w) gs.toList hpos
  have hzall:All2 (dP ρ ok w st.nx) (zero.map Cell.of) z.cells.toList:=by rw [hzc];exact lD hTI.z1
  obtain ⟨cells',e1,e2⟩:=oX cx hT hN (fun i=>((gs.toList.map fun f=>(f.offset,P.cellsOf f.type)).toArray)[i]?) (fun j t off hg=>by
   obtain ⟨g,g1,g2,g3⟩:=iD h2 j t off hg
   simp only [List.getElem?_toArray,List.getElem?_map,g1,Option.map_some,g2,g3]) parts.toList _ z.cells cs hzall hf
  refine fh.pure hN (v:=.agg cells') ?_ fun s hs=>by cases hs;exact ⟨cells'.toList,by simp,e2⟩
  simp only [execOp,ho,Instr.build,Sem.run_bind,hz,Result.andThen_ok,run_underlying h1,Array.mapM_eq_mapM_toList,Sem.run_map,hpl,Array.toList_map,e1,Sem.run_pure]
 ·rename_i n e size bytes cap zero ty hi
  split at h<;>try (cases h;done)
  rename_i j hj
  split at h<;>try (cases h;done)
  rename_i cs hf
  cases h
  have hTI:=hT t _ hi
  have h1:=hTI.arr rfl
  have hTe:=hT e _ hj
  obtain ⟨z,hz,hzc⟩:=lA w hTI
  have hzall:All2 (dP ρ ok w st.nx) (zero.map Cell.of) z.cells.toList:=by rw [hzc];exact lD hTI.z1
  obtain ⟨cells',e1,e2⟩:=oX cx hT hN (fun i=>some (i*j.size,j.size)) (fun k t off hg=>by
   obtain ⟨rfl,rfl⟩:=wv hg
   rw [mD hTe]) parts.toList _ z.cells cs hzall hf
  refine fh.pure hN (v:=.agg cells') ?_ fun s hs=>by cases hs;exact ⟨cells'.toList,by simp,e2⟩
  simp only [execOp,ho,Instr.build,Sem.run_bind,hz,Result.andThen_ok,run_underlying h1,kC w hTe,Array.toList_map,e1,Sem.run_pure]
theorem xW (cx:Cx) (hT:gC P cx.tab) (hN:Now P ρ ok w st a hp') {t:Nat} {x:Operand} {f:Nat} (ho:o.op=.field t x f) {r:Res} (h:gR cx st.nx (.field t x f) (opd st.env) hp'=some r):fh P o a ρ ok w st r:=by
 simp only [gR] at h
 split at h<;>try (cases h;done)
 rename_i fs size bytes cap zero ty cs hi hx
 split at h<;>try (cases h;done)
 rename_i u off hf
 split at h<;>try (cases h;done)
 rename_i i hu
 obtain ⟨gs,h1,h2⟩:=(hT t _ hi).st rfl
 obtain ⟨g,h3,h4,h5⟩:=iD h2 f u off hf
 have h6:gs[f]?=some g:=by simpa using h3
 obtain ⟨vs,h7,h8⟩:=jf hN.E hx
 unfold jL at h
 split at h<;>try (cases h;done)
 rename_i hle
 have hle:=Nat.le_of_ble_eq_true hle
 have hl:=h8.len
 have hc':=(h8.drop off).take i.size
 have hTI:=hT u i hu
 split at h
 ·rename_i ha
  cases h
  refine fh.pure hN (v:=.agg ((vs.drop off).take i.size).toArray) ?_ fun s hs=>by cases hs;exact ⟨_,rfl,hc'⟩
  simp only [execOp,ho,Instr.field,Sem.run_bind,run_underlying h1,Result.andThen_ok,h6,h7,asAgg,Sem.run_pure,part,h4,h5,ox w hTI,ha,if_true,kC w hTI]
  congr 3
  apply Array.ext'
  simp [Array.toList_extract,List.extract_eq_take_drop]
 ·rename_i ha
  cases h
  have h1':i.size=1:=hTI.one.resolve_left ha
  have hg:vs[off]?=some (vs[off]'(by omega)):=List.getElem?_eq_getElem (by omega)
  have hd:(vs.drop off).take 1=[vs[off]'(by omega)]:=by
   rw [List.drop_eq_getElem_cons (by omega)];rfl
  have hdc:(cs.drop off).take 1=[cs[off]'(by omega)]:=by
   rw [List.drop_eq_getElem_cons (by omega)];rfl
  rw [h1',hd,hdc] at hc'
  rw [h1',hdc]
  obtain ⟨v,e,hv⟩:=hc'.one
  cases e
  refine fh.cell hN (v:=vs[off]'(by omega)) ?_ hv
  simp only [execOp,ho,Instr.field,Sem.run_bind,run_underlying h1,Result.andThen_ok,h6,h7,asAgg,Sem.run_pure,part,h4,h5,ox w hTI,ha,if_false,List.getElem?_toArray,hg]
  rfl
end
end Lv
end
section
namespace Lv
variable [gG]
open Go Go.RowKit
section
variable {P:Program} {o:Oper} {a:Act} {ρ:Nat→Value} {ok:Nat→Prop} {w:World} {st:St} {hp':cT}
theorem mt (hN:Now P ρ ok w st a hp'):∀{parts:List (Nat×Operand)} {i:Nat} {css:List (List Cell)},kT (opd st.env) i parts=some css→
    ∃vss:List (List Value),All2 (fun cs vs=>All2 (dP ρ ok w st.nx) cs vs) css vss∧vss.length=parts.length∧∀k p,parts[k]?=some p→p.1=i+k∧vss[k]?=some (a.eval p.2).cells.toList
  | [],i,css,h=>by cases h;exact ⟨[],.nil,rfl,fun k p hp=>by simp at hp⟩
  |(j,x)::r,i,css,h=>by
    simp only [kT] at h
    split at h<;>try (cases h;done)
    rename_i hj
    split at h<;>try (cases h;done)
    rename_i c cs h1 h2
    cases h
    obtain ⟨vs,h3,h4⟩:=lE hN.E h1
    obtain ⟨vss,h5,h6,h7⟩:=mt hN h2
    refine ⟨vs::vss,.cons h4 h5,by simp [h6],fun k p hp=>?_⟩
    cases k with
    |zero=>simp at hp;subst hp;exact ⟨(Nat.eq_of_beq_eq_true hj).symm,by simp [h3]⟩
    |succ k=>
      obtain ⟨g1,g2⟩:=h7 k p (by simpa using hp)
      exact ⟨by omega,by simpa using g2⟩
theorem qc (size : Nat) : ∀ (parts : List (Nat × Value)) (done : List (List Value)) (cells : Array Value),
    (∀k p,parts[k]?=some p→p.1=done.length+k∧p.2.cells.size=size)→(∀vs∈done,vs.length=size)→(done.length+parts.length)*size≤cells.size→
    cells.toList.take (done.length*size)=done.flatten→
    ∃ cells',Instr.fill (fun i => some (i * size,size)) cells parts = some cells' ∧ cells'.size = cells.size ∧
      cells'.toList.take ((done.length+parts.length)*size)=done.flatten++(parts.map fun p=>p.2.cells.toList).flatten
  | [],done,cells,_,_,_,ht=>⟨cells,rfl,rfl,by simpa using ht⟩
  |(i,v)::r,done,cells,h,hd,hle,ht=>by
    obtain ⟨h1,h2⟩:=h 0 _ rfl
    simp only [Nat.add_zero] at h1 h2
    simp only [List.length_cons] at hle
    have hlt:done.length*size+size≤cells.size:=by
      rw [←Nat.succ_mul]
      exact Nat.le_trans (Nat.mul_le_mul_right _ (by omega)) hle
    obtain ⟨cells',e1,e2⟩:=qb (fun i=>some (i*size,size)) cells i v r rfl h2 (by rw [h1];exact hlt)
    have hs:cells'.size=cells.size:=by
      have:=congrArg List.length e2
      simp [h2,h1] at this
      omega
    have hf:done.flatten.length=done.length*size:=by
      rw [←ht,List.length_take];simp;omega
    have htk:cells'.toList.take ((done++ [v.cells.toList]).length*size)=(done++ [v.cells.toList]).flatten:=by
      rw [e2,h1,ht]
      simp only [List.length_append,List.length_singleton,Nat.add_mul,Nat.one_mul,List.flatten_append,List.flatten_singleton]
      rw [List.take_append_of_le_length (by simp [hf,h2])]
      apply List.take_of_length_le
      simp [hf,h2]
    obtain ⟨c2,e3,e4,e5⟩:=qc size r (done++ [v.cells.toList]) cells' (fun k p hp=>by
        obtain ⟨g1,g2⟩:=h (k+1) p (by simpa using hp)
        exact ⟨by simp;omega,g2⟩) (fun vs hvs=>by
        rcases List.mem_append.1 hvs with hvs|hvs
        · exact hd vs hvs
        · cases List.mem_singleton.1 hvs;simpa using h2) (by rw [hs];simp only [List.length_append,List.length_singleton];rw [Nat.add_assoc,Nat.add_comm 1];exact hle) htk
    refine ⟨c2,e1.trans e3,e4.trans hs,?_⟩
    simp only [List.length_append,List.length_singleton,List.flatten_append,List.flatten_singleton,List.append_assoc] at e5
    simp only [List.length_cons,List.map_cons,List.flatten_cons]
    rw [show done.length+(r.length+1)=done.length+1+r.length by omega]
    exact e5
theorem ww (cx : Cx) (hT : gC P cx.tab) {t len : Nat} {parts : Array (Nat × Operand)} (ho : o.op = .buildSlice t len parts) {e : Nat} {ti : TI} (hu : P.underlying t = some (.slice e)) (hj : cx.tab e = some ti) (hb2 : len * ti.size ≤ 16777216)
    {vss:List (List Value)} (hpl:parts.toList.length=len) (h2:vss.length=parts.toList.length) (h3:∀(k:Nat) (p:Nat×Operand),parts.toList[k]?=some p→p.1=0+k∧vss[k]?=some (a.eval p.2).cells.toList) (hvn:∀vs∈vss,vs.length=ti.size):
    (execOp a.eval o).run P w=.ok (.value (.slice (some ⟨w.heap.size,0,none⟩) len len)) (w.alloc (.cells vss.flatten.toArray e)):=by
  have hTI:=hT e _ hj
  obtain ⟨z,hz,hzc⟩:=lA w hTI
  obtain ⟨cells',g1,g2,g3⟩:=qc ti.size (parts.toList.map fun (i,x)=>(i,a.eval x)) [] ((Array.range (len*ti.size)).map (fun i=>(if len*ti.size=0 then (#[]:Array Value) else z.cells)[i%(if len*ti.size=0 then (#[]:Array Value) else z.cells).size]!))
    (fun k p hp=>by
      rw [List.getElem?_map] at hp
      cases hq:parts.toList[k]? with
      |none=>simp [hq] at hp
      |some q=>
        simp [hq] at hp
        subst hp
        obtain ⟨m1,m2⟩:=h3 k q hq
        have:=hvn _ (List.mem_of_getElem? m2)
        exact ⟨by simpa using m1,by simpa using this⟩)
    (fun vs hvs=>by cases hvs) (by simp [hpl]) (by simp)
  have hparts:(List.map (fun p:Nat×Value=>p.2.cells.toList) (parts.toList.map fun (i,x)=>(i,a.eval x)))=vss:=by
    apply List.ext_getElem?
    intro k
    rw [List.getElem?_map,List.getElem?_map]
    cases hq:parts.toList[k]? with
    |none=>
      have:vss[k]?=none:=List.getElem?_eq_none (by rw [h2];exact List.getElem?_eq_none_iff.1 hq)
      simp [this]
    |some q=>simp [(h3 k q hq).2]
  have hcells:cells'=vss.flatten.toArray:=by
    apply Array.ext'
    simp only [List.length_nil,Nat.zero_add,List.flatten_nil,List.nil_append,List.length_map,hpl,hparts] at g3
    simp only [List.toList_toArray]
    rw [←g3]
    symm
    apply List.take_of_length_le
    simp [g2]
  have hn:¬(len*ti.size>2^24):=by omega
  simp only [execOp,ho,Instr.buildSlice,Sem.run_bind,run_underlying hu,Result.andThen_ok,kC w hTI,hn,if_false]
  by_cases h0:len*ti.size=0
  · simp only [h0,if_true] at g1 ⊢
    simp only [Sem.run_pure,Result.andThen_ok,Array.toList_map,g1,newRow,Sem.run_bind,run_newObj,hcells]
    rfl
  · simp only [h0,if_false] at g1 ⊢
    simp only [Sem.run_bind,hz,Sem.run_pure,Result.andThen_ok,Array.toList_map,g1,newRow,run_newObj,hcells]
    rfl
theorem pK (cx : Cx) (hT : gC P cx.tab) (hN : Now P ρ ok w st a hp') {t len : Nat} {parts : Array (Nat × Operand)} (ho : o.op = .buildSlice t len parts) {r : Res} (h : gR cx st.nx (.buildSlice t len parts) (opd st.env) hp' = some r) : fh P o a ρ ok w st r := by
  simp only [gR] at h
  split at h<;>try (cases h;done)
  rename_i e _ _ _ _ _ hi
  split at h<;>try (cases h;done)
  rename_i kind size bytes cap zero ty hj
  split at h<;>try (cases h;done)
  rename_i css hcs
  split at h<;>try (cases h;done)
  rename_i hb
  obtain ⟨hb1,hb2⟩:=Bool.and_eq_true_iff.1 hb
  have hb1:=Nat.eq_of_beq_eq_true hb1
  have hb2:=Nat.le_of_ble_eq_true hb2
  have hu:=(hT t _ hi).sl rfl
  have hTI:=hT e _ hj
  have htn:ty.n=size:=hTI.ty ty rfl
  have hpos:0<size:=hTI.pos
  obtain ⟨vss,h1,h2,h3⟩:=mt hN hcs
  have hcl:css.length=vss.length:=h1.len
  have hpl:parts.toList.length=len:=by rw [←h2,←hcl,hb1]
  have okr:=fun hvn=>ww (P:=P) (o:=o) (a:=a) (w:=w) cx hT ho hu hj hb2 hpl h2 h3 hvn
  split at h
  rotate_left
  · split at h <;> try (cases h; done)
    rename_i hall
    cases h
    have hvn:∀vs∈vss,vs.length=size:=by
      have key:∀{css:List (List Cell)} {vss:List (List Value)},All2 (fun cs vs=>All2 (dP ρ ok w st.nx) cs vs) css vss→(css.all fun c=>Nat.beq c.length size)=true→∀vs∈vss,vs.length=size:=by
        intro css vss hall2
        induction hall2 with
        |nil=>intro _ vs hvs;cases hvs
        |cons hc _ ih=>
          intro hx vs hvs
          rw [List.all_cons,Bool.and_eq_true] at hx
          rcases List.mem_cons.1 hvs with rfl|hvs
          · rw [←hc.len];exact Nat.eq_of_beq_eq_true hx.1
          · exact ih hx.2 vs hvs
      exact key h1 hall
    have hfl:∀{css:List (List Cell)} {vss:List (List Value)},All2 (fun cs vs=>All2 (dP ρ ok w st.nx) cs vs) css vss→All2 (dP ρ ok w st.nx) css.flatten vss.flatten:=by
      intro css vss h1
      induction h1 with
      |nil=>exact .nil
      |cons hc _ ih=>rw [List.flatten_cons,List.flatten_cons];exact hc.app ih
    refine ⟨_,_,ig ρ st.nx (.pointer (some ⟨w.heap.size,0,none⟩)),ok,okr hvn,k8 hN.H (w':=w.alloc (.cells vss.flatten.toArray e)) (v:=.pointer (some ⟨w.heap.size,0,none⟩)) (o:=.box e css.flatten) rfl rfl ⟨rfl,fun _=>Nat.le_refl _⟩ (by simp) (fun b hb=>Below.heap_alloc w _ b hb) ?_ ?_,.inl ⟨_,rfl,fun s hs=>?_⟩⟩
    · exact ⟨w.heap.size,vss.flatten,by simp [ig],heap_alloc_new w _,(hfl h1).imp fun _ _ h=>h.move (fun b hb=>⟨hb,Below.heap_alloc w _ b (hN.H.okl b hb)⟩) (fun l hl=>by simp [ig,Nat.ne_of_lt hl]) (by omega)⟩
    · intro _ b hb
      cases hb
      exact Nat.le_refl _
    · cases hs
      exact ⟨_,rfl,Nat.lt_succ_self _,w.heap.size,by simp [ig],rfl⟩
  rename_i xs hxs
  cases h
  have hF:fi st.hp (ja hp' css.flatten):=(kH hp' _).sub hN.sub
  have e1:=mb hN.H hF
  have hrows:Rows (gZ ok ρ (names (ja hp' css.flatten))) w ty xs vss.flatten:=rV hN.H hN.sub (fun b hb=> .inl hb) h1 (ld.of (lG hp' _)) hxs
  have hvn:∀vs∈vss,vs.length=size:=by
    intro vs hvs
    have key:∀{css:List (List Cell)} {vss:List (List Value)} {xs:List ty.T},All2 (fun cs vs=>All2 (dP ρ ok w st.nx) cs vs) css vss→nY hp' ty css=some xs→∀vs∈vss,vs.length=ty.n:=by
      intro css vss xs hall
      induction hall generalizing xs with
      |nil=>intro _ vs hvs;cases hvs
      |@cons c v cr vr hc _ ih=>
        intro hx vs hvs
        simp only [nY] at hx
        split at hx<;>try (cases hx;done)
        rename_i y ys hy hys
        rcases List.mem_cons.1 hvs with rfl|hvs
        · have hco:=lH hN.H (ok':=fun _=>True) hN.sub (fun _ _=>trivial) hc (fun _ _ _ _ _ _ _ _=>trivial) hy
          exact jh hco
        · exact ih hys vs hvs
    rw [←htn]
    exact key h1 hxs vs hvs
  have hxl:xs.length=len:=by
    have:∀{css:List (List Cell)} {xs:List ty.T},nY hp' ty css=some xs→xs.length=css.length:=by
      intro css
      induction css with
      |nil=>intro xs hx;cases hx;rfl
      |cons c cr ih=>
        intro xs hx
        simp only [nY] at hx
        split at hx<;>try (cases hx;done)
        rename_i y ys hy hys
        cases hx
        simp [ih hys]
    rw [this hxs,hb1]
  have hr:=okr hvn
  refine ⟨_,_,ig ρ st.nx (.slice (some ⟨w.heap.size,0,none⟩) len len),gZ ok ρ (names (ja hp' css.flatten)),hr,?_,.inl ⟨_,rfl,fun s hs=>?_⟩⟩
  · have:=e1.trans (n:=0) (m:=1) (k8 e1.1 (w':=w.alloc (.cells vss.flatten.toArray e)) (v:=.slice (some ⟨w.heap.size,0,none⟩) len len) (o:=.arr e ty xs) rfl rfl ⟨rfl,fun _=>Nat.le_refl _⟩ (by simp) (fun b hb=>Below.heap_alloc w _ b hb) ?_ ?_)
    · simpa using this
    · refine ⟨vss.flatten,⟨?_,.inr ⟨w.heap.size,len,vss.flatten.toArray,by simp [ig,hxl],Nat.zero_le _,heap_alloc_new w _,by omega,?_,?_,?_⟩⟩,?_⟩
      · rw [hrows.len]
      · have:len≤len*size:=Nat.le_mul_of_pos_right _ hpos
        simp only [maxLen];omega
      · rw [List.size_toArray,hrows.len,hxl]
      · rw [List.toList_toArray]
        exact List.take_of_length_le (by rw [hrows.len];exact Nat.le_refl _)
      · exact hrows.move fun b hb=>⟨hb,Below.heap_alloc w _ b (e1.1.okl b hb)⟩
    · intro _ b hb
      cases hb
      exact Nat.le_refl _
  · cases hs
    exact ⟨_,rfl,Nat.lt_succ_self _,by simp [ig],rfl⟩
theorem lJ (hN:Now P ρ ok w st a hp'):∀{l:List Operand} {cs:List (Bool×List Cell)},ly (opd st.env) l=some cs→All2 (fun (p:Bool×List Cell) u=>VR ρ ok w st.nx p.1 p.2 u) cs (l.map a.eval)
 | [],cs,h=>by cases h;exact .nil
 |x::r,cs,h=>by
  simp only [ly] at h
  split at h<;>try (cases h;done)
  rename_i g c l h1 h2
  cases h
  exact .cons (jf hN.E h1) (lJ hN h2)
theorem se (cx:Cx) (hN:Now P ρ ok w st a hp') {f:Nat} {first caps:Array Operand} (ho:o.op=.makeFunc (.func f) first caps) {r:Res} (h:gR cx st.nx (.makeFunc (.func f) first caps) (opd st.env) hp'=some r):fh P o a ρ ok w st r:=by
 simp only [gR] at h
 split at h<;>try (cases h;done)
 rename_i x y h1 h2
 cases h
 have h3:=lJ hN h1
 have h4:=lJ hN h2
 have hr:(execOp a.eval o).run P w=.ok (.value (.func (.func f) (first.map a.eval) (caps.map a.eval))) w:=by
  simp only [execOp,ho,Instr.makeFunc];rfl
 refine ⟨_,w,ig ρ st.nx (.func (.func f) (first.map a.eval) (caps.map a.eval)),ok,hr,k8 hN.H rfl rfl ⟨rfl,fun _=>Nat.le_refl _⟩ (Nat.le_refl _) (fun _ _=>rfl) ?_ ?_,.inl ⟨_,rfl,fun s hs=>?_⟩⟩
 ·have mv:∀{c:Bool×List Cell} {v:Value},VR ρ ok w st.nx c.1 c.2 v→VR (ig ρ st.nx (.func (.func f) (first.map a.eval) (caps.map a.eval))) ok w (st.nx+1) c.1 c.2 v:=
   fun h=>h.move (gU.refl _ _) (fun l hl=>by simp [ig,Nat.ne_of_lt hl]) (by omega)
  have e:∀q:Array Operand,q.map a.eval=(q.toList.map a.eval).toArray:=fun q=>by apply Array.ext';simp
  exact ⟨first.toList.map a.eval,caps.toList.map a.eval,by rw [←e,←e];simp [ig],h3.imp fun _ _=>mv,h4.imp fun _ _=>mv⟩
 ·intro h;cases h
 ·cases hs
  exact ⟨_,rfl,Nat.lt_succ_self _,by simp [ig],rfl⟩
theorem oY (hN:Now P ρ ok w st a hp') {d:Int} {x:Option Operand} {i:Int} (h:kl (opd st.env) d x=some i):(x=none∧i=d)∨∃y k,x=some y∧a.eval y=.int k i:=by
 unfold kl at h
 split at h
 ·cases h;exact .inl ⟨rfl,rfl⟩
 ·rename_i y
  split at h<;>try (cases h;done)
  rename_i k j hj
  cases h
  exact .inr ⟨y,k,rfl,dc (c:=.int k i) hN.E hj⟩
theorem jI (hN:Now P ρ ok w st a hp') {isS:Bool} {n cap:Nat} (hc:n≤cap) {lo hi:Option Operand} {i j:Int} (h1:kl (opd st.env) 0 lo=some i) (h2:kl (opd st.env) n hi=some j) (hi0:0≤i) (hij:i≤j) (hj:j≤n):
 (Instr.sliceBounds isS n cap (lo.map a.eval) (hi.map a.eval) none).run P w=.ok (i.toNat,j.toNat,cap) w:=by
 have hs:∀(v:Value) (k:IntKind) (m:Int) (y:Nat) (c:BoundsCode),v=.int k m→0≤m→m≤y→(Instr.sliceBound v y c).run P w=.ok m.toNat w:=by
  intro v k m y c hv h3 h4
  subst hv
  simp only [Instr.sliceBound,asIntOf,Sem.run_bind,Sem.run_pure,Result.andThen_ok,h3,h4,and_self,if_true]
 unfold Instr.sliceBounds
 simp only [Sem.run_bind,Sem.run_pure,Result.andThen_ok]
 rcases oY hN h2 with ⟨rfl,rfl⟩|⟨y,k,rfl,hy⟩
 ·rcases oY hN h1 with ⟨rfl,rfl⟩|⟨z,l,rfl,hz⟩
  ·simp only [Option.map_none,Sem.run_bind,Sem.run_pure,Result.andThen_ok];rfl
  ·simp only [Option.map_some,Option.map_none,Sem.run_bind,Sem.run_pure,Result.andThen_ok,hs _ l i n _ hz hi0 hij];rfl
 ·rcases oY hN h1 with ⟨rfl,rfl⟩|⟨z,l,rfl,hz⟩
  ·simp only [Option.map_none,Option.map_some,Sem.run_bind,Sem.run_pure,Result.andThen_ok,hs _ k j cap _ hy (by omega) (by omega)];rfl
  ·simp only [Option.map_some,Sem.run_bind,Sem.run_pure,Result.andThen_ok,hs _ k j cap _ hy (by omega) (by omega),hs _ l i j.toNat _ hz hi0 (by omega)]
theorem kJ {t e:Nat} {i:TI} (hu:P.underlying t=some (.slice e)) (hi:jw P e i) {A:Option Addr} {n cap:Nat} {lo hi':Option Operand} {x:Operand} {l h:Nat} (ho:o.op=.slice t x lo hi' none) (hx:a.eval x=.slice A n cap)
 (hb:(Instr.sliceBounds true n cap (lo.map a.eval) (hi'.map a.eval) none).run P w=.ok (l,h,cap) w):
 (execOp a.eval o).run P w=.ok (.value (.slice (if cap=l then A else A.map (·.add (l*i.size))) (h-l) (cap-l))) w:=by
 simp only [execOp,ho,Instr.sliceAt,Sem.run_bind,run_underlying hu,Result.andThen_ok,hx,Option.map_none,Instr.slice,hb,kC w hi,Sem.run_pure]
theorem sub_K {ok:Nat→Prop} {w:World} {e:Nat} {t:Ty} {xs:List t.T} {A:Option Addr} {cap l h:Nat} (hk:K ok w (.sl e t) xs [.slice A xs.length cap]) (hlh:l≤h) (hh:h≤xs.length):
 K ok w (.sl e t) ((xs.take h).drop l) [.slice (if cap=l then A else A.map (·.add (l*t.n))) (h-l) (cap-l)]:=by
 obtain ⟨A',cap',h1,h2,h3⟩:=hk
 injection h1 with h1
 injection h1 with e1 _ e3
 subst e1 e3
 have hlen:((xs.take h).drop l).length=h-l:=by simp;omega
 refine ⟨_,_,by rw [hlen],by rw [hlen];omega,?_⟩
 rcases h3 with h3|⟨b,off,h4,h5,h6⟩
 ·subst h3;exact .inl (by simp)
 ·by_cases hl:h=l
  ·subst hl;exact .inl (by apply List.eq_nil_of_length_eq_zero;omega)
  ·rw [if_neg (by omega),h4]
   have:=Row.part (R:=K ok w t) h5 h6 l (h-l)
   rw [show (xs.take h).drop l=(xs.drop l).take (h-l) by rw [List.drop_take]]
   simpa [jH] using this
theorem mc {ok:Nat→Prop} {w:World} {t:Ty} {xs:List t.T} {vs:List Value} (h:Rows ok w t xs vs) (k:Nat) (hk:k≤xs.length):Rows ok w t (xs.take k) (vs.take (k*t.n)):=by
 obtain ⟨css,rfl,h⟩:=h
 refine ⟨css.take k,?_,h.take k⟩
 induction h generalizing k with
 |nil=>simp
 |@cons a b as bs h ht ih=>
  have hl:=jh h
  cases k with
  |zero=>simp
  |succ k=>
   have hk':k≤as.length:=by simpa using hk
   have:=ih k hk'
   simp only [List.take_succ_cons,List.flatten_cons,←this]
   rw [List.take_append,hl,Nat.add_mul,Nat.one_mul,Nat.add_sub_cancel,List.take_of_length_le (by omega)]
theorem xX (cx : Cx) (hT : gC P cx.tab) (hN : Now P ρ ok w st a hp') {t : Nat} {x : Operand} {lo hi : Option Operand} (ho : o.op = .slice t x lo hi none) {r : Res} (h : gR cx st.nx (.slice t x lo hi none) (opd st.env) hp' = some r) (hb : r.c = true) : fh P o a ρ ok w st r := by
  have el:∀{e n:Nat},km cx e n=true→∃i,cx.tab e=some i∧i.size=n:=by
    intro e n he
    unfold km at he
    split at he
    · rename_i i hi;exact ⟨i,hi,Nat.eq_of_beq_eq_true he⟩
    · cases he
  have data:∀{e' e:Nat} {u:Ty} {xs:List u.T} {v:Value} {p q:Int},P.underlying t=some (.slice e')→km cx e' u.n=true→a.eval x=v→K ok w (.sl e u) xs [v]→kl (opd st.env) 0 lo=some p→kl (opd st.env) xs.length hi=some q→
      (decide (0≤p)&&(decide (p≤q)&&decide (q≤(xs.length:Int))))=true→fh P o a ρ ok w st ⟨(decide (0≤p)&&(decide (p≤q)&&decide (q≤(xs.length:Int)))),some (.v false [.sl e u ((xs.take q.toNat).drop p.toNat)]),[],0⟩:=by
    intro e' e u xs v p q hu hel hx hk hp hq hc
    simp only [Bool.and_eq_true,decide_eq_true_eq] at hc
    obtain ⟨c1,c2,c3⟩:=hc
    obtain ⟨A,cap,h1,h2,_⟩:=id hk
    injection h1 with h1
    subst h1
    obtain ⟨i,hi1,hi2⟩:=el hel
    have hrb:=jI hN (isS:=true) h2 hp hq c1 c2 c3
    refine fh.cell hN (kJ hu (hT e' i hi1) ho hx hrb) ?_
    rw [hi2]
    exact sub_K hk (by omega) (by omega)
  simp only [gR] at h
  split at h<;>try (cases h;done)
  · rename_i s h1 h2
    split at h<;>try (cases h;done)
    rename_i p q hp hq
    cases h
    simp only [Bool.and_eq_true,decide_eq_true_eq] at hb
    obtain ⟨c1,c2,c3⟩:=hb
    have hx:a.eval x=.string s:=dc (c:=.str s) hN.E h2
    have hrb:=jI hN (isS:=false) (Nat.le_refl _) hp hq c1 c2 c3
    have hu:=(hT t _ h1).str rfl
    refine fh.cell hN (v:=.string (s.extract p.toNat q.toNat)) ?_ rfl
    simp only [execOp,ho,Instr.sliceAt,Sem.run_bind,run_underlying hu,Result.andThen_ok,hx,Option.map_none,Instr.slice,Option.isSome_none,Bool.false_eq_true,if_false,Sem.run_pure,hrb]
  · rename_i e' _ _ _ _ _ e u xs h1 h2
    split at h<;>try (cases h;done)
    rename_i p q hp hq
    split at h<;>try (cases h;done)
    rename_i hel
    cases h
    have hk:K ok w (.sl e u) xs [a.eval x]:=dc (c:=.sl e u xs) hN.E h2
    exact data ((hT t _ h1).sl rfl) hel rfl hk hp hq hb
  · rename_i e' _ _ _ _ _ l h1 h2
    have hu:=(hT t _ h1).sl rfl
    obtain ⟨g1,g2,g3⟩:=dc hN.E h2
    split at h<;>try (cases h;done)
    · rename_i e u xs hl
      split at h<;>try (cases h;done)
      rename_i p q hp hq
      split at h<;>try (cases h;done)
      rename_i hel
      split at h
      · rename_i hlo
        cases h
        simp only [Bool.and_eq_true,decide_eq_true_eq] at hb
        obtain ⟨c1,c2,c3⟩:=hb
        obtain ⟨i,hi1,hi2⟩:=el hel
        have hl':=hN.sub _ _ hl
        obtain ⟨_,inner,h3,h4⟩:=hN.H.ob l _ hl'
        have hp0:p=0:=by
          cases lo with
          |none=>cases hp;rfl
          |some _=>cases hlo
        subst hp0
        have hlen:(xs.take q.toNat).length=q.toNat:=by rw [List.length_take];omega
        have hS:gU ok ok w w:=fun b hb=>⟨hb,rfl⟩
        rcases h3.2 with ⟨h5,h6⟩|⟨g,cap,cur,h5,k1,k2,h8,k3,k4,k5⟩
        · have hx:a.eval x=.slice none 0 0:=g2.trans h5
          have hrb:=jI hN (isS:=true) (n:=0) (cap:=0) (Nat.le_refl _) hp (by rw [←h6];exact hq) c1 c2 (by omega)
          have hq0:q.toNat=0:=by omega
          have hr:=kJ hu (hT e' i hi1) ho hx hrb
          rw [hq0] at hr
          refine ⟨_,w,ig ρ st.nx (.slice none 0 0),ok,hr,oS hN.H hl' rfl rfl rfl ji.rfl (Nat.le_refl _) (fun _ _ _=>rfl) ?_ (fun b hb=>by cases hb),.inl ⟨_,rfl,fun s hs=>?_⟩⟩
          · refine ⟨[],?_,?_⟩
            · rw [hlen,hq0]
              simpa [ig] using World.ownsRow_nil w 0 e u.n
            · rw [hq0];exact ⟨[],rfl,.nil⟩
          · cases hs
            exact ⟨_,rfl,Nat.lt_succ_self _,by simp [ig],rfl⟩
        · have hx:a.eval x=.slice (some ⟨g,0,none⟩) xs.length cap:=g2.trans h5
          have hrb:=jI hN (isS:=true) h8 hp hq c1 c2 c3
          have hr:=kJ hu (hT e' i hi1) ho hx hrb
          have hsz:(if cap=(0:Int).toNat then some (⟨g,0,none⟩:Addr) else (some (⟨g,0,none⟩:Addr)).map (·.add ((0:Int).toNat*i.size)))=some ⟨g,0,none⟩:=by
            split<;>simp [jH]
          rw [hsz] at hr
          have hr':(execOp a.eval o).run P w=.ok (.value (.slice (some ⟨g,0,none⟩) q.toNat cap)) w:=by simpa using hr
          refine ⟨_,w,ig ρ st.nx (.slice (some ⟨g,0,none⟩) q.toNat cap),ok,hr',oS hN.H hl' rfl rfl rfl ji.rfl (Nat.le_refl _) (fun _ _ _=>rfl) ?_ (fun b hb=> .inr (by rw [h5];exact hb)),.inl ⟨_,rfl,fun s hs=>?_⟩⟩
          · refine ⟨inner.take (q.toNat*u.n),?_,mc h4 _ (by omega)⟩
            rw [hlen]
            have hil:inner.length=xs.length*u.n:=h3.1
            refine ⟨?_,.inr ⟨g,cap,cur,by simp [ig],k1,k2,by omega,k3,k4,?_⟩⟩
            · rw [List.length_take,hil,Nat.min_eq_left (Nat.mul_le_mul_right _ (by omega))]
            · rw [←k5,List.take_take,Nat.min_eq_left (Nat.mul_le_mul_right _ (by omega))]
          · cases hs
            exact ⟨_,rfl,Nat.lt_succ_self _,by simp [ig],rfl⟩
      cases h
      simp only [Bool.and_eq_true,decide_eq_true_eq] at hb
      obtain ⟨c1,c2,c3⟩:=hb
      obtain ⟨i,hi1,hi2⟩:=el hel
      obtain ⟨_,inner,h3,h4⟩:=hN.H.ob l _ (hN.sub _ _ hl)
      rcases h3.2 with ⟨h5,h6⟩|⟨g,cap,cur,h5,_,h7,h8,_⟩
      · have hx:a.eval x=.slice none 0 0:=g2.trans h5
        have hrb:=jI hN (isS:=true) (n:=0) (cap:=0) (Nat.le_refl _) hp (by rw [←h6];exact hq) c1 c2 (by omega)
        refine fh.cell hN (kJ hu (hT e' i hi1) ho hx hrb) ⟨g1,_,_,rfl,by omega,.inl (by omega)⟩
      · have hx:a.eval x=.slice (some ⟨g,0,none⟩) xs.length cap:=g2.trans h5
        have hrb:=jI hN (isS:=true) h8 hp hq c1 c2 c3
        refine fh.cell hN (kJ hu (hT e' i hi1) ho hx hrb) ⟨g1,_,_,rfl,by omega,?_⟩
        by_cases he:q.toNat-p.toNat=0
        · exact .inl he
        · refine .inr ⟨g,xs.length,cap,h5,?_,by omega⟩
          rw [if_neg (by omega),hi2]
          simp [jH]
    · rename_i e u xs hl
      split at h<;>try (cases h;done)
      rename_i p q hp hq
      split at h<;>try (cases h;done)
      rename_i hel
      cases h
      have hk:K ok w (.sl e u) xs [ρ l]:=(hN.H.ob l _ (hN.sub _ _ hl)).2
      exact data hu hel g2 hk hp hq hb
theorem qH (cx : Cx) (hT : gC P cx.tab) (hN : Now P ρ ok w st a hp') {t : Nat} {x y : Operand} (ho : o.op = .indexAddr t x y) {r : Res} (h : gR cx st.nx (.indexAddr t x y) (opd st.env) hp' = some r) (hb : r.c = true) : fh P o a ρ ok w st r := by
  have run:∀{e n:Nat} {k:IntKind} {j:Int} {A:Addr} {len cap:Nat},P.underlying t=some (.slice e)→km cx e n=true→a.eval x=.slice (some A) len cap→a.eval y=.int k j→0≤j→j<len→
      (execOp a.eval o).run P w=.ok (.value (.pointer (some (A.add (j.toNat*n))))) w:=by
    intro e n k j A len cap hu hel hx hy h0 h1
    unfold km at hel
    split at hel<;>try (cases hel;done)
    rename_i i hi
    have hel:=Nat.eq_of_beq_eq_true hel
    subst hel
    simp only [execOp,ho,Instr.indexAt,hx,hy,asIntOf,Sem.run_bind,Sem.run_pure,Result.andThen_ok,run_underlying hu,h0,h1,and_self,if_true,kC w (hT e i hi)]
  have data:∀{e' e:Nat} {u:Ty} {xs:List u.T} {v:Value} {k:IntKind} {j:Int},P.underlying t=some (.slice e')→km cx e' u.n=true→a.eval x=v→K ok w (.sl e u) xs [v]→a.eval y=.int k j→
      (decide (0≤j)&&decide (j<(xs.length:Int)))=true→fh P o a ρ ok w st ⟨(decide (0≤j)&&decide (j<(xs.length:Int))),some (.v false [.rdp u (xs.getD j.toNat u.z) 0]),[],0⟩:=by
    intro e' e u xs v k j hu hel hx hk hy hc
    simp only [Bool.and_eq_true,decide_eq_true_eq] at hc
    obtain ⟨c1,c2⟩:=hc
    obtain ⟨A,cap,h1,h2,h3⟩:=hk
    injection h1 with h1
    subst h1
    rcases h3 with h3|⟨b,off,h4,h5,h6⟩
    · subst h3;simp at c2;omega
    · rw [h4] at hx
      obtain ⟨vs,g1,g2⟩:=h6 j.toNat _ (getD_some (by omega) u.z)
      refine fh.cell hN (run hu hel hx hy c1 c2) ⟨b,off+j.toNat*u.n,vs,?_,h5,g1,g2⟩
      rw [jH];rfl
  have arr:∀{n e:Nat} {k:IntKind} {j:Int} {i:TI} {b o':Nat},P.underlying t=some (.array n e)→cx.tab e=some i→a.eval x=.pointer (some ⟨b,o',none⟩)→a.eval y=.int k j→0≤j→j<n→
      (execOp a.eval o).run P w=.ok (.value (.pointer (some ⟨b,o'+j.toNat*i.size,none⟩))) w:=by
    intro n e k j i b o' hu hi hx hy h0 h1
    simp only [execOp,ho,Instr.indexAt,hx,hy,asIntOf,Instr.sureAddr,Sem.run_bind,Sem.run_pure,Result.andThen_ok,run_underlying hu,h0,h1,and_self,if_true,kC w (hT e i hi),jH]
  simp only [gR] at h
  split at h<;>try (cases h;done)
  · rename_i e' _ _ _ _ _ e u xs k j h1 h2 h3
    split at h<;>try (cases h;done)
    rename_i hel
    cases h
    have hk:K ok w (.sl e u) xs [a.eval x]:=dc (c:=.sl e u xs) hN.E h2
    exact data ((hT t _ h1).sl rfl) hel rfl hk (dc (c:=.int k j) hN.E h3) hb
  · rename_i l _ j h1 h2 h3
    have hu:=(hT t _ h1).sl rfl
    obtain ⟨g1,g2,g3⟩:=dc hN.E h2
    have hy:a.eval y=.int _ _:=dc (c:=.int _ _) hN.E h3
    split at h<;>try (cases h;done)
    · rename_i e u xs hl
      split at h<;>try (cases h;done)
      rename_i hel
      cases h
      simp only [Bool.and_eq_true,decide_eq_true_eq] at hb
      obtain ⟨c1,c2⟩:=hb
      obtain ⟨_,inner,h4,h5⟩:=hN.H.ob l _ (hN.sub _ _ hl)
      rcases h4.2 with ⟨h6,h7⟩|⟨g,cap,cur,h6,_,h7,h8,_⟩
      · rw [h7] at c2;simp at c2;omega
      · have hx:=g2.trans h6
        refine fh.cell hN (run hu hel hx hy c1 c2) ⟨g1,g,xs.length,cap,h6,by omega,?_⟩
        rw [jH];simp
    · rename_i e u xs hl
      split at h<;>try (cases h;done)
      rename_i hel
      cases h
      have hk:K ok w (.sl e u) xs [ρ l]:=(hN.H.ob l _ (hN.sub _ _ hl)).2
      exact data hu hel g2 hk hy hb
  · rename_i l n lo len _ j h1 h2 h3
    split at h<;>try (cases h;done)
    rename_i hel
    cases h
    have hu:=(hT t _ h1).sl rfl
    obtain ⟨g1,A,cap,g2,g3,g4⟩:=dc hN.E h2
    have hy:a.eval y=.int _ _:=dc (c:=.int _ _) hN.E h3
    simp only [Bool.and_eq_true,decide_eq_true_eq] at hb
    obtain ⟨c1,c2⟩:=hb
    rcases g4 with g4|⟨b,L,C,g5,g6,g7⟩
    · subst g4;simp at c2;omega
    · rw [g6] at g2
      refine fh.cell hN (run hu hel g2 hy c1 c2) ⟨g1,b,L,C,g5,by omega,?_⟩
      rw [jH,Nat.add_mul];simp
  · rename_i l k _ j h1 h2 h3
    split at h<;>try (cases h;done)
    rename_i i hi
    cases h
    have hu:=(hT t _ h1).sl rfl
    obtain ⟨g1,b,g2,g3⟩:=dc hN.E h2
    have hy:a.eval y=.int _ _:=dc (c:=.int _ _) hN.E h3
    simp only [Bool.and_eq_true,decide_eq_true_eq] at hb
    obtain ⟨c1,c2⟩:=hb
    refine fh.cell hN (run hu (n:=i.size) (by unfold km;rw [hi];exact Nat.beq_refl _) g3 hy c1 c2) ⟨g1,b,g2,?_⟩
    rw [jH];simp
  all_goals
    rename_i h1 h2 h3
    have hu:=(hT t _ h1).arr rfl
    have hx:=dc hN.E h2
    have hy:a.eval y=.int _ _:=dc (c:=.int _ _) hN.E h3
    split at h<;>try (cases h;done)
    rename_i i hi
    cases h
    simp only [Bool.and_eq_true,decide_eq_true_eq] at hb
    obtain ⟨c1,c2⟩:=hb
  · obtain ⟨h4,b,h5,h6⟩:=hx
    exact fh.cell hN (arr hu hi h6 hy c1 c2) ⟨h4,b,h5,rfl⟩
  · obtain ⟨b,o',vs,h4,h5⟩:=hx
    exact fh.cell hN (arr hu hi h4 hy c1 c2) ⟨b,o',vs,by rw [Nat.add_assoc],h5⟩
  · obtain ⟨h4,b,L,C,h5,h6,h7⟩:=hx
    exact fh.cell hN (arr hu hi h7 hy c1 c2) ⟨h4,b,L,C,h5,h6,by rw [Nat.add_assoc]⟩
end
end Lv
end
