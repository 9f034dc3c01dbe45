import Derived.WalkKit
set_option linter.all false
set_option linter.unusedVariables false
set_option linter.unusedSimpArgs false
set_option linter.unusedSectionVars false
namespace Lv
open Go

/-! ## Data -/
inductive Ty where
  | int (k : IntKind) | bool | str | val | unit | pair (a b : Ty) | sl (e : Nat) (t : Ty)

@[reducible] def Ty.T : Ty → Type
  | .int _ => Int
  | .bool => Bool
  | .str => ByteArray
  | .val => Value
  | .unit => Unit
  | .pair a b => a.T × b.T
  | .sl _ t => List t.T

def Ty.n : Ty → Nat
  | .unit => 0
  | .pair a b => a.n + b.n
  | _ => 1

def Ty.z : (t : Ty) → t.T
  | .int _ => (0 : Int)
  | .bool => false
  | .str => (⟨#[]⟩ : ByteArray)
  | .val => Value.nilIface
  | .unit => ()
  | .pair a b => (a.z, b.z)
  | .sl _ _ => []

def kb : IntKind → IntKind → Bool
  | .i8, .i8 => true | .i16, .i16 => true | .i32, .i32 => true | .i64, .i64 => true
  | .u8, .u8 => true | .u16, .u16 => true | .u32, .u32 => true | .u64, .u64 => true
  | _, _ => false

def Ty.b : Ty → Ty → Bool
  | .int k, .int l => kb k l
  | .bool, .bool => true
  | .str, .str => true
  | .val, .val => true
  | .unit, .unit => true
  | .pair a b, .pair c d => a.b c && b.b d
  | .sl e t, .sl f u => Nat.beq e f && t.b u
  | _, _ => false
theorem kb_eq {a b : IntKind} (h : kb a b = true) : a = b := by cases a <;> cases b <;> first | rfl | cases h
theorem Ty.b_eq : ∀ {a b : Ty}, a.b b = true → a = b
  | .int k, .int l, h => by rw [kb_eq h]
  | .bool, .bool, _ => rfl
  | .str, .str, _ => rfl
  | .val, .val, _ => rfl
  | .unit, .unit, _ => rfl
  | .pair a b, .pair c d, h => by
    have h' := Bool.and_eq_true_iff.1 h
    rw [Ty.b_eq h'.1, Ty.b_eq h'.2]
  | .sl e t, .sl f u, h => by
    have h' := Bool.and_eq_true_iff.1 h
    rw [Nat.eq_of_beq_eq_true h'.1, Ty.b_eq h'.2]

/-- what one cell of memory, or a part of a slot, holds -/
inductive Cell where
  | int (k : IntKind) (i : Int)
  | bool (b : Bool)
  | str (s : ByteArray)
  | val (v : Value)
  | sl (e : Nat) (t : Ty) (xs : List t.T)
  | ref (l : Nat)
  | sub (l n lo len : Nat)
  | ptr (l off : Nat)
  | elp (l n i off : Nat)
  | rdp (t : Ty) (x : t.T) (off : Nat)
  | ifc (b : Bool)
  | np (l : Nat)

inductive Slot where
  | v (agg : Bool) (cs : List Cell)
  | tup (l : List (Bool × List Cell))

/-- what lies behind a name -/
inductive Ob where
  | box (e : Nat) (cs : List Cell)
  | arr (e : Nat) (t : Ty) (xs : List t.T)
  | frz (e : Nat) (t : Ty) (xs : List t.T)
  | clo (f : Nat) (first caps : List Cell)
  | mp (g : Bool) (t : Ty) (kvs : List (ByteArray × t.T))

abbrev Heap := Nat → Option Ob
structure St where
  env : Nat → Option Slot
  hp : Heap
  nx : Nat
  dt : List Nat

def Ty.ex : (t : Ty) → t.T → List Cell
  | .int k, x => [.int k x]
  | .bool, x => [.bool x]
  | .str, x => [.str x]
  | .val, x => [.val x]
  | .unit, _ => []
  | .pair a b, x => a.ex x.1 ++ b.ex x.2
  | .sl e t, xs => [.sl e t xs]

def castL (t u : Ty) (h : t.b u = true) (xs : List t.T) : List u.T := Ty.b_eq h ▸ xs
def sameSl (e : Nat) (t : Ty) (f : Nat) (u : Ty) (xs : List u.T) : Option (List t.T) :=
  if Nat.beq e f = true then (if h : u.b t = true then some (castL u t h xs) else none) else none

def coSl (e : Nat) (t : Ty) (hp : Heap) : Cell → Option (List t.T)
  | .sl f u xs => sameSl e t f u xs
  | .ref l => match hp l with
    | some (.arr f u xs) => sameSl e t f u xs
    | some (.frz f u xs) => sameSl e t f u xs
    | _ => none
  | .sub l n lo len => match hp l with
    | some (.arr f u xs) => if Nat.beq n u.n = true then sameSl e t f u ((xs.drop lo).take len) else none
    | some (.frz f u xs) => if Nat.beq n u.n = true then sameSl e t f u ((xs.drop lo).take len) else none
    | _ => none
  | .val (.slice none 0 0) => some []
  | _ => none

/-- a scalar cell's value -/
def Cell.raw : Cell → Option Value
  | .int k i => some (.int k i)
  | .bool b => some (.bool b)
  | .str s => some (.string s)
  | .val v => some v
  | _ => none

def coInt (k : IntKind) : List Cell → Option Int
  | [.int l i] => if kb k l = true then some i else none
  | _ => none
def coBool : List Cell → Option Bool
  | [.bool b] => some b
  | _ => none
def coStr : List Cell → Option ByteArray
  | [.str s] => some s
  | _ => none
def coRaw : List Cell → Option Value
  | [c] => c.raw
  | _ => none
def coUnit : List Cell → Option Unit
  | [] => some ()
  | _ => none
def coSl1 (e : Nat) (t : Ty) (hp : Heap) : List Cell → Option (List t.T)
  | [c] => coSl e t hp c
  | _ => none
def Ty.co (hp : Heap) : (t : Ty) → List Cell → Option t.T
  | .int k, cs => coInt k cs
  | .bool, cs => coBool cs
  | .str, cs => coStr cs
  | .val, cs => coRaw cs
  | .unit, cs => coUnit cs
  | .pair a b, cs => match a.co hp (cs.take a.n), b.co hp (cs.drop a.n) with
    | some x, some y => some (x, y)
    | _, _ => none
  | .sl e t, cs => coSl1 e t hp cs

abbrev Ups := List (Nat × Option Ob)
def names (u : Ups) : List Nat := u.map (·.1)
def memN (x : Nat) : List Nat → Bool
  | [] => false
  | y :: r => Nat.beq x y || memN x r
def frz1 (hp : Heap) (l : Nat) : Ups := match hp l with
  | some (.arr e t xs) => [(l, some (.frz e t xs))]
  | _ => []
/-- the names that become data where these cells are taken as data -/
def frzs (hp : Heap) : List Cell → Ups
  | [] => []
  | .ref l :: r => frz1 hp l ++ frzs hp r
  | .sub l _ _ _ :: r => frz1 hp l ++ frzs hp r
  | _ :: r => frzs hp r

/-! ## Types' table -/
inductive TK where
  | int (k : IntKind) | bool | str | sl (e : Nat) | st (fs : List (Nat × Nat)) | arr (n e : Nat) | ptr | other | ifc | map (k e : Nat)

structure TI where
  kind : TK
  size : Nat
  bytes : Nat
  cap : Nat
  zero : List Value
  ty : Option Ty

def TI.agg (i : TI) : Bool := match i.kind with | .st _ => true | .arr _ _ => true | _ => false

def tabAt : List (Nat × TI) → Nat → Option TI
  | [], _ => none
  | (u, i) :: r, t => if Nat.beq u t = true then some i else tabAt r t

/-! ## Values and cells -/
def Cell.of : Value → Cell
  | .int k i => .int k i
  | .bool b => .bool b
  | .string s => .str s
  | v => .val v
def Slot.of : Value → Slot
  | .agg cs => .v true (cs.toList.map Cell.of)
  | u => .v false [Cell.of u]

def oneV : Value → Bool
  | .agg _ => false
  | .tuple _ => false
  | _ => true
def plainV : Value → Bool
  | .agg cs => cs.toList.all oneV
  | .tuple _ => false
  | _ => true

abbrev Env := Nat → Option Slot
def opd (env : Env) : Operand → Option Slot
  | .tmp t => env t
  | .const v => if plainV v = true then some (Slot.of v) else none
  | .global g => some (.v false [.val (.pointer (some ⟨g, 0, none⟩))])
  | .func f => some (.v false [.val (.func (.func f) #[] #[])])

/-! ## Shapes: typed states -/
inductive CSh where
  | int (k : IntKind) | bool | str | val | fn (f : Nat) | sl (e : Nat) (t : Ty) | ref (l : Nat) | ptr (l off : Nat) | ifc | np (l : Nat)
inductive SSh where
  | v (agg : Bool) (cs : List CSh)
  | tup (l : List (Bool × List CSh))
inductive OSh where
  | box (e : Nat) (cs : List CSh)
  | arr (e : Nat) (t : Ty)
  | mp (g : Bool) (t : Ty)
/-- slots; objects (the mark: it keeps its name); slots that stay as they are; how many names; objects by their names here -/
structure Sh where
  sl : List (Nat × SSh)
  ob : List (Nat × Bool × OSh)
  kp : List Nat
  nn : Nat
  fx : List (Nat × Nat)

@[reducible] def TL : List CSh → Type → Type
  | [], τ => τ
  | .int _ :: r, τ => Int × TL r τ
  | .bool :: r, τ => Bool × TL r τ
  | .str :: r, τ => ByteArray × TL r τ
  | .val :: r, τ => Value × TL r τ
  | .sl _ t :: r, τ => List t.T × TL r τ
  | .fn _ :: r, τ => TL r τ
  | .ref _ :: r, τ => TL r τ
  | .ptr _ _ :: r, τ => TL r τ
  | .ifc :: r, τ => Bool × TL r τ
  | .np _ :: r, τ => TL r τ
@[reducible] def TLs : List (Bool × List CSh) → Type → Type
  | [], τ => τ
  | (_, cs) :: r, τ => TL cs (TLs r τ)
@[reducible] def TSl : List (Nat × SSh) → Type → Type
  | [], τ => τ
  | (_, .v _ cs) :: r, τ => TL cs (TSl r τ)
  | (_, .tup l) :: r, τ => TLs l (TSl r τ)
@[reducible] def TO : List (Nat × Bool × OSh) → Type
  | [] => Unit
  | (_, _, .box _ cs) :: r => TL cs (TO r)
  | (_, _, .arr _ t) :: r => List t.T × TO r
  | (_, _, .mp _ t) :: r => List (ByteArray × t.T) × TO r
@[reducible] def TS (s : Sh) : Type := TSl s.sl (TO s.ob)

abbrev Ren := Nat → Option Nat

def hdInt (k : IntKind) : List Cell → Option (Int × List Cell)
  | .int l i :: c => if kb k l = true then some (i, c) else none
  | _ => none
def hdBool : List Cell → Option (Bool × List Cell)
  | .bool b :: c => some (b, c)
  | _ => none
def hdStr : List Cell → Option (ByteArray × List Cell)
  | .str b :: c => some (b, c)
  | _ => none
def hdRaw : List Cell → Option (Value × List Cell)
  | x :: c => match x.raw with | some v => some (v, c) | none => none
  | _ => none
def hdSl (hp : Heap) (e : Nat) (t : Ty) : List Cell → Option (List t.T × List Cell)
  | x :: c => match coSl e t hp x with | some xs => some (xs, c) | none => none
  | _ => none
def hdFn (f : Nat) : List Cell → Option (List Cell)
  | .val (.func (.func g) ⟨[]⟩ ⟨[]⟩) :: c => if Nat.beq f g = true then some c else none
  | _ => none
def hdRef (ren : Ren) (l : Nat) : List Cell → Option (List Cell)
  | .ref m :: c => match ren l with | some m' => if Nat.beq m m' = true then some c else none | none => none
  | .val (.slice none 0 0) :: c => match ren l with | some _ => none | none => some c
  | _ => none
def hdPtr (ren : Ren) (l o : Nat) : List Cell → Option (List Cell)
  | .ptr m p :: c => match ren l with
    | some m' => if (Nat.beq m m' && Nat.beq o p) = true then some c else none
    | none => none
  | _ => none
def hdIfc : List Cell → Option (Bool × List Cell)
  | .ifc b :: c => some (b, c)
  | .val .nilIface :: c => some (true, c)
  | .val (.iface _ _) :: c => some (false, c)
  | _ => none
def hdNp (ren : Ren) (l : Nat) : List Cell → Option (List Cell)
  | .np m :: c => match ren l with
    | some m' => if Nat.beq m m' = true then some c else none
    | none => none
  | .ptr m 0 :: c => match ren l with
    | some m' => if Nat.beq m m' = true then some c else none
    | none => none
  | .val (.pointer none) :: c => match ren l with
    | some _ => some c
    | none => none
  | _ => none
def hdNil : List Cell → Bool
  | [] => true
  | _ => false
def toC (hp : Heap) (ren : Ren) : {τ : Type} → (cs : List CSh) → List Cell → Option τ → Option (TL cs τ)
  | _, [], c, q => if hdNil c = true then q else none
  | _, .int k :: r, c, q => match hdInt k c with | some (i, d) => (match toC hp ren r d q with | some y => some (i, y) | none => none) | none => none
  | _, .bool :: r, c, q => match hdBool c with | some (i, d) => (match toC hp ren r d q with | some y => some (i, y) | none => none) | none => none
  | _, .str :: r, c, q => match hdStr c with | some (i, d) => (match toC hp ren r d q with | some y => some (i, y) | none => none) | none => none
  | _, .val :: r, c, q => match hdRaw c with | some (i, d) => (match toC hp ren r d q with | some y => some (i, y) | none => none) | none => none
  | _, .sl e t :: r, c, q => match hdSl hp e t c with | some (i, d) => (match toC hp ren r d q with | some y => some (i, y) | none => none) | none => none
  | _, .fn f :: r, c, q => match hdFn f c with | some d => toC hp ren r d q | none => none
  | _, .ref l :: r, c, q => match hdRef ren l c with | some d => toC hp ren r d q | none => none
  | _, .ptr l o :: r, c, q => match hdPtr ren l o c with | some d => toC hp ren r d q | none => none
  | _, .ifc :: r, c, q => match hdIfc c with | some (i, d) => (match toC hp ren r d q with | some y => some (i, y) | none => none) | none => none
  | _, .np l :: r, c, q => match hdNp ren l c with | some d => toC hp ren r d q | none => none

def toCs (hp : Heap) (ren : Ren) : {τ : Type} → (l : List (Bool × List CSh)) → List (Bool × List Cell) → Option τ → Option (TLs l τ)
  | _, [], [], k => k
  | _, (a, cs) :: r, (b, ds) :: c, k => if (a == b) = true then toC hp ren cs ds (toCs hp ren r c k) else none
  | _, _, _, _ => none

def toSl (env : Env) (hp : Heap) (ren : Ren) : {τ : Type} → (l : List (Nat × SSh)) → Option τ → Option (TSl l τ)
  | _, [], k => k
  | _, (t, .v a cs) :: r, k => match env t with
    | some (.v b ds) => if (a == b) = true then toC hp ren cs ds (toSl env hp ren r k) else none
    | _ => none
  | _, (t, .tup l) :: r, k => match env t with
    | some (.tup ds) => toCs hp ren l ds (toSl env hp ren r k)
    | _ => none

def castM (t u : Ty) (h : t.b u = true) (xs : List (ByteArray × t.T)) : List (ByteArray × u.T) := Ty.b_eq h ▸ xs
def sameMp (a b : Bool) (t u : Ty) (xs : List (ByteArray × u.T)) : Option (List (ByteArray × t.T)) :=
  if (a == b) = true then (if h : u.b t = true then some (castM u t h xs) else none) else none
def toO (hp : Heap) (ren : Ren) : (l : List (Nat × Bool × OSh)) → Option (TO l)
  | [] => some ()
  | (l, _, .box e cs) :: r => match ren l with
    | some m => match hp m with
      | some (.box f ds) => if Nat.beq e f = true then toC hp ren cs ds (toO hp ren r) else none
      | _ => none
    | none => none
  | (l, _, .arr e t) :: r => match ren l with
    | some m => match hp m with
      | some (.arr f u xs) => (match sameSl e t f u xs with
        | some ys => (match toO hp ren r with | some y => some (ys, y) | none => none)
        | none => none)
      | _ => none
    | none => match toO hp ren r with | some y => some ([], y) | none => none
  | (l, _, .mp g t) :: r => match ren l with
    | some m => match hp m with
      | some (.mp f u xs) => (match sameMp g f t u xs with
        | some ys => (match toO hp ren r with | some y => some (ys, y) | none => none)
        | none => none)
      | _ => none
    | none => none

/-- where the names of a shape are found -/
def renC : List CSh → List Cell → List (Nat × Nat)
  | .ref l :: r, .ref m :: c => (l, m) :: renC r c
  | .ptr l _ :: r, .ptr m _ :: c => (l, m) :: renC r c
  | _ :: r, _ :: c => renC r c
  | _, _ => []
def renCs : List (Bool × List CSh) → List (Bool × List Cell) → List (Nat × Nat)
  | (_, cs) :: r, (_, ds) :: c => renC cs ds ++ renCs r c
  | _, _ => []
def renSl (env : Env) : List (Nat × SSh) → List (Nat × Nat)
  | [] => []
  | (t, .v _ cs) :: r => (match env t with | some (.v _ ds) => renC cs ds | _ => []) ++ renSl env r
  | (t, .tup l) :: r => (match env t with | some (.tup ds) => renCs l ds | _ => []) ++ renSl env r
def renAt : List (Nat × Nat) → Nat → Option Nat
  | [], _ => none
  | (l, m) :: r, k => if Nat.beq l k = true then some m else renAt r k
def renO (hp : Heap) : List (Nat × Bool × OSh) → List (Nat × Nat) → List (Nat × Nat)
  | [], a => a
  | (l, _, .box _ cs) :: r, a => renO hp r (match renAt a l with
    | some m => (match hp m with | some (.box _ ds) => a ++ renC cs ds | _ => a)
    | none => a)
  | _ :: r, a => renO hp r a
def renFx (hp : Heap) : List (Nat × Nat) → List (Nat × Nat)
  | [] => []
  | (l, m) :: r => match hp m with
    | some _ => (l, m) :: renFx hp r
    | none => renFx hp r
def renOf (sh : Sh) (env : Env) (hp : Heap) : Ren := renAt (renO hp sh.ob (renFx hp sh.fx ++ renSl env sh.sl))

def notIn (ren : Ren) (m : Nat) : List (Nat × Bool × OSh) → Bool
  | [] => true
  | (l, _) :: r => (match ren l with | some k => !Nat.beq k m | none => true) && notIn ren m r
def injO (ren : Ren) : List (Nat × Bool × OSh) → Bool
  | [] => true
  | (l, _) :: r => (match ren l with | some m => notIn ren m r | none => true) && injO ren r
/-- the cells of a state that are taken as data: their names -/
def frzC (hp : Heap) : List CSh → List Cell → Ups
  | .sl _ _ :: r, c :: d => frzs hp [c] ++ frzC hp r d
  | _ :: r, _ :: d => frzC hp r d
  | _, _ => []
def frzCs (hp : Heap) : List (Bool × List CSh) → List (Bool × List Cell) → Ups
  | (_, cs) :: r, (_, ds) :: c => frzC hp cs ds ++ frzCs hp r c
  | _, _ => []
def frzSl (env : Env) (hp : Heap) : List (Nat × SSh) → Ups
  | [] => []
  | (t, .v _ cs) :: r => (match env t with | some (.v _ ds) => frzC hp cs ds | _ => []) ++ frzSl env hp r
  | (t, .tup l) :: r => (match env t with | some (.tup ds) => frzCs hp l ds | _ => []) ++ frzSl env hp r
def frzO (hp : Heap) (ren : Ren) : List (Nat × Bool × OSh) → Ups
  | [] => []
  | (l, _, .box _ cs) :: r => (match ren l with
    | some m => (match hp m with | some (.box _ ds) => frzC hp cs ds | _ => [])
    | none => []) ++ frzO hp ren r
  | _ :: r => frzO hp ren r
/-- what leaves the heap where a state is taken: what becomes data; then the shape's own objects -/
def goneO (ren : Ren) : List (Nat × Bool × OSh) → Ups
  | [] => []
  | (l, _) :: r => (match ren l with | some m => [(m, none)] | none => []) ++ goneO ren r
def leave (sh : Sh) (env : Env) (hp : Heap) : Ups :=
  (frzSl env hp sh.sl ++ frzO hp (renOf sh env hp) sh.ob) ++ goneO (renOf sh env hp) sh.ob

/-- what leaves the elder heap at a join: the shape's own objects, and the own arrays in slots that are taken as data -/
def goneJ (sh : Sh) (env : Env) (hp : Heap) : Ups := goneO (renOf sh env hp) sh.ob ++ (frzSl env hp sh.sl).map fun p => (p.1, none)

def apartN : List Nat → List Nat → Bool
  | [], _ => true
  | x :: r, l => !memN x l && apartN r l
def frzSh (sh : Sh) (env : Env) (hp : Heap) : Ups := frzSl env hp sh.sl ++ frzO hp (renOf sh env hp) sh.ob
/-- a state as a shape's: its names are unlike each other, and none is taken as data -/
def toSt (sh : Sh) (env : Env) (hp : Heap) : Option (TS sh) :=
  if (injO (renOf sh env hp) sh.ob && apartN (names (frzSh sh env hp)) (names (goneO (renOf sh env hp) sh.ob))) = true then
    toSl env hp (renOf sh env hp) sh.sl (toO hp (renOf sh env hp) sh.ob) else none

def put {α : Type} (f : Nat → Option α) (t : Nat) (s : Option α) : Nat → Option α := fun i => if Nat.beq i t = true then s else f i
def ups (hp : Heap) : Ups → Heap
  | [] => hp
  | (l, o) :: r => ups (put hp l o) r

def ofC (f : Nat → Nat) : {τ : Type} → (cs : List CSh) → TL cs τ → List Cell × τ
  | _, [], y => ([], y)
  | _, .int k :: r, x => (.int k x.1 :: (ofC f r x.2).1, (ofC f r x.2).2)
  | _, .bool :: r, x => (.bool x.1 :: (ofC f r x.2).1, (ofC f r x.2).2)
  | _, .str :: r, x => (.str x.1 :: (ofC f r x.2).1, (ofC f r x.2).2)
  | _, .val :: r, x => (.val x.1 :: (ofC f r x.2).1, (ofC f r x.2).2)
  | _, .sl e t :: r, x => (.sl e t x.1 :: (ofC f r x.2).1, (ofC f r x.2).2)
  | _, .fn g :: r, x => (.val (.func (.func g) #[] #[]) :: (ofC f r x).1, (ofC f r x).2)
  | _, .ref l :: r, x => (.ref (f l) :: (ofC f r x).1, (ofC f r x).2)
  | _, .ptr l o :: r, x => (.ptr (f l) o :: (ofC f r x).1, (ofC f r x).2)
  | _, .ifc :: r, x => (.ifc x.1 :: (ofC f r x.2).1, (ofC f r x.2).2)
  | _, .np l :: r, x => (.np (f l) :: (ofC f r x).1, (ofC f r x).2)
def ofCs (f : Nat → Nat) : {τ : Type} → (l : List (Bool × List CSh)) → TLs l τ → List (Bool × List Cell) × τ
  | _, [], y => ([], y)
  | _, (a, cs) :: r, x => ((a, (ofC f cs x).1) :: (ofCs f r (ofC f cs x).2).1, (ofCs f r (ofC f cs x).2).2)
/-- slots laid over an environment; what is left -/
def ofSl (f : Nat → Nat) (env : Env) : {τ : Type} → (l : List (Nat × SSh)) → TSl l τ → Env × τ
  | _, [], y => (env, y)
  | _, (t, .v a cs) :: r, x => (put (ofSl f env r (ofC f cs x).2).1 t (some (.v a (ofC f cs x).1)), (ofSl f env r (ofC f cs x).2).2)
  | _, (t, .tup l) :: r, x => (put (ofSl f env r (ofCs f l x).2).1 t (some (.tup (ofCs f l x).1)), (ofSl f env r (ofCs f l x).2).2)
def ofO (f : Nat → Nat) (hp : Heap) : (l : List (Nat × Bool × OSh)) → TO l → Heap
  | [], _ => hp
  | (l, _, .box e cs) :: r, x => put (ofO f hp r (ofC f cs x).2) (f l) (some (.box e (ofC f cs x).1))
  | (l, _, .arr e t) :: r, x => put (ofO f hp r x.2) (f l) (some (.arr e t x.1))
  | (l, _, .mp g t) :: r, x => put (ofO f hp r x.2) (f l) (some (.mp g t x.1))
def keepE (kp : List Nat) (env : Env) : Env := fun t => if memN t kp = true then env t else none
def shEnv (sh : Sh) (f : Nat → Nat) (env : Env) (x : TS sh) : Env := (ofSl f (keepE sh.kp env) sh.sl x).1
def shHp (sh : Sh) (f : Nat → Nat) (hp : Heap) (env : Env) (x : TS sh) : Heap := ofO f hp sh.ob (ofSl f (keepE sh.kp env) sh.sl x).2

/-- names of a shape in a state: kept, or new ones from nx on -/
def instN (ren : Ren) (nx : Nat) : List (Nat × Bool × OSh) → Nat → Nat
  | [], l => nx + l
  | (m, k, _) :: r, l => if Nat.beq m l = true then (match k with
      | true => (match ren l with | some a => a | none => nx + l)
      | false => nx + l) else instN ren nx r l

/-! ## Operations -/
structure Res where
  c : Bool
  s : Option Slot
  up : Ups
  nw : Nat
abbrev rOk (s : Slot) : Option Res := some ⟨true, some s, [], 0⟩
abbrev rC (c : Bool) (k : Cell) : Option Res := some ⟨c, some (.v false [k]), [], 0⟩

def binI (op : BinOp) (k : IntKind) (a b : Int) : Option (Bool × Cell) :=
  match op with
  | .add => some (true, .int k (k.wrap (a + b)))
  | .sub => some (true, .int k (k.wrap (a - b)))
  | .mul => some (true, .int k (k.wrap (a * b)))
  | .quo => some (!decide (b = 0), .int k (k.wrap (a.tdiv b)))
  | .rem => some (!decide (b = 0), .int k (a.tmod b))
  | .and => some (true, .int k (k.wrap (BitVec.ofInt k.bits a &&& BitVec.ofInt k.bits b).toNat))
  | .or => some (true, .int k (k.wrap (BitVec.ofInt k.bits a ||| BitVec.ofInt k.bits b).toNat))
  | .xor => some (true, .int k (k.wrap (BitVec.ofInt k.bits a ^^^ BitVec.ofInt k.bits b).toNat))
  | .andNot => some (true, .int k (k.wrap (BitVec.ofInt k.bits a &&& ~~~ (BitVec.ofInt k.bits b)).toNat))
  | .eql => some (true, .bool (a == b))
  | .neq => some (true, .bool (a != b))
  | .lss => some (true, .bool (decide (a < b)))
  | .leq => some (true, .bool (decide (a ≤ b)))
  | .gtr => some (true, .bool (decide (a > b)))
  | .geq => some (true, .bool (decide (a ≥ b)))
  | _ => none
def binS (op : BinOp) (a b : ByteArray) : Option (Bool × Cell) :=
  match op with
  | .add => some (!decide (((a.size + b.size : Nat) : Int) > IntKind.i64.max), .str (a ++ b))
  | .eql => some (true, .bool (a.toList == b.toList))
  | .neq => some (true, .bool (!(a.toList == b.toList)))
  | .lss => some (true, .bool (Op.bytesLess a.toList b.toList))
  | .leq => some (true, .bool (Op.bytesLess a.toList b.toList || a.toList == b.toList))
  | .gtr => some (true, .bool (!(Op.bytesLess a.toList b.toList || a.toList == b.toList)))
  | .geq => some (true, .bool (!Op.bytesLess a.toList b.toList))
  | _ => none
def shI (op : BinOp) (k : IntKind) (a b : Int) : Option (Bool × Cell) :=
  match op with
  | .shl => some (!decide (b < 0), .int k (k.wrap (a * 2 ^ min b.toNat k.bits)))
  | .shr => some (!decide (b < 0), .int k (a.fdiv (2 ^ min b.toNat k.bits)))
  | _ => none

/-- '==' of data of a scalar type -/
def Ty.eq : (t : Ty) → t.T → t.T → Bool
  | .int _, x, y => x == y
  | .bool, x, y => x == y
  | .str, x, y => x == y
  | .pair a b, x, y => a.eq x.1 y.1 && b.eq x.2 y.2
  | _, _, _ => true

structure Spec where
  n : Nat
  si : Sh
  so : Sh
  F : TS si → Option (TS so)

/-- a contract of a function that may panic, with a number -/
structure SpecP where
  n : Nat
  si : Sh
  so : Sh
  F : TS si → Option (TS so ⊕ Int)
/-- what is panicked with -/
def bpan (t : Nat) (n : Int) : Value := .iface t (.agg ⟨[.int .i64 n]⟩)

structure Fn where
  code : Code
  res : List ResultVar

structure Cx where
  tab : Nat → Option TI
  eqs : Nat → Option Ty
  spec : Nat → List (Option Slot) → Heap → Option Spec
  pan : Nat
  specP : Nat → List (Option Slot) → Heap → Option SpecP
abbrev cx3 (tab : Nat → Option TI) (eqs : Nat → Option Ty) (spec : Nat → List (Option Slot) → Heap → Option Spec) : Cx := ⟨tab, eqs, spec, 0, fun _ _ _ => none⟩

def cells1 : Option Slot → Option Cell
  | some (.v false [c]) => some c
  | _ => none
def cellsOf : Option Slot → Option (List Cell)
  | some (.v _ cs) => some cs
  | _ => none

def rB : Option (Bool × Cell) → Option Res
  | some (c, k) => rC c k
  | none => none

def ofBin (cx : Cx) (op : BinOp) (t : Nat) : Option Slot → Option Slot → Option Res
  | some (.v false [.int k a]), some (.v false [.int l b]) =>
    match op with
    | .shl => rB (shI .shl k a b)
    | .shr => rB (shI .shr k a b)
    | _ => if kb k l = true then rB (binI op k a b) else none
  | some (.v false [.str a]), some (.v false [.str b]) => rB (binS op a b)
  | some (.v false [.bool a]), some (.v false [.bool b]) =>
    match cx.tab t with
    | some { kind := .bool, .. } => (match op with
      | .eql => rC true (.bool (a == b))
      | .neq => rC true (.bool (!(a == b)))
      | _ => none)
    | _ => none
  | some (.v true xs), some (.v true ys) =>
    match cx.eqs t with
    | some ty => match ty.co (fun _ => none) xs, ty.co (fun _ => none) ys with
      | some x, some y => (match op with
        | .eql => rC true (.bool (ty.eq x y))
        | .neq => rC true (.bool (!ty.eq x y))
        | _ => none)
      | _, _ => none
    | none => none
  | _, _ => none

def sliceLen (hp : Heap) : Cell → Option Nat
  | .sl _ _ xs => some xs.length
  | .ref l => match hp l with
    | some (.arr _ _ xs) => some xs.length
    | some (.frz _ _ xs) => some xs.length
    | _ => none
  | .sub _ _ _ len => some len
  | .val (.slice none 0 0) => some 0
  | _ => none

def byteAt (s : ByteArray) (i : Nat) : Int := (s.data.toList.getD i 0).toNat

def splice (cs : List Cell) (off : Nat) (ds : List Cell) : List Cell := cs.take off ++ ds ++ cs.drop (off + ds.length)

def coAll (hp : Heap) (t : Ty) : List (List Cell) → Option (List t.T)
  | [] => some []
  | c :: r => match t.co hp c, coAll hp t r with
    | some x, some xs => some (x :: xs)
    | _, _ => none

def partsCells (env : Operand → Option Slot) : Nat → List (Nat × Operand) → Option (List (List Cell))
  | _, [] => some []
  | i, (j, x) :: r => if Nat.beq i j = true then (match cellsOf (env x), partsCells env (i + 1) r with
    | some c, some cs => some (c :: cs)
    | _, _ => none) else none

/-- an array's elements: type and place -/
def arrFs (n e size : Nat) : List (Nat × Nat) := (List.range n).map fun k => (e, k * size)
/-- a struct's cells with some fields laid -/
def fillC (env : Operand → Option Slot) (fs : List (Nat × Nat)) (tab : Nat → Option TI) : List Cell → List (Nat × Operand) → Option (List Cell)
  | cs, [] => some cs
  | cs, (j, x) :: r => match fs[j]?, cellsOf (env x) with
    | some (t, off), some ds => (match tab t with
      | some i => if Nat.beq ds.length i.size = true then (if (off + i.size).ble cs.length = true then fillC env fs tab (splice cs off ds) r else none) else none
      | none => none)
    | _, _ => none

def loadFrom (i : TI) (cs : List Cell) (off : Nat) : Option Res :=
  if (off + i.size).ble cs.length = true then
    (if i.agg = true then rOk (.v true ((cs.drop off).take i.size)) else rOk (.v false ((cs.drop off).take i.size)))
  else none

def bound (env : Operand → Option Slot) (d : Int) : Option Operand → Option Int
  | none => some d
  | some x => match cells1 (env x) with
    | some (.int _ i) => some i
    | _ => none

def evAppend (cx : Cx) (nm : Nat) (hp : Heap) (t : Nat) (s x : Cell) : Option Res :=
  match cx.tab t with
  | some { kind := .sl e, .. } =>
    match cx.tab e with
    | some { ty := some ty, cap := cap, .. } =>
      match coSl e ty hp x with
      | some ys =>
        match s with
        | .ref l => (match hp l with
          | some (.arr f u xs) => (match sameSl e ty f u xs with
            | some xs' => some ⟨(xs'.length + ys.length).ble cap, some (.v false [.ref nm]), [(l, none), (nm, some (.arr e ty (xs' ++ ys)))], 1⟩
            | none => none)
          | _ => none)
        | .val (.slice none 0 0) => some ⟨ys.length.ble cap, some (.v false [.ref nm]), [(nm, some (.arr e ty ys))], 1⟩
        | _ => none
      | none => none
    | _ => none
  | _ => none

def evClear (cx : Cx) (hp : Heap) (t : Nat) : Option Cell → Option Res
  | some (.sub l n lo len) => match cx.tab t, hp l with
    | some { kind := .sl e, .. }, some (.arr f u xs) => match cx.tab e with
      | some i => if (Nat.beq n u.n && Nat.beq i.size u.n) = true then (match u.co (fun _ => none) (i.zero.map Cell.of) with
        | some z => some ⟨true, some (.tup []), [(l, some (.arr f u (xs.take lo ++ List.replicate len z ++ xs.drop (lo + len))))], 0⟩
        | none => none) else none
      | none => none
    | _, _ => none
  | _ => none

def cellArgs (env : Operand → Option Slot) : List Operand → Option (List Cell)
  | [] => some []
  | x :: r => match cells1 (env x), cellArgs env r with
    | some c, some l => some (c :: l)
    | _, _ => none

def elemN (cx : Cx) (e n : Nat) : Bool := match cx.tab e with | some i => Nat.beq i.size n | none => false

def raws : List Cell → Option (List Value)
  | [] => some []
  | c :: r => match c.raw, raws r with
    | some v, some vs => some (v :: vs)
    | _, _ => none
def rawV : Bool → List Value → Option Value
  | true, vs => some (.agg ⟨vs⟩)
  | false, [v] => some v
  | _, _ => none
def TK.conc : TK → Bool
  | .other => false
  | .ifc => false
  | _ => true
/-- a concrete type's value -/
def rawS : Option Slot → Option Value
  | some (.v a cs) => match raws cs with
    | some vs => rawV a vs
    | none => none
  | _ => none

/-! maps by texts -/
def getKV {α : Type} (s : ByteArray) : List (ByteArray × α) → Option α
  | [] => none
  | (k, x) :: r => if k = s then some x else getKV s r
def putKV {α : Type} (s : ByteArray) (y : α) : List (ByteArray × α) → List (ByteArray × α)
  | [] => [(s, y)]
  | (k, x) :: r => if k = s then (k, y) :: r else (k, x) :: putKV s y r
def evMake (cx : Cx) (nm : Nat) (t : Nat) : Option Res := match cx.tab t with
  | some { kind := .map k e, .. } => (match cx.tab k, cx.tab e with
    | some { kind := .str, .. }, some i => (match i.ty with
      | some ty => some ⟨true, some (.v false [.ref nm]), [(nm, some (.mp i.agg ty []))], 1⟩
      | none => none)
    | _, _ => none)
  | _ => none
def evInsert (cx : Cx) (hp : Heap) (t : Nat) (m k : Option Cell) (x : Option Slot) : Option Res := match cx.tab t, m, k, x with
  | some { kind := .map kt e, .. }, some (.ref l), some (.str s), some (.v a cs) => (match cx.tab kt, hp l with
    | some { kind := .str, .. }, some (.mp b u kvs) => if (a == b && !memN l (names (frzs hp cs))) = true then (match u.co hp cs with
      | some y => some ⟨true, none, frzs hp cs ++ [(l, some (.mp b u (putKV s y kvs)))], 0⟩
      | none => none) else none
    | _, _ => none)
  | _, _, _, _ => none
def evLookup (cx : Cx) (hp : Heap) (t : Nat) (m k : Option Cell) (two : Bool) : Option Res := match cx.tab t, m, k with
  | some { kind := .map kt e, .. }, some (.ref l), some (.str s) => (match cx.tab kt, cx.tab e, hp l with
    | some { kind := .str, .. }, some i, some (.mp b u kvs) => if (b == i.agg) = true then (match u.co (fun _ => none) (i.zero.map Cell.of) with
      | some z => some ⟨true, some (match two with
          | true => .tup [(b, u.ex ((getKV s kvs).getD z)), (false, [.bool (getKV s kvs).isSome])]
          | false => .v b (u.ex ((getKV s kvs).getD z))), [], 0⟩
      | none => none) else none
    | _, _, _ => none)
  | _, _, _ => none
/-- an interface against nil -/
def ifcB : Option Cell → Option Bool
  | some (.ifc b) => some b
  | some (.val .nilIface) => some true
  | some (.val (.iface _ _)) => some false
  | _ => none
def ifcX (cx : Cx) (op : BinOp) (t : Nat) (y : Operand) (c : Option Cell) : Option Bool := match cx.tab t, op, y, ifcB c with
  | some { kind := .ifc, .. }, .eql, .const .nilIface, some b => some b
  | some { kind := .ifc, .. }, .neq, .const .nilIface, some b => some (!b)
  | _, _, _, _ => none
/-- 'v, ok := x.(T)' of an interface that holds a T -/
def evAssert (cx : Cx) (t : Nat) (c : Option Cell) : Option Res := match cx.tab t, c with
  | some i, some (.val (.iface u v)) => if (i.kind.conc && (Nat.beq u t && plainV v)) = true then (match Slot.of v with
    | .v a cs => rOk (.tup [(a, cs), (false, [.bool true])])
    | _ => none) else none
  | _, _ => none
def evOp (cx : Cx) (nm : Nat) (op : Op) (env : Operand → Option Slot) (hp : Heap) : Option Res :=
  match op with
  | .move x => some ⟨true, env x, [], 0⟩
  | .assign x => some ⟨true, env x, [], 0⟩
  | .pick c a b => match env c with
    | some (.v false [.bool v]) => some ⟨true, (match v with | true => env a | false => env b), [], 0⟩
    | _ => none
  | .alloc e => match cx.tab e with
    | some i => some ⟨true, some (.v false [.ptr nm 0]), [(nm, some (.box e (i.zero.map Cell.of)))], 1⟩
    | none => none
  | .box e x => match cx.tab e, cellsOf (env x) with
    | some i, some cs => if Nat.beq cs.length i.size = true then some ⟨true, some (.v false [.ptr nm 0]), [(nm, some (.box e cs))], 1⟩ else none
    | _, _ => none
  | .build t parts => match cx.tab t with
    | some { kind := .st fs, zero := zero, .. } => (match fillC env fs cx.tab (zero.map Cell.of) parts.toList with
      | some cs => rOk (.v true cs)
      | none => none)
    | some { kind := .arr n e, zero := zero, .. } => (match cx.tab e with
      | some j => (match fillC env (arrFs n e j.size) cx.tab (zero.map Cell.of) parts.toList with
        | some cs => rOk (.v true cs)
        | none => none)
      | none => none)
    | _ => none
  | .buildSlice t len parts => match cx.tab t with
    | some { kind := .sl e, .. } => (match cx.tab e with
      | some { ty := some ty, size := size, .. } => (match partsCells env 0 parts.toList with
        | some cs => if (Nat.beq cs.length len && (len * size).ble 16777216) = true then (match coAll hp ty cs with
          | some xs => some ⟨true, some (.v false [.ref nm]), frzs hp cs.flatten ++ [(nm, some (.arr e ty xs))], 1⟩
          | none => none) else none
        | none => none)
      | _ => none)
    | _ => none
  | .load t a => match cx.tab t, cells1 (env a) with
    | some i, some (.ptr l off) => (match hp l with
      | some (.box _ cs) => loadFrom i cs off
      | _ => none)
    | some i, some (.rdp u x off) => loadFrom i (u.ex x) off
    | some i, some (.elp l n j off) => (match hp l with
      | some (.arr _ u xs) => if Nat.beq n u.n = true then loadFrom i (u.ex (xs.getD j u.z)) off else none
      | some (.frz _ u xs) => if Nat.beq n u.n = true then loadFrom i (u.ex (xs.getD j u.z)) off else none
      | _ => none)
    | _, _ => none
  | .store t a x => match cx.tab t, cells1 (env a), cellsOf (env x) with
    | some i, some (.ptr l off), some ds => (match hp l with
      | some (.box e cs) => if Nat.beq ds.length i.size = true then (if (off + i.size).ble cs.length = true then
          some ⟨true, none, [(l, some (.box e (splice cs off ds)))], 0⟩ else none) else none
      | _ => none)
    | some i, some (.elp l n j off), some ds => (match hp l with
      | some (.arr e u xs) => if (Nat.beq n u.n && (Nat.beq ds.length i.size && !memN l (names (frzs hp ds)))) = true then (if (off + i.size).ble u.n = true then
          (match u.co hp (splice (u.ex (xs.getD j u.z)) off ds) with
          | some y => some ⟨true, none, frzs hp ds ++ [(l, some (.arr e u (xs.set j y)))], 0⟩
          | none => none) else none) else none
      | _ => none)
    | _, _, _ => none
  | .nilCheck x => match cells1 (env x) with
    | some (.ptr l o) => rC true (.ptr l o)
    | some (.rdp t x o) => rC true (.rdp t x o)
    | some (.elp l n i o) => rC true (.elp l n i o)
    | some (.val (.func (.func f) ⟨[]⟩ ⟨[]⟩)) => rC true (.val (.func (.func f) #[] #[]))
    | _ => none
  | .binOp op t x y _ => match ifcX cx op t y (cells1 (env x)) with
    | some b => rC true (.bool b)
    | none => ofBin cx op t (env x) (env y)
  | .unOp op _ x => match op, cells1 (env x) with
    | .not, some (.bool b) => rC true (.bool (!b))
    | .neg, some (.int k a) => rC true (.int k (k.wrap (0 - a)))
    | _, _ => none
  | .convert s d x => match cx.tab s, cx.tab d, cells1 (env x) with
    | some { kind := .int _, .. }, some { kind := .int k, .. }, some (.int _ a) => rC true (.int k (k.wrap a))
    | some { kind := .str, .. }, some { kind := .str, .. }, some (.str a) => rC true (.str a)
    | _, _, _ => none
  | .makeFunc (.func f) first caps => match cellArgs env first.toList, cellArgs env caps.toList with
    | some a, some b => some ⟨true, some (.v false [.ref nm]), [(nm, some (.clo f a b))], 1⟩
    | _, _ => none
  | .slice t x lo hi none => match cx.tab t, cells1 (env x) with
    | some { kind := .str, .. }, some (.str s) => (match bound env 0 lo, bound env s.size hi with
      | some a, some b => rC (decide (0 ≤ a) && (decide (a ≤ b) && decide (b ≤ (s.size : Int)))) (.str (s.extract a.toNat b.toNat))
      | _, _ => none)
    | some { kind := .sl e', .. }, some (.sl e u xs) => (match bound env 0 lo, bound env xs.length hi with
      | some a, some b => if elemN cx e' u.n = true then rC (decide (0 ≤ a) && (decide (a ≤ b) && decide (b ≤ (xs.length : Int)))) (.sl e u ((xs.take b.toNat).drop a.toNat)) else none
      | _, _ => none)
    | some { kind := .sl e', .. }, some (.ref l) => (match hp l with
      | some (.arr _ u xs) => (match bound env 0 lo, bound env xs.length hi with
        | some a, some b => if elemN cx e' u.n = true then rC (decide (0 ≤ a) && (decide (a ≤ b) && decide (b ≤ (xs.length : Int)))) (.sub l u.n a.toNat (b.toNat - a.toNat)) else none
        | _, _ => none)
      | some (.frz e u xs) => (match bound env 0 lo, bound env xs.length hi with
        | some a, some b => if elemN cx e' u.n = true then rC (decide (0 ≤ a) && (decide (a ≤ b) && decide (b ≤ (xs.length : Int)))) (.sl e u ((xs.take b.toNat).drop a.toNat)) else none
        | _, _ => none)
      | _ => none)
    | _, _ => none
  | .fieldAddr s x f => match cx.tab s, cells1 (env x) with
    | some { kind := .st fs, .. }, some (.ptr l o) => (match fs[f]? with | some (_, off) => rC true (.ptr l (o + off)) | none => none)
    | some { kind := .st fs, .. }, some (.rdp t x o) => (match fs[f]? with | some (_, off) => rC true (.rdp t x (o + off)) | none => none)
    | some { kind := .st fs, .. }, some (.elp l n i o) => (match fs[f]? with | some (_, off) => rC true (.elp l n i (o + off)) | none => none)
    | _, _ => none
  | .field t x f => match cx.tab t, env x with
    | some { kind := .st fs, .. }, some (.v true cs) => (match fs[f]? with
      | some (u, off) => (match cx.tab u with | some i => loadFrom i cs off | none => none)
      | none => none)
    | _, _ => none
  | .indexAddr t x i => match cx.tab t, cells1 (env x), cells1 (env i) with
    | some { kind := .sl e, .. }, some (.sl _ u xs), some (.int _ j) =>
      if elemN cx e u.n = true then rC (decide (0 ≤ j) && decide (j < (xs.length : Int))) (.rdp u (xs.getD j.toNat u.z) 0) else none
    | some { kind := .sl e, .. }, some (.ref l), some (.int _ j) => (match hp l with
      | some (.arr _ u xs) => if elemN cx e u.n = true then rC (decide (0 ≤ j) && decide (j < (xs.length : Int))) (.elp l u.n j.toNat 0) else none
      | some (.frz _ u xs) => if elemN cx e u.n = true then rC (decide (0 ≤ j) && decide (j < (xs.length : Int))) (.rdp u (xs.getD j.toNat u.z) 0) else none
      | _ => none)
    | some { kind := .sl e, .. }, some (.sub l n lo len), some (.int _ j) =>
      if elemN cx e n = true then rC (decide (0 ≤ j) && decide (j < (len : Int))) (.elp l n (lo + j.toNat) 0) else none
    | some { kind := .arr n e, .. }, some (.ptr l o), some (.int _ j) => (match cx.tab e with
      | some i => rC (decide (0 ≤ j) && decide (j < (n : Int))) (.ptr l (o + j.toNat * i.size))
      | none => none)
    | some { kind := .arr n e, .. }, some (.rdp u x o), some (.int _ j) => (match cx.tab e with
      | some i => rC (decide (0 ≤ j) && decide (j < (n : Int))) (.rdp u x (o + j.toNat * i.size))
      | none => none)
    | some { kind := .arr n e, .. }, some (.elp l n' k o), some (.int _ j) => (match cx.tab e with
      | some i => rC (decide (0 ≤ j) && decide (j < (n : Int))) (.elp l n' k (o + j.toNat * i.size))
      | none => none)
    | _, _, _ => none
  | .index t x i => match cx.tab t, cells1 (env x), cells1 (env i) with
    | some { kind := .str, .. }, some (.str s), some (.int _ j) =>
      rC (decide (0 ≤ j) && decide (j < (s.size : Int))) (.int .u8 (byteAt s j.toNat))
    | _, _, _ => none
  | .makeMap t none => evMake cx nm t
  | .typeAssert x _ t true => evAssert cx t (cells1 (env x))
  | .insert t m k x => evInsert cx hp t (cells1 (env m)) (cells1 (env k)) (env x)
  | .mapUpdate t m k x => evInsert cx hp t (cells1 (env m)) (cells1 (env k)) (env x)
  | .lookup t m k two => evLookup cx hp t (cells1 (env m)) (cells1 (env k)) two
  | .makeInterface t x => match cx.tab t, rawS (env x) with
    | some i, some v => if i.kind.conc = true then rC true (.val (.iface t v)) else none
    | _, _ => none
  | .extract x i => match env x with
    | some (.tup l) => (match l[i]? with | some (a, cs) => rOk (.v a cs) | none => none)
    | _ => none
  | .call { callee := .builtin .len, args, argTypes } => match argTypes.toList, args.toList with
    | [t], [x] => (match cx.tab t, cells1 (env x) with
      | some { kind := .sl _, .. }, some c => (match sliceLen hp c with | some n => rC true (.int .i64 n) | none => none)
      | some { kind := .str, .. }, some (.str s) => rC true (.int .i64 s.size)
      | _, _ => none)
    | _, _ => none
  | .call { callee := .builtin .append, args, argTypes } => match argTypes.toList, args.toList with
    | [t, u], [s, x] => if Nat.beq t u = true then (match cells1 (env s), cells1 (env x) with
      | some a, some b => evAppend cx nm hp t a b
      | _, _ => none) else none
    | _, _ => none
  | .call { callee := .builtin .clear, args, argTypes } => match argTypes.toList, args.toList with
    | [t], [x] => evClear cx hp t (cells1 (env x))
    | _, _ => none
  | _ => none

/-! ## Calls by a contract -/
def renCell (f : Nat → Nat) : Cell → Cell
  | .ref l => .ref (f l)
  | .ptr l o => .ptr (f l) o
  | .np l => .np (f l)
  | c => c
def argEnv : List (Option Slot) → Env
  | [], _ => none
  | s :: _, 0 => s
  | _ :: r, n + 1 => argEnv r n
/-- how the names of what a callee leaves are called here: what came in as it was, what is new by new names -/
def backN (ren : Ren) (nm : Nat) (l : Nat) : Nat := if Nat.ble 1000 l = true then nm + (l - 1000) else match ren l with | some m => m | none => nm
def obUps (f : Nat → Nat) (hp : Heap) : List (Nat × Bool × OSh) → Ups
  | [] => []
  | (l, _) :: r => (f l, hp (f l)) :: obUps f hp r
def obNames : List (Nat × Bool × OSh) → List Nat
  | [] => []
  | (l, _) :: r => l :: obNames r
/-- each name that cells bear is new, or one of these -/
def cshIn (obs : List Nat) : List CSh → Bool
  | [] => true
  | .ref l :: r => (Nat.ble 1000 l || memN l obs) && cshIn obs r
  | .ptr l _ :: r => (Nat.ble 1000 l || memN l obs) && cshIn obs r
  | .np l :: r => (Nat.ble 1000 l || memN l obs) && cshIn obs r
  | _ :: r => cshIn obs r
def cshsIn (obs : List Nat) : List (Bool × List CSh) → Bool
  | [] => true
  | (_, cs) :: r => cshIn obs cs && cshsIn obs r
def slIn (obs : List Nat) : List (Nat × SSh) → Bool
  | [] => true
  | (_, .v _ cs) :: r => cshIn obs cs && slIn obs r
  | (_, .tup l) :: r => cshsIn obs l && slIn obs r
def obIn (obs : List Nat) : List (Nat × Bool × OSh) → Bool
  | [] => true
  | (_, _, .box _ cs) :: r => cshIn obs cs && obIn obs r
  | (_, _, .arr _ _) :: r => obIn obs r
  | (_, _, .mp _ _) :: r => obIn obs r
/-- what came in is found, what is new isn't -/
def backOk (ren : Ren) : List (Nat × Bool × OSh) → Bool
  | [] => true
  | (l, _) :: r => (if Nat.ble 1000 l = true then true else (match ren l with | some _ => true | none => false)) && backOk ren r
def soOk (so : Sh) : Bool := slIn (obNames so.ob) so.sl && obIn (obNames so.ob) so.ob

structure CRes where
  Y : Type
  v : Option Y
  out : Y → Option Slot × Ups
  nw : Nat
def cshBelow (n : Nat) : List CSh → Bool
  | [] => true
  | .ref l :: r => Nat.blt l n && cshBelow n r
  | .ptr l _ :: r => Nat.blt l n && cshBelow n r
  | .np l :: r => Nat.blt l n && cshBelow n r
  | _ :: r => cshBelow n r
def cshsBelow (n : Nat) : List (Bool × List CSh) → Bool
  | [] => true
  | (_, cs) :: r => cshBelow n cs && cshsBelow n r
def slBelow (n : Nat) : List (Nat × SSh) → Bool
  | [] => true
  | (_, .v _ cs) :: r => cshBelow n cs && slBelow n r
  | (_, .tup l) :: r => cshsBelow n l && slBelow n r
def obBelow (n : Nat) : List (Nat × Bool × OSh) → Bool
  | [] => true
  | (l, _, .box _ cs) :: r => Nat.blt l n && (cshBelow n cs && obBelow n r)
  | (l, _, .arr _ _) :: r => Nat.blt l n && obBelow n r
  | (l, _, .mp _ _) :: r => Nat.blt l n && obBelow n r
/-- a shape's names are below nn -/
def shBelow (sh : Sh) : Bool := slBelow sh.nn sh.sl && obBelow sh.nn sh.ob
def envOut (so : Sh) (f : Nat → Nat) (y : TS so) : Env := (ofSl f (fun _ => none) so.sl y).1
def hpOut (so : Sh) (f : Nat → Nat) (y : TS so) : Heap := ofO f (fun _ => none) so.ob (ofSl f (fun _ => none) so.sl y).2
def evCall (sp : Spec) (nm : Nat) (args : List (Option Slot)) (hp : Heap) : Option CRes :=
  if Nat.beq args.length sp.n = true then
  if (shBelow sp.si && (Nat.ble sp.si.nn 1000 && (soOk sp.so && backOk (renOf sp.si (argEnv args) hp) sp.so.ob))) = true then
  match toSt sp.si (argEnv args) hp with
  | some x => some ⟨TS sp.so, sp.F x, fun y =>
      (envOut sp.so (backN (renOf sp.si (argEnv args) hp) nm) y 0,
       leave sp.si (argEnv args) hp ++ obUps (backN (renOf sp.si (argEnv args) hp) nm) (hpOut sp.so (backN (renOf sp.si (argEnv args) hp) nm) y) sp.so.ob), sp.so.nn - 1000⟩
  | none => none
  else none
  else none

structure CResP where
  Y : Type
  v : Option (Y ⊕ Int)
  out : Y → Option Slot × Ups
  nw : Nat
def evCallP (sp : SpecP) (nm : Nat) (args : List (Option Slot)) (hp : Heap) : Option CResP :=
  if Nat.beq args.length sp.n = true then
  if (shBelow sp.si && (Nat.ble sp.si.nn 1000 && (soOk sp.so && backOk (renOf sp.si (argEnv args) hp) sp.so.ob))) = true then
  match toSt sp.si (argEnv args) hp with
  | some x => some ⟨TS sp.so, sp.F x, fun y =>
      (envOut sp.so (backN (renOf sp.si (argEnv args) hp) nm) y 0,
       leave sp.si (argEnv args) hp ++ obUps (backN (renOf sp.si (argEnv args) hp) nm) (hpOut sp.so (backN (renOf sp.si (argEnv args) hp) nm) y) sp.so.ob), sp.so.nn - 1000⟩
  | none => none
  else none
  else none

/-! ## Code -/
inductive Out where
  | normal (st : St)
  | exit (id : Nat) (st : St)
  | ret (st : St)
  | pan (n : Int) (st : St)

abbrev Inl := (R : Type) → Nat → List (Option Slot) → Heap → Nat → List Nat → (Option Slot → Heap → Nat → List Nat → Option R) → (Int → Heap → Nat → List Nat → Option R) → Option R

def setDst (env : Env) (d : Option Nat) (s : Option Slot) : Env := match d with
  | some t => put env t s
  | none => env

def calleeOf (hp : Heap) (f : Option Cell) (args : List (Option Slot)) : Option (Nat × List (Option Slot)) := match f with
  | some (.val (.func (.func g) ⟨[]⟩ ⟨[]⟩)) => some (g, args)
  | some (.ref l) => match hp l with
    | some (.clo g first caps) => some (g, first.map (fun c => some (.v false [c])) ++ args ++ caps.map (fun c => some (.v false [c])))
    | _ => none
  | _ => none

/-- '==' of data with the nil slice: an empty list may be nil or not -/
def nilX (cx : Cx) (t : Nat) (c : Option Cell) (q : Bool) : Option (Bool × Bool) := match cx.tab t, c with
  | some { kind := .sl _, .. }, some (.sl _ _ xs) => some (xs.isEmpty, q)
  | _, _ => none
def nilQ (cx : Cx) (env : Env) : Op → Option (Bool × Bool)
  | .binOp .eql t x (.const (.slice none 0 0)) _ => nilX cx t (cells1 (opd env x)) true
  | .binOp .neq t x (.const (.slice none 0 0)) _ => nilX cx t (cells1 (opd env x)) false
  | _ => none
section
variable {R : Type}
open Classical in
/-- what comes of either, where it is the same -/
noncomputable def both (p : Bool → Option R) : Option R := if p true = p false then p false else none
theorem both_some {p : Bool → Option R} {r : R} (h : both p = some r) (b : Bool) : p b = some r := by
  unfold both at h
  split at h
  · rename_i e
    cases b with
    | true => rw [e]; exact h
    | false => exact h
  · cases h
open Classical in
/-- what comes of each, where it is the same -/
noncomputable def agreeL (l : List (Option R)) : Option R := match l with
  | [] => none
  | x :: r => if (∀ y ∈ r, y = x) then x else none
theorem agreeL_some {l : List (Option R)} {r : R} (h : agreeL l = some r) : ∀ x ∈ l, x = some r := by
  unfold agreeL at h
  split at h
  · cases h
  · rename_i x r'
    split at h
    · rename_i e
      intro y hy
      rcases List.mem_cons.1 hy with rfl | hy
      · exact h
      · rw [e y hy]; exact h
    · cases h
theorem agreeL_ne {l : List (Option R)} {r : R} (h : agreeL l = some r) : l ≠ [] := fun e => by subst e; cases h
theorem agreeL_one (x : Option R) : agreeL [x] = x := by simp [agreeL]
/-- one operation, then κ; κp: a panic -/
noncomputable def step (cx : Cx) (inl : Inl) (o : Oper) (st : St) (κ : St → Option R) (κp : Int → St → Option R) : Option R :=
  match o.op with
  | .call { callee := .value f, args, .. } =>
    match calleeOf st.hp (cells1 (opd st.env f)) (args.toList.map (opd st.env)) with
    | some (g, as) => match cx.spec g as st.hp with
      | some sp => match evCall sp st.nx as st.hp with
        | some r => r.v.bind fun y => κ ⟨setDst st.env o.dst (r.out y).1, ups st.hp (r.out y).2, st.nx + r.nw, names (r.out y).2 ++ st.dt⟩
        | none => none
      | none => match cx.specP g as st.hp with
        | some sp => match evCallP sp st.nx as st.hp with
          | some r => r.v.bind fun z => match z with
            | .inl y => κ ⟨setDst st.env o.dst (r.out y).1, ups st.hp (r.out y).2, st.nx + r.nw, names (r.out y).2 ++ st.dt⟩
            | .inr n => κp n ⟨st.env, ups st.hp (leave sp.si (argEnv as) st.hp), st.nx, names (leave sp.si (argEnv as) st.hp) ++ st.dt⟩
          | none => none
        | none => inl R g as st.hp st.nx st.dt (fun s hp nx dt => κ ⟨setDst st.env o.dst s, hp, nx, dt⟩) fun n hp nx dt => κp n ⟨st.env, hp, nx, dt⟩
    | none => none
  | .panic x => match cells1 (opd st.env x) with
    | some (.val (.iface t (.agg ⟨[.int .i64 n]⟩))) => if Nat.beq t cx.pan = true then κp n st else none
    | _ => none
  | op => match nilQ cx st.env op with
    | some (e, q) => bif e then both (fun b => κ ⟨setDst st.env o.dst (some (.v false [.bool b])), st.hp, st.nx, st.dt⟩)
        else κ ⟨setDst st.env o.dst (some (.v false [.bool (!q)])), st.hp, st.nx, st.dt⟩
    | none => match evOp cx st.nx op (opd st.env) st.hp with
      | some r => bif r.c then κ ⟨setDst st.env o.dst r.s, ups st.hp r.up, st.nx + r.nw, names r.up ++ st.dt⟩ else none
      | none => none

/-- one operation of a region, with its guard -/
noncomputable def ev1 (cx : Cx) (inl : Inl) (ops : Array Oper) (o : Oper) (st : St) (κ : St → Option R) (κp : Int → St → Option R) : Option R :=
  match o.guard with
    | none => step cx inl o st κ κp
    | some (g, want) => match (ops[g]?).bind (·.dst) with
      | some t => (match cells1 (st.env t) with
        | some (.bool b) => bif b then
            (match want with
             | true => step cx inl o ⟨put st.env t (some (.v false [.bool true])), st.hp, st.nx, st.dt⟩ κ κp
             | false => κ ⟨setDst (put st.env t (some (.v false [.bool true]))) o.dst (some (.tup [])), st.hp, st.nx, st.dt⟩)
          else
            (match want with
             | false => step cx inl o ⟨put st.env t (some (.v false [.bool false])), st.hp, st.nx, st.dt⟩ κ κp
             | true => κ ⟨setDst (put st.env t (some (.v false [.bool false]))) o.dst (some (.tup [])), st.hp, st.nx, st.dt⟩)
        | _ => (match st.env t with
          | some (.tup []) => κ ⟨setDst st.env o.dst (some (.tup [])), st.hp, st.nx, st.dt⟩
          | _ => none))
      | none => none
/-- operations in their order -/
noncomputable def evOps (cx : Cx) (inl : Inl) (ops : Array Oper) : List Oper → St → (St → Option R) → (Int → St → Option R) → Option R
  | [], st, κ, _ => κ st
  | o :: r, st, κ, κp => ev1 cx inl ops o st (fun st => evOps cx inl ops r st κ κp) κp
/-- operations that may come next -/
def rdyOk (ls : List Bool) : List Edge → Bool
  | [] => true
  | e :: r => (!Region.binds .any e || ls.getD e.on false) && rdyOk ls r
def rdyL (ls : List Bool) : Nat → List Oper → List Nat
  | _, [] => []
  | i, o :: r => bif !(ls.getD i true) && rdyOk ls o.after.toList then i :: rdyL ls (i + 1) r else rdyL ls (i + 1) r
/-- operations in any order -/
noncomputable def evAny (cx : Cx) (inl : Inl) (ops : Array Oper) : Nat → List Bool → St → (St → Option R) → (Int → St → Option R) → Option R
  | 0, _, st, κ, _ => κ st
  | n + 1, ls, st, κ, κp => agreeL ((rdyL ls 0 ops.toList).map fun i => match ops.toList[i]? with
    | some o => ev1 cx inl ops o st (fun st => evAny cx inl ops n (ls.set i true) st κ κp) κp
    | none => none)
end

/-! ### regions whose order is open -/
/-- what an operation did: its slot; what it wrote; the names that it looks at; the names in what it made; the first new name, and how many -/
structure Tr where
  up : Ups
  looks : List Nat
  says : List Nat
  nm : Nat
  nw : Nat

def cellNames : List Cell → List Nat
  | [] => []
  | .ref l :: r => l :: cellNames r
  | .sub l _ _ _ :: r => l :: cellNames r
  | .ptr l _ :: r => l :: cellNames r
  | .elp l _ _ _ :: r => l :: cellNames r
  | .np l :: r => l :: cellNames r
  | _ :: r => cellNames r
def tupNames : List (Bool × List Cell) → List Nat
  | [] => []
  | (_, cs) :: r => cellNames cs ++ tupNames r
def slotNames : Option Slot → List Nat
  | some (.v _ cs) => cellNames cs
  | some (.tup l) => tupNames l
  | none => []
def ob1Names : Option Ob → List Nat
  | some (.box _ cs) => cellNames cs
  | some (.clo _ a b) => cellNames a ++ cellNames b
  | _ => []
def upNames : Ups → List Nat
  | [] => []
  | (_, o) :: r => ob1Names o ++ upNames r
def slotsNames : List (Option Slot) → List Nat
  | [] => []
  | s :: r => slotNames s ++ slotsNames r
/-- the names that cells bear, and those in what lies behind these, twice -/
def closeN (hp : Heap) (l : List Nat) : List Nat := l ++ l.flatMap fun n => ob1Names (hp n) ++ (ob1Names (hp n)).flatMap fun m => ob1Names (hp m)
def onlyN (l : List Nat) (hp : Heap) : Heap := fun n => if memN n l = true then hp n else none

def looksOf (env : Env) (o : Oper) : List (Option Slot) := o.op.operands.toList.map (opd env)

def onlyE (ts : List Nat) (env : Env) : Env := fun t => if memN t ts = true then env t else none
def opTmps (o : Oper) : List Nat := o.op.operands.toList.filterMap fun | .tmp t => some t | _ => none
def allBlt (nx : Nat) : List Nat → Bool
  | [] => true
  | x :: r => Nat.blt x nx && allBlt nx r
/-- the names that an operation looks at -/
def lkOf (st : St) (o : Oper) : List Nat := closeN st.hp (slotsNames (looksOf (onlyE (opTmps o) st.env) o))
/-- all that an operation looks at is elder than what it makes -/
def lkOk (st : St) (lk : List Nat) : Bool := allBlt st.nx lk && allBlt st.nx (lk.flatMap fun l => ob1Names (st.hp l))
section
variable {R : Type}
def stepD (cx : Cx) (o : Oper) (st : St) (κ : St → Tr → Option R) : Option R :=
  if lkOk st (lkOf st o) = true then
  match o.op with
  | .call { callee := .value f, args, .. } =>
    match calleeOf (onlyN (lkOf st o) st.hp) (cells1 (opd (onlyE (opTmps o) st.env) f)) (args.toList.map (opd (onlyE (opTmps o) st.env))) with
    | some (g, as) => match cx.spec g as (onlyN (lkOf st o) st.hp) with
      | some sp => match evCall sp st.nx as (onlyN (lkOf st o) st.hp) with
        | some r => r.v.bind fun y => κ ⟨setDst st.env o.dst (r.out y).1, ups st.hp (r.out y).2, st.nx + r.nw, names (r.out y).2 ++ st.dt⟩
            ⟨(r.out y).2, lkOf st o, slotNames (r.out y).1 ++ upNames (r.out y).2, st.nx, r.nw⟩
        | none => none
      | none => none
    | none => none
  | op => match evOp cx st.nx op (opd (onlyE (opTmps o) st.env)) (onlyN (lkOf st o) st.hp) with
    | some r => bif r.c then κ ⟨setDst st.env o.dst r.s, ups st.hp r.up, st.nx + r.nw, names r.up ++ st.dt⟩
        ⟨r.up, lkOf st o, slotNames r.s ++ upNames r.up, st.nx, r.nw⟩ else none
    | none => none
  else none

def evDrawn (cx : Cx) (ops : Array Oper) : List Oper → St → List Tr → (St → List Tr → Option R) → Option R
  | [], st, tr, κ => κ st tr
  | o :: r, st, tr, κ => match o.guard with
    | none => stepD cx o st fun st t => evDrawn cx ops r st (tr ++ [t]) κ
    | some (g, want) => match (ops[g]?).bind (·.dst) with
      | some t => (match cells1 (st.env t) with
        | some (.bool b) => bif b then
            (match want with
             | true => stepD cx o ⟨put st.env t (some (.v false [.bool true])), st.hp, st.nx, st.dt⟩ fun st t => evDrawn cx ops r st (tr ++ [t]) κ
             | false => evDrawn cx ops r ⟨setDst (put st.env t (some (.v false [.bool true]))) o.dst (some (.tup [])), st.hp, st.nx, st.dt⟩ (tr ++ [⟨[], [], [], st.nx, 0⟩]) κ)
          else
            (match want with
             | false => stepD cx o ⟨put st.env t (some (.v false [.bool false])), st.hp, st.nx, st.dt⟩ fun st t => evDrawn cx ops r st (tr ++ [t]) κ
             | true => evDrawn cx ops r ⟨setDst (put st.env t (some (.v false [.bool false]))) o.dst (some (.tup [])), st.hp, st.nx, st.dt⟩ (tr ++ [⟨[], [], [], st.nx, 0⟩]) κ)
        | _ => (match st.env t with
          | some (.tup []) => evDrawn cx ops r ⟨setDst st.env o.dst (some (.tup [])), st.hp, st.nx, st.dt⟩ (tr ++ [⟨[], [], [], st.nx, 0⟩]) κ
          | _ => none))
      | none => none
end

def newOf (t : Tr) : List Nat := (List.range t.nw).map (t.nm + ·)
/-- the temporaries that an operation reads: its operands', and its guard's -/
def tmpsOf (ops : Array Oper) (o : Oper) : List Nat :=
  (o.op.operands.toList.filterMap fun | .tmp t => some t | _ => none) ++ (match o.guard with
    | some (g, _) => (match (ops[g]?).bind (·.dst) with | some t => [t] | none => [])
    | none => [])
def dstOf (o : Oper) : List Nat := match o.dst with | some t => [t] | none => []
/-- two operations that may come in either order -/
def free2 (ops : Array Oper) (a b : Oper) (s t : Tr) : Bool :=
  apartN (dstOf a) (tmpsOf ops b) && apartN (dstOf b) (tmpsOf ops a) && apartN (dstOf a) (dstOf b) &&
  apartN (names s.up) (names t.up) && apartN (names s.up) t.looks && apartN (names t.up) s.looks &&
  apartN (newOf s) t.says && apartN (newOf t) s.says && apartN (newOf s) t.looks && apartN (newOf t) s.looks
/-- a number worked out first -/
def forceN {α : Type} (n : Nat) (k : Nat → α) : α := match n with | 0 => k 0 | m + 1 => k (m + 1)
/-- which operations come before: masks -/
def maskOf (acc : List Nat) : List Edge → Nat
  | [] => 0
  | e :: r => bif Region.binds .any e then Nat.lor (Nat.lor (Nat.pow 2 e.on) (acc.getD e.on 0)) (maskOf acc r) else maskOf acc r
def befGo : List Oper → List Nat → List Nat
  | [], acc => acc
  | o :: r, acc => forceN (maskOf acc o.after.toList) fun v => befGo r (acc ++ [v])
/-- what binds an operation stands before it -/
def backEdges : Nat → List Oper → Bool
  | _, [] => true
  | i, o :: r => (o.after.toList.all fun e => !Region.binds .any e || Nat.blt e.on i) && backEdges (i + 1) r
def free1 (ops : Array Oper) (bs : List Nat) (i : Nat) (o : Oper) (t : Tr) : Nat → List (Oper × Tr) → Bool
  | _, [] => true
  | j, (p, u) :: r => ((bs.getD j 0).testBit i || free2 ops o p t u) && free1 ops bs i o t (j + 1) r
def freeAll (ops : Array Oper) (bs : List Nat) : Nat → List (Oper × Tr) → Bool
  | _, [] => true
  | i, (o, t) :: r => free1 ops bs i o t (i + 1) r && freeAll ops bs (i + 1) r
def allFree (ops : Array Oper) (l : List (Oper × Tr)) : Bool := backEdges 0 ops.toList && freeAll ops (befGo ops.toList []) 0 l

inductive H where
  | n
  | s (j : Option Sh) (a b : H)
  | c (a b : H)
  | b (a : H)
  | l (sh : Sh) (a : H)
  | d

/-- so many rounds -/
def iterM {S R : Type} (body : S → Option (S ⊕ R)) : Nat → S → Option R
  | 0, _ => none
  | n + 1, s => match body s with
    | some (.inl s') => iterM body n s'
    | some (.inr r) => some r
    | none => none
open Classical in
noncomputable def loopM {S R : Type} (body : S → Option (S ⊕ R)) (s : S) : Option R :=
  if h : ∃ n r, iterM body n s = some r then some (choose (choose_spec h)) else none

def H.fst : H → H | .s _ x _ => x | .c x _ => x | .b x => x | .l _ x => x | _ => .n
def H.snd : H → H | .s _ _ y => y | .c _ y => y | _ => .n
def H.join : H → Option Sh | .s j _ _ => j | _ => none

def writes : Code → List Nat
  | .region _ ops _ => ops.toList.flatMap dstOf
  | .seq a b => writes a ++ writes b
  | .cond _ a b => writes a ++ writes b
  | .block _ c => writes c
  | .loop c => writes c
  | _ => []

def obN (f : Nat → Nat) : List (Nat × Bool × OSh) → List Nat
  | [] => []
  | (l, _) :: r => f l :: obN f r
/-- names below nn, and the kept slots as they were -/
def shOk (sh : Sh) (c : Code) : Bool := apartN sh.kp (writes c) && shBelow sh
def keptOk (ren : Ren) (f : Nat → Nat) : List (Nat × Bool × OSh) → Bool
  | [] => true
  | (l, true, _) :: r => (match ren l with | some m => Nat.beq m (f l) | none => false) && keptOk ren f r
  | (_, false, _) :: r => keptOk ren f r
def dtOk (nx : Nat) (obs : List Nat) (hp : Heap) : List Nat → Bool
  | [] => true
  | d :: r => (nx.ble d || (memN d obs || (match hp d with | none => true | some _ => false))) && dtOk nx obs hp r
/-- a state behind a fragment is taken as a shape's -/
def backTo (sh : Sh) (f : Nat → Nat) (nx : Nat) (hp : Heap) (st : St) : Option (TS sh) :=
  if keptOk (renOf sh st.env st.hp) f sh.ob = true then
    (if dtOk nx (obN f sh.ob) hp (names (leave sh st.env st.hp) ++ st.dt) = true then toSt sh st.env st.hp else none) else none

noncomputable def evC (cx : Cx) (inl : Inl) : (R : Type) → Code → H → St → (Out → Option R) → Option R
  | _, .skip, _, st, κ => κ (.normal st)
  | _, .label _, _, st, κ => κ (.normal st)
  | _, .ret, _, st, κ => κ (.ret st)
  | _, .exit id, _, st, κ => κ (.exit id st)
  | _, .region _ ops false, _, st, κ => evOps cx inl ops ops.toList st (fun st => κ (.normal st)) fun n st => κ (.pan n st)
  | _, .region _ ops true, h, st, κ => match h with
    | .d => evAny cx inl ops ops.toList.length (List.replicate ops.toList.length false) st (fun st => κ (.normal st)) fun n st => κ (.pan n st)
    | _ => evDrawn cx ops ops.toList st [] fun st tr =>
      if allFree ops (ops.toList.zip tr) = true then κ (.normal st) else none
  | R, .seq a b, h, st, κ => match h.join with
    | none => evC cx inl R a h.fst st fun o => match o with
      | .normal st' => evC cx inl R b h.snd st' κ
      | .exit id st' => κ (.exit id st')
      | .ret st' => κ (.ret st')
      | .pan n st' => κ (.pan n st')
    | some sh => if shOk sh a = true then
      Option.bind (evC cx inl (TS sh ⊕ R) a h.fst ⟨st.env, st.hp, st.nx, []⟩ fun o => match o with
        | .normal st' => (match backTo sh (instN (renOf sh st.env st.hp) st.nx sh.ob) st.nx (ups st.hp (goneJ sh st.env st.hp)) st' with | some x => some (.inl x) | none => none)
        | .exit id st' => (κ (.exit id ⟨st'.env, st'.hp, st'.nx, st'.dt ++ st.dt⟩)).map .inr
        | .ret st' => (κ (.ret ⟨st'.env, st'.hp, st'.nx, st'.dt ++ st.dt⟩)).map .inr
        | .pan n st' => (κ (.pan n ⟨st'.env, st'.hp, st'.nx, st'.dt ++ st.dt⟩)).map .inr) fun r => match r with
        | .inl x => evC cx inl R b h.snd ⟨shEnv sh (instN (renOf sh st.env st.hp) st.nx sh.ob) st.env x,
            shHp sh (instN (renOf sh st.env st.hp) st.nx sh.ob) (ups st.hp (goneJ sh st.env st.hp)) st.env x, st.nx + sh.nn,
            obN (instN (renOf sh st.env st.hp) st.nx sh.ob) sh.ob ++ (names (goneJ sh st.env st.hp) ++ st.dt)⟩ κ
        | .inr r => some r
      else none
  | R, .cond c a b, h, st, κ => match cells1 (opd st.env c) with
    | some (.bool v) => bif v then evC cx inl R a h.fst st κ else evC cx inl R b h.snd st κ
    | _ => none
  | R, .block id c, h, st, κ => evC cx inl R c h.fst st fun o => match o with
    | .exit id' st' => if Nat.beq id' id = true then κ (.normal st') else κ (.exit id' st')
    | .normal st' => κ (.normal st')
    | .ret st' => κ (.ret st')
    | .pan n st' => κ (.pan n st')
  | R, .loop c, h, st, κ => match h with
    | .l sh h' => if shOk sh c = true then (match toSt sh st.env st.hp with
      | some s0 => loopM (fun s => evC cx inl (TS sh ⊕ R) c h' ⟨shEnv sh (instN (renOf sh st.env st.hp) st.nx sh.ob) st.env s,
            shHp sh (instN (renOf sh st.env st.hp) st.nx sh.ob) (ups st.hp (leave sh st.env st.hp)) st.env s, st.nx + sh.nn, []⟩ fun o => match o with
        | .normal st' => (match backTo sh (instN (renOf sh st.env st.hp) st.nx sh.ob) st.nx (ups st.hp (leave sh st.env st.hp)) st' with | some x => some (.inl x) | none => none)
        | .exit id st' => (κ (.exit id ⟨st'.env, st'.hp, st'.nx, st'.dt ++ (obN (instN (renOf sh st.env st.hp) st.nx sh.ob) sh.ob ++ (names (leave sh st.env st.hp) ++ st.dt))⟩)).map .inr
        | .ret st' => (κ (.ret ⟨st'.env, st'.hp, st'.nx, st'.dt ++ (obN (instN (renOf sh st.env st.hp) st.nx sh.ob) sh.ob ++ (names (leave sh st.env st.hp) ++ st.dt))⟩)).map .inr
        | .pan n st' => (κ (.pan n ⟨st'.env, st'.hp, st'.nx, st'.dt ++ (obN (instN (renOf sh st.env st.hp) st.nx sh.ob) sh.ob ++ (names (leave sh st.env st.hp) ++ st.dt))⟩)).map .inr) s0
      | none => none) else none
    | _ => none
  | _, _, _, _, _ => none

def resCell (cx : Cx) (env : Env) (hp : Heap) : ResultVar → Option (Bool × List Cell)
  | .tmp t => match env t with
    | some (.v a cs) => some (a, cs)
    | _ => none
  | .cell a t => match cx.tab t, cells1 (env a) with
    | some i, some (.ptr l off) => (match hp l with
      | some (.box _ cs) => if (off + i.size).ble cs.length = true then some (i.agg, (cs.drop off).take i.size) else none
      | _ => none)
    | _, _ => none
def resGo (cx : Cx) (env : Env) (hp : Heap) : List ResultVar → Option (List (Bool × List Cell))
  | [] => some []
  | v :: r => match resCell cx env hp v, resGo cx env hp r with
    | some p, some l => some (p :: l)
    | _, _ => none
def resSlot (cx : Cx) (env : Env) (hp : Heap) : List ResultVar → Option Slot
  | [v] => match resCell cx env hp v with | some (a, cs) => some (.v a cs) | none => none
  | l => match resGo cx env hp l with | some r => some (.tup r) | none => none

/-- objects that came in keep their names -/
def inOk (ren : Ren) : List (Nat × Bool × OSh) → Bool
  | [] => true
  | (l, _) :: r => (match ren l with
    | some m => (if l.blt 1000 = true then Nat.beq m l else true)
    | none => (1000).ble l) && inOk ren r

noncomputable def evF (cx : Cx) (inl : Inl) (code : Code) (res : List ResultVar) (h : H) (si so : Sh) (x : TS si) : Option (TS so) :=
  evC cx inl (TS so) code h ⟨envOut si id x, hpOut si id x, 1000, []⟩ fun o => match o with
    | .normal st => fin st
    | .ret st => fin st
    | .exit _ _ => none
    | .pan _ _ => none
where fin (st : St) : Option (TS so) :=
  match resSlot cx st.env st.hp res with
  | some s => if inOk (renOf so (put (fun _ => none) 0 (some s)) st.hp) so.ob = true then toSt so (put (fun _ => none) 0 (some s)) st.hp else none
  | none => none

/-- a function that may panic -/
noncomputable def evFP (cx : Cx) (inl : Inl) (code : Code) (res : List ResultVar) (h : H) (si so : Sh) (x : TS si) : Option (TS so ⊕ Int) :=
  evC cx inl (TS so ⊕ Int) code h ⟨envOut si id x, hpOut si id x, 1000, []⟩ fun o => match o with
    | .normal st => finP st
    | .ret st => finP st
    | .exit _ _ => none
    | .pan n _ => some (.inr n)
where finP (st : St) : Option (TS so ⊕ Int) := match evF.fin cx res so st with
  | some y => some (.inl y)
  | none => none

def inl0 : Inl := fun _ _ _ _ _ _ _ _ => none
noncomputable def inlS (cx : Cx) (fn : Nat → List (Option Slot) → Heap → Option (Code × List ResultVar × H)) (inl : Inl) : Inl := fun R g args hp nx dt κ κp =>
  match fn g args hp with
  | some (code, res, h) => evC cx inl R code h ⟨argEnv args, hp, nx, dt⟩ fun o => match o with
    | .normal st => (match resSlot cx st.env st.hp res with | some s => κ (some s) st.hp st.nx st.dt | none => none)
    | .ret st => (match resSlot cx st.env st.hp res with | some s => κ (some s) st.hp st.nx st.dt | none => none)
    | .exit _ _ => none
    | .pan n st => κp n st.hp st.nx st.dt
  | none => none

end Lv
