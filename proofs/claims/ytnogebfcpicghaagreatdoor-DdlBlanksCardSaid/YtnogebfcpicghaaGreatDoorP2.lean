import Derived.Test.YtnogebfcpicghaaGreatDoorP1
set_option linter.all false
set_option linter.unusedVariables false
set_option linter.unusedSimpArgs false
set_option linter.unusedSectionVars false
/- the plain parser: lists of tokens -/
namespace Dl
open Go
abbrev Node := Int × (Int × Val)
abbrev Agg := Int × Int
abbrev Col := ByteArray × (Int × (Bool × (Bool × (ByteArray × Int))))
abbrev Tab := ByteArray × (List Col × List (List Node))
abbrev View := ByteArray × (ByteArray × (ByteArray × (Agg × (List Node × (List Int × (Bool × List Agg))))))
abbrev Def := Int × (Tab × View)
abbrev v0 : Val := (0, (0, e0))
abbrev tab0 : Tab := (e0, ([], []))
abbrev view0 : View := (e0, (e0, (e0, ((0, 0), ([], ([], (false, [])))))))
abbrev keywords : List ByteArray := [(⟨#[116, 97, 98, 108, 101]⟩ : ByteArray), (⟨#[99, 104, 101, 99, 107]⟩ : ByteArray), (⟨#[118, 105, 101, 119]⟩ : ByteArray), (⟨#[102, 114, 111, 109]⟩ : ByteArray), (⟨#[106, 111, 105, 110]⟩ : ByteArray), (⟨#[111, 110]⟩ : ByteArray), (⟨#[119, 104, 101, 114, 101]⟩ : ByteArray), (⟨#[112, 105, 99, 107]⟩ : ByteArray), (⟨#[103, 114, 111, 117, 112]⟩ : ByteArray), (⟨#[98, 111, 111, 108]⟩ : ByteArray), (⟨#[105, 110, 116]⟩ : ByteArray), (⟨#[116, 101, 120, 116]⟩ : ByteArray), (⟨#[110, 117, 108, 108]⟩ : ByteArray), (⟨#[117, 110, 105, 113, 117, 101]⟩ : ByteArray), (⟨#[114, 101, 102]⟩ : ByteArray), (⟨#[114, 101, 115, 116, 114, 105, 99, 116]⟩ : ByteArray), (⟨#[99, 97, 115, 99, 97, 100, 101]⟩ : ByteArray), (⟨#[115, 101, 116, 110, 117, 108, 108]⟩ : ByteArray), (⟨#[99, 111, 117, 110, 116]⟩ : ByteArray), (⟨#[115, 117, 109]⟩ : ByteArray), (⟨#[109, 105, 110]⟩ : ByteArray), (⟨#[109, 97, 120]⟩ : ByteArray), (⟨#[116, 114, 117, 101]⟩ : ByteArray), (⟨#[102, 97, 108, 115, 101]⟩ : ByteArray), (⟨#[97, 110, 100]⟩ : ByteArray), (⟨#[111, 114]⟩ : ByteArray), (⟨#[110, 111, 116]⟩ : ByteArray)]
def isWord (b : ByteArray) : Bool := isWordL b.data.toList
def isName (b : ByteArray) : Bool := isWord b && !keywords.any fun k => decide (k = b)
def tk (s : ByteArray) : List Tok → Option (List Tok)
  | [] => none
  | t :: r => if t.1 ≠ 1 ∧ t.2.1 = s then some r else none
def tkL : List ByteArray → List Tok → Option (List Tok)
  | [], l => some l
  | s :: ss, l => (tk s l).bind (tkL ss)
def oneS (i : Int) : List ByteArray → List Tok → Option (Int × List Tok)
  | [], _ => none
  | w :: ws, l => match tk w l with
    | some r => some (i, r)
    | none => oneS (i + 1) ws l
def nameS : List Tok → Option (ByteArray × List Tok)
  | [] => none
  | t :: r => if t.1 = 0 ∧ isName t.2.1 = true then some (t.2.1, r) else none
def colS : List Tok → Option (Int × List Tok)
  | [] => none
  | t :: r => if t.1 = 1 ∧ t.2.2.1 = 2 ∧ 0 ≤ t.2.2.2.1 ∧ t.2.2.2.1 ≤ 99 then some (t.2.2.2.1, r) else none
def opOf (b : ByteArray) : Option Int :=
  if b = (⟨#[110, 111, 116]⟩ : ByteArray) then some 9 else if b = (⟨#[111, 114]⟩ : ByteArray) then some 8 else if b = (⟨#[97, 110, 100]⟩ : ByteArray) then some 7 else if b = (⟨#[60]⟩ : ByteArray) then some 6 else if b = (⟨#[61]⟩ : ByteArray) then some 5 else if b = (⟨#[42]⟩ : ByteArray) then some 4 else if b = (⟨#[45]⟩ : ByteArray) then some 3 else if b = (⟨#[43]⟩ : ByteArray) then some 2 else none
def constOf (b : ByteArray) : Option Val :=
  if b = (⟨#[116, 114, 117, 101]⟩ : ByteArray) then some (1, (1, e0)) else if b = (⟨#[102, 97, 108, 115, 101]⟩ : ByteArray) then some (1, (0, e0)) else if b = (⟨#[110, 117, 108, 108]⟩ : ByteArray) then some (0, (0, e0)) else none
def colP (l : List UInt8) : Option Int := match l with
  | [] => none
  | c :: d => if c = 99 then (match Lib.atoiAll d with
    | .ok n => if n ≤ 99 ∧ Lib.itoa n = d then some n else none
    | _ => none) else none
def stepS (l : List Tok) : Option (Node × List Tok) := match tkL [(⟨#[110, 117, 108, 108]⟩ : ByteArray), (⟨#[63]⟩ : ByteArray)] l with
  | some r => some ((10, (0, v0)), r)
  | none => match l with
    | [] => none
    | t :: r => if t.1 = 1 then some ((1, (0, t.2.2)), r) else
      match opOf t.2.1 with
      | some op => some ((op, (0, v0)), r)
      | none => match constOf t.2.1 with
        | some v => some ((1, (0, v)), r)
        | none => (colP t.2.1.data.toList).map fun n => ((0, (n, v0)), r)
def stepsS : Nat → List Tok → Option (List Node × List Tok)
  | n, l => match tk (⟨#[93]⟩ : ByteArray) l with
    | some r => some ([], r)
    | none => match n with
      | 0 => none
      | n + 1 => (stepS l).bind fun x => (stepsS n x.2).map fun y => (x.1 :: y.1, y.2)
def exprS (l : List Tok) : Option (List Node × List Tok) := (tk (⟨#[91]⟩ : ByteArray) l).bind (stepsS 100)
def flag (s : ByteArray) (l : List Tok) : Bool × List Tok := match tk s l with
  | some r => (true, r)
  | none => (false, l)
abbrev kinds : List ByteArray := [(⟨#[98, 111, 111, 108]⟩ : ByteArray), (⟨#[105, 110, 116]⟩ : ByteArray), (⟨#[116, 101, 120, 116]⟩ : ByteArray)]
abbrev acts : List ByteArray := [(⟨#[114, 101, 115, 116, 114, 105, 99, 116]⟩ : ByteArray), (⟨#[99, 97, 115, 99, 97, 100, 101]⟩ : ByteArray), (⟨#[115, 101, 116, 110, 117, 108, 108]⟩ : ByteArray)]
abbrev fns : List ByteArray := [(⟨#[99, 111, 117, 110, 116]⟩ : ByteArray), (⟨#[115, 117, 109]⟩ : ByteArray), (⟨#[109, 105, 110]⟩ : ByteArray), (⟨#[109, 97, 120]⟩ : ByteArray)]
def refS (l : List Tok) : Option ((ByteArray × Int) × List Tok) := match tk (⟨#[114, 101, 102]⟩ : ByteArray) l with
  | none => some ((e0, 0), l)
  | some r => (nameS r).bind fun x => (oneS 0 acts x.2).map fun y => ((x.1, y.1), y.2)
def columnS (l : List Tok) : Option (Col × List Tok) := (nameS l).bind fun x => (oneS 0 kinds x.2).bind fun y =>
  (refS (flag (⟨#[117, 110, 105, 113, 117, 101]⟩ : ByteArray) (flag (⟨#[110, 117, 108, 108]⟩ : ByteArray) y.2).2).2).map fun z => ((x.1, (1 + y.1, ((flag (⟨#[110, 117, 108, 108]⟩ : ByteArray) y.2).1, ((flag (⟨#[117, 110, 105, 113, 117, 101]⟩ : ByteArray) (flag (⟨#[110, 117, 108, 108]⟩ : ByteArray) y.2).2).1, z.1)))), z.2)
/-- what is parted by commas: n more at most -/
def sepS {α : Type} (p : List Tok → Option (α × List Tok)) : Nat → List Tok → Option (List α × List Tok)
  | n, l => (p l).bind fun x => match tk (⟨#[44]⟩ : ByteArray) x.2 with
    | none => some ([x.1], x.2)
    | some r => match n with
      | 0 => none
      | n + 1 => (sepS p n r).map fun y => (x.1 :: y.1, y.2)
def checksS : Nat → List Tok → Option (List (List Node) × List Tok)
  | n, l => match tk (⟨#[99, 104, 101, 99, 107]⟩ : ByteArray) l with
    | none => some ([], l)
    | some r => match n with
      | 0 => none
      | n + 1 => (exprS r).bind fun x => (checksS n x.2).map fun y => (x.1 :: y.1, y.2)
def tableS (l : List Tok) : Option (Tab × List Tok) := (nameS l).bind fun x => (tk (⟨#[40]⟩ : ByteArray) x.2).bind fun l => (sepS columnS 39 l).bind fun y => (tk (⟨#[41]⟩ : ByteArray) y.2).bind fun l => (checksS 40 l).map fun z => ((x.1, (y.1, z.1)), z.2)
def aggS (l : List Tok) : Option (Agg × List Tok) := (oneS 0 fns l).bind fun x => if x.1 = 0 then some ((0, 0), x.2) else (colS x.2).map fun y => ((x.1, y.1), y.2)
def joinS (l : List Tok) : Option ((ByteArray × Agg) × List Tok) := match tk (⟨#[106, 111, 105, 110]⟩ : ByteArray) l with
  | none => some ((e0, (0, 0)), l)
  | some r => (nameS r).bind fun x => (tk (⟨#[111, 110]⟩ : ByteArray) x.2).bind fun l => (colS l).bind fun a => (tk (⟨#[61]⟩ : ByteArray) a.2).bind fun l => (colS l).map fun b => ((x.1, (a.1, b.1)), b.2)
def whereS (l : List Tok) : Option (List Node × List Tok) := match tk (⟨#[119, 104, 101, 114, 101]⟩ : ByteArray) l with
  | none => some ([], l)
  | some r => exprS r
def pickS (l : List Tok) : Option (List Int × List Tok) := if l = [] ∨ (tk (⟨#[103, 114, 111, 117, 112]⟩ : ByteArray) l).isSome then some ([], l) else sepS colS 39 l
def groupS (l : List Tok) : Option ((Bool × List Agg) × List Tok) := match tk (⟨#[103, 114, 111, 117, 112]⟩ : ByteArray) l with
  | none => some ((false, []), l)
  | some r => if r = [] then some ((true, []), r) else (sepS aggS 39 r).map fun x => ((true, x.1), x.2)
def viewS (l : List Tok) : Option (View × List Tok) := (nameS l).bind fun x => (tk (⟨#[102, 114, 111, 109]⟩ : ByteArray) x.2).bind fun l => (nameS l).bind fun f => (joinS f.2).bind fun j => (whereS j.2).bind fun w => (tk (⟨#[112, 105, 99, 107]⟩ : ByteArray) w.2).bind fun l => (pickS l).bind fun p => (groupS p.2).map fun g =>
  ((x.1, (f.1, (j.1.1, (j.1.2, (w.1, (p.1, g.1)))))), g.2)
def defS (l : List Tok) : Option (Def × List Tok) := (oneS 0 [(⟨#[116, 97, 98, 108, 101]⟩ : ByteArray), (⟨#[118, 105, 101, 119]⟩ : ByteArray)] l).bind fun x =>
  if x.1 = 0 then (tableS x.2).map fun y => ((0, (y.1, view0)), y.2) else (viewS x.2).map fun y => ((x.1, (tab0, y.1)), y.2)
def parseS (l : List Tok) : Option Def := (defS l).bind fun x => if x.2 = [] then some x.1 else none
abbrev def0 : Def := (0, (tab0, view0))
/-- ddl.Parse, of a text of at most 20000 bytes -/
def readS (s : List UInt8) : Def × Int := if 20000 < s.length then (def0, 60) else match lexS s with
  | none => (def0, 60)
  | some l => match parseS l with
    | none => (def0, 70)
    | some d => (d, 0)

/-! ## The tokens of a definition -/
def wd (s : ByteArray) : Tok := (0, (s, v0))
def sg (s : ByteArray) : Tok := (2, (s, v0))
def stepT (x : Node) : List Tok :=
  if x.1 = 10 then [wd (⟨#[110, 117, 108, 108]⟩ : ByteArray), sg (⟨#[63]⟩ : ByteArray)]
  else if x.1 = 0 then [wd (bs (99 :: Lib.itoa x.2.1))]
  else if x.1 = 1 then (if x.2.2 = (0, (0, e0)) then [wd (⟨#[110, 117, 108, 108]⟩ : ByteArray)] else if x.2.2 = (1, (0, e0)) then [wd (⟨#[102, 97, 108, 115, 101]⟩ : ByteArray)] else if x.2.2 = (1, (1, e0)) then [wd (⟨#[116, 114, 117, 101]⟩ : ByteArray)] else [(1, (e0, x.2.2))])
  else if x.1 = 2 then [sg (⟨#[43]⟩ : ByteArray)] else if x.1 = 3 then [sg (⟨#[45]⟩ : ByteArray)] else if x.1 = 4 then [sg (⟨#[42]⟩ : ByteArray)] else if x.1 = 5 then [sg (⟨#[61]⟩ : ByteArray)] else if x.1 = 6 then [sg (⟨#[60]⟩ : ByteArray)] else if x.1 = 7 then [wd (⟨#[97, 110, 100]⟩ : ByteArray)] else if x.1 = 8 then [wd (⟨#[111, 114]⟩ : ByteArray)] else [wd (⟨#[110, 111, 116]⟩ : ByteArray)]
def exprT (e : List Node) : List Tok := sg (⟨#[91]⟩ : ByteArray) :: e.flatMap stepT ++ [sg (⟨#[93]⟩ : ByteArray)]
def sepT {α : Type} (f : α → List Tok) : List α → List Tok
  | [] => []
  | [x] => f x
  | x :: r => f x ++ sg (⟨#[44]⟩ : ByteArray) :: sepT f r
def columnT (c : Col) : List Tok := wd c.1 :: wd (kinds.getD (c.2.1 - 1).toNat e0) :: ((if c.2.2.1 then [wd (⟨#[110, 117, 108, 108]⟩ : ByteArray)] else []) ++ ((if c.2.2.2.1 then [wd (⟨#[117, 110, 105, 113, 117, 101]⟩ : ByteArray)] else []) ++ (if c.2.2.2.2.1 = e0 then [] else [wd (⟨#[114, 101, 102]⟩ : ByteArray), wd c.2.2.2.2.1, wd (acts.getD c.2.2.2.2.2.toNat e0)])))
def intT (n : Int) : List Tok := [numT n]
def aggT (a : Agg) : List Tok := wd (fns.getD a.1.toNat e0) :: (if a.1 = 0 then [] else intT a.2)
def tableT (t : Tab) : List Tok := wd (⟨#[116, 97, 98, 108, 101]⟩ : ByteArray) :: wd t.1 :: sg (⟨#[40]⟩ : ByteArray) :: (sepT columnT t.2.1 ++ sg (⟨#[41]⟩ : ByteArray) :: t.2.2.flatMap fun e => wd (⟨#[99, 104, 101, 99, 107]⟩ : ByteArray) :: exprT e)
def viewT (v : View) : List Tok := wd (⟨#[118, 105, 101, 119]⟩ : ByteArray) :: wd v.1 :: wd (⟨#[102, 114, 111, 109]⟩ : ByteArray) :: wd v.2.1 :: ((if v.2.2.1 = e0 then [] else wd (⟨#[106, 111, 105, 110]⟩ : ByteArray) :: wd v.2.2.1 :: wd (⟨#[111, 110]⟩ : ByteArray) :: numT v.2.2.2.1.1 :: sg (⟨#[61]⟩ : ByteArray) :: [numT v.2.2.2.1.2]) ++
  ((if v.2.2.2.2.1 = [] then [] else wd (⟨#[119, 104, 101, 114, 101]⟩ : ByteArray) :: exprT v.2.2.2.2.1) ++ wd (⟨#[112, 105, 99, 107]⟩ : ByteArray) :: (sepT intT v.2.2.2.2.2.1 ++ ((if v.2.2.2.2.2.2.1 then [wd (⟨#[103, 114, 111, 117, 112]⟩ : ByteArray)] else []) ++ sepT aggT v.2.2.2.2.2.2.2))))
def defT (d : Def) : List Tok := if d.1 = 0 then tableT d.2.1 else viewT d.2.2

/-! ## What is parsed is what stands there -/
abbrev AllOk (l : List Tok) : Prop := ∀ t ∈ l, TokOk t
def Snd {α : Type} (p : List Tok → Option (α × List Tok)) (f : α → List Tok) (G : α → Prop) : Prop := ∀ l, AllOk l → ∀ x, p l = some x → l = f x.1 ++ x.2 ∧ AllOk x.2 ∧ G x.1
theorem AllOk.tail {t : Tok} {l : List Tok} (h : AllOk (t :: l)) : AllOk l := fun x hx => h x (List.mem_cons_of_mem _ hx)
def isW (s : ByteArray) : Bool := match s.data.toList with
  | [] => false
  | c :: _ => letter c
def isSg (s : ByteArray) : Bool := match s.data.toList with
  | [c] => decide (c ∈ signs)
  | _ => false
theorem bs_data (s : ByteArray) : bs s.data.toList = s := by cases s; rfl
theorem bs_list (l : List UInt8) : (bs l).data.toList = l := rfl
theorem sign_letter {c : UInt8} (h : c ∈ signs) : letter c = false := by
  simp only [signs, List.mem_cons, List.not_mem_nil, or_false] at h
  rcases h with rfl | rfl | rfl | rfl | rfl | rfl | rfl | rfl | rfl | rfl | rfl <;> decide
theorem tok_w {t : Tok} (h : TokOk t) (h1 : t.1 ≠ 1) {s : ByteArray} (hs : t.2.1 = s) (hw : isW s = true) : t = wd s := by
  cases h with
  | word _ => subst hs; rfl
  | sign hc => subst hs; simp only [signT, isW] at hw; rw [sign_letter hc] at hw; cases hw
  | num _ _ => exact absurd rfl h1
  | text _ => exact absurd rfl h1
theorem tok_s {t : Tok} (h : TokOk t) (h1 : t.1 ≠ 1) {s : ByteArray} (hs : t.2.1 = s) (hw : isSg s = true) : t = sg s := by
  cases h with
  | @word w h =>
    subst hs
    cases w with
    | nil => cases h
    | cons c w =>
      cases w with
      | cons _ _ => simp [isSg, wordT] at hw
      | nil =>
        simp only [isSg, wordT, decide_eq_true_eq] at hw
        simp only [isWordL, sign_letter hw, Bool.false_and] at h
        cases h
  | sign _ => subst hs; rfl
  | num _ _ => exact absurd rfl h1
  | text _ => exact absurd rfl h1
theorem tk_w {s : ByteArray} (hw : isW s = true) {l r : List Tok} (hl : AllOk l) (h : tk s l = some r) : l = wd s :: r ∧ AllOk r := by
  cases l with
  | nil => cases h
  | cons t l =>
    simp only [tk] at h
    split at h
    · rename_i hc
      cases h
      exact ⟨by rw [tok_w (hl t (by simp)) hc.1 hc.2 hw], hl.tail⟩
    · cases h
theorem tk_s {s : ByteArray} (hw : isSg s = true) {l r : List Tok} (hl : AllOk l) (h : tk s l = some r) : l = sg s :: r ∧ AllOk r := by
  cases l with
  | nil => cases h
  | cons t l =>
    simp only [tk] at h
    split at h
    · rename_i hc
      cases h
      exact ⟨by rw [tok_s (hl t (by simp)) hc.1 hc.2 hw], hl.tail⟩
    · cases h
theorem one_snd (ws : List ByteArray) (hw : ∀ w ∈ ws, isW w = true) : ∀ (i : Int) (l : List Tok), AllOk l → ∀ x, oneS i ws l = some x → ∃ j : Nat, x.1 = i + j ∧ j < ws.length ∧ l = wd (ws.getD j e0) :: x.2 ∧ AllOk x.2 := by
  induction ws with
  | nil => intro i l _ x h; cases h
  | cons w ws ih =>
    intro i l hl x h
    simp only [oneS] at h
    split at h
    · rename_i r hr
      cases h
      obtain ⟨h1, h2⟩ := tk_w (hw w (by simp)) hl hr
      exact ⟨0, by simp, by simp, by simpa using h1, h2⟩
    · obtain ⟨j, h1, h2, h3, h4⟩ := ih (fun w hw' => hw w (List.mem_cons_of_mem _ hw')) (i + 1) l hl x h
      exact ⟨j + 1, by rw [h1]; push_cast; omega, by simp; omega, by simpa using h3, h4⟩
theorem oneS_snd (ws : List ByteArray) (hw : ∀ w ∈ ws, isW w = true) : Snd (oneS 0 ws) (fun i => [wd (ws.getD i.toNat e0)]) (fun i => 0 ≤ i ∧ i < ws.length) := fun l hl x h => by
  obtain ⟨j, h1, h2, h3, h4⟩ := one_snd ws hw 0 l hl x h
  refine ⟨?_, h4, by rw [h1]; omega, by rw [h1]; omega⟩
  rw [h1, h3]
  simp
theorem name_w {b : ByteArray} (h : isName b = true) : isW b = true := by
  simp only [isName, isWord, Bool.and_eq_true] at h
  have h := h.1
  unfold isW
  cases hb : b.data.toList with
  | nil => rw [hb] at h; cases h
  | cons c r => rw [hb] at h; simp only [isWordL, Bool.and_eq_true] at h; exact h.1.1
theorem nameS_snd : Snd nameS (fun b => [wd b]) (fun b => isName b = true) := fun l hl x h => by
  cases l with
  | nil => cases h
  | cons t l =>
    simp only [nameS] at h
    split at h
    · rename_i hc
      cases h
      refine ⟨?_, hl.tail, hc.2⟩
      have := tok_w (hl t (by simp)) (by rw [hc.1]; decide) rfl (name_w hc.2)
      simpa using this
    · cases h
theorem colS_snd : Snd colS (fun n => [numT n]) (fun n => 0 ≤ n ∧ n ≤ 99) := fun l hl x h => by
  cases l with
  | nil => cases h
  | cons t l =>
    simp only [colS] at h
    split at h
    · rename_i hc
      cases h
      refine ⟨?_, hl.tail, hc.2.2.1, hc.2.2.2⟩
      have : t = numT t.2.2.2.1 := by
        have ht := hl t (by simp)
        cases ht with
        | word _ => exact absurd hc.1 (show ¬ (0 : Int) = 1 by decide)
        | sign _ => exact absurd hc.1 (show ¬ (2 : Int) = 1 by decide)
        | num _ _ => rfl
        | text _ => exact absurd hc.2.1 (show ¬ (3 : Int) = 2 by decide)
      simpa using this
    · cases h
def ValOk (v : Val) : Prop := v = (0, (0, e0)) ∨ v = (1, (0, e0)) ∨ v = (1, (1, e0)) ∨ TokOk (1, (e0, v))
def StepOk (x : Node) : Prop := (x.1 = 10 ∧ x.2 = (0, v0)) ∨ (x.1 = 0 ∧ 0 ≤ x.2.1 ∧ x.2.1 ≤ 99 ∧ x.2.2 = v0) ∨ (x.1 = 1 ∧ x.2.1 = 0 ∧ ValOk x.2.2) ∨ (2 ≤ x.1 ∧ x.1 ≤ 9 ∧ x.2 = (0, v0))
theorem tok_kind {t : Tok} (h : TokOk t) (h1 : t.1 = 1) : t = (1, (e0, t.2.2)) ∧ (t.2.2.1 = 2 ∨ t.2.2.1 = 3) := by
  cases h with
  | word _ => exact absurd h1 (show ¬ (0 : Int) = 1 by decide)
  | sign _ => exact absurd h1 (show ¬ (2 : Int) = 1 by decide)
  | num _ _ => exact ⟨rfl, .inl rfl⟩
  | text _ => exact ⟨rfl, .inr rfl⟩
theorem opOf_spec {b : ByteArray} {op : Int} (h : opOf b = some op) : 2 ≤ op ∧ op ≤ 9 ∧ ((isW b = true ∧ stepT (op, (0, v0)) = [wd b]) ∨ (isSg b = true ∧ stepT (op, (0, v0)) = [sg b])) := by
  unfold opOf at h
  split at h
  · rename_i e; cases h; subst e; exact ⟨by decide, by decide, .inl ⟨by decide, rfl⟩⟩
  split at h
  · rename_i e; cases h; subst e; exact ⟨by decide, by decide, .inl ⟨by decide, rfl⟩⟩
  split at h
  · rename_i e; cases h; subst e; exact ⟨by decide, by decide, .inl ⟨by decide, rfl⟩⟩
  split at h
  · rename_i e; cases h; subst e; exact ⟨by decide, by decide, .inr ⟨by decide, rfl⟩⟩
  split at h
  · rename_i e; cases h; subst e; exact ⟨by decide, by decide, .inr ⟨by decide, rfl⟩⟩
  split at h
  · rename_i e; cases h; subst e; exact ⟨by decide, by decide, .inr ⟨by decide, rfl⟩⟩
  split at h
  · rename_i e; cases h; subst e; exact ⟨by decide, by decide, .inr ⟨by decide, rfl⟩⟩
  split at h
  · rename_i e; cases h; subst e; exact ⟨by decide, by decide, .inr ⟨by decide, rfl⟩⟩
  · cases h
theorem constOf_spec {b : ByteArray} {v : Val} (h : constOf b = some v) : isW b = true ∧ ValOk v ∧ stepT (1, (0, v)) = [wd b] := by
  unfold constOf at h
  split at h
  · rename_i e; cases h; subst e; exact ⟨by decide, .inr (.inr (.inl rfl)), rfl⟩
  split at h
  · rename_i e; cases h; subst e; exact ⟨by decide, .inr (.inl rfl), rfl⟩
  split at h
  · rename_i e; cases h; subst e; exact ⟨by decide, .inl rfl, rfl⟩
  · cases h
theorem colP_spec {l : List UInt8} {n : Int} (h : colP l = some n) : l = 99 :: Lib.itoa n ∧ n ≤ 99 := by
  unfold colP at h
  split at h
  · cases h
  · split at h
    · rename_i c
      subst c
      split at h
      · split at h
        · rename_i hc
          cases h
          exact ⟨by rw [hc.2], hc.1⟩
        · cases h
      · cases h
    · cases h
theorem stepS_snd : Snd stepS stepT StepOk := fun l hl x h => by
  simp only [stepS] at h
  split at h
  · rename_i r hr
    cases h
    simp only [tkL] at hr
    cases h1 : tk (⟨#[110, 117, 108, 108]⟩ : ByteArray) l with
    | none => rw [h1] at hr; cases hr
    | some r1 =>
      rw [h1] at hr
      simp only [Option.bind_some] at hr
      obtain ⟨e1, o1⟩ := tk_w (by decide) hl h1
      cases h2 : tk (⟨#[63]⟩ : ByteArray) r1 with
      | none => rw [h2] at hr; cases hr
      | some r2 =>
        rw [h2] at hr
        cases hr
        obtain ⟨e2, o2⟩ := tk_s (by decide) o1 h2
        exact ⟨by rw [e1, e2]; rfl, o2, .inl ⟨rfl, rfl⟩⟩
  · rename_i hn
    cases l with
    | nil => cases h
    | cons t l =>
      have ht := hl t (by simp)
      simp only at h
      split at h
      · rename_i h1
        cases h
        obtain ⟨e1, e2⟩ := tok_kind ht h1
        refine ⟨?_, hl.tail, .inr (.inr (.inl ⟨rfl, rfl, .inr (.inr (.inr (e1 ▸ ht)))⟩))⟩
        have n1 : t.2.2 ≠ (0, (0, e0)) := fun e => by rw [e] at e2; revert e2; decide
        have n2 : t.2.2 ≠ (1, (0, e0)) := fun e => by rw [e] at e2; revert e2; decide
        have n3 : t.2.2 ≠ (1, (1, e0)) := fun e => by rw [e] at e2; revert e2; decide
        have : stepT (1, (0, t.2.2)) = [t] := by
          simp only [stepT, if_neg n1, if_neg n2, if_neg n3]
          rw [← e1]
          rfl
        rw [this]
        rfl
      · rename_i h1
        split at h
        · rename_i op ho
          cases h
          obtain ⟨o1, o2, o3⟩ := opOf_spec ho
          refine ⟨?_, hl.tail, .inr (.inr (.inr ⟨o1, o2, rfl⟩))⟩
          rcases o3 with ⟨o3, o4⟩ | ⟨o3, o4⟩
          · rw [o4, tok_w ht h1 rfl o3]; rfl
          · rw [o4, tok_s ht h1 rfl o3]; rfl
        · split at h
          · rename_i v hv
            cases h
            obtain ⟨o1, o2, o3⟩ := constOf_spec hv
            refine ⟨?_, hl.tail, .inr (.inr (.inl ⟨rfl, rfl, o2⟩))⟩
            rw [o3, tok_w ht h1 rfl o1]; rfl
          · simp only [Option.map_eq_some_iff] at h
            obtain ⟨n, hn, rfl⟩ := h
            obtain ⟨o1, o2⟩ := colP_spec hn
            have hw : isW t.2.1 = true := by unfold isW; rw [o1]; show letter 99 = true; decide
            have e := tok_w ht h1 rfl hw
            refine ⟨?_, hl.tail, .inr (.inl ⟨rfl, ?_, o2, rfl⟩)⟩
            · have : stepT (0, (n, v0)) = [t] := by
                show [wd (bs (99 :: Lib.itoa n))] = [t]
                rw [← o1, bs_data, ← e]
              rw [this]; rfl
            · show 0 ≤ n
              rcases Int.lt_or_le n 0 with hneg | hpos
              · exfalso
                cases ht with
                | @word w hw' =>
                  simp only [wordT, bs_list] at o1
                  subst o1
                  simp only [isWordL, Bool.and_eq_true, List.all_eq_true] at hw'
                  have h45 : (45 : UInt8) ∈ (99 :: Lib.itoa n) := by
                    unfold Lib.itoa
                    rw [if_pos hneg]
                    simp
                  have := hw'.1.2 _ h45
                  revert this
                  decide
                | sign hc =>
                  simp only [signT, bs_list, List.cons.injEq] at o1
                  obtain ⟨rfl, _⟩ := o1
                  revert hc; decide
                | num _ _ => exact h1 rfl
                | text _ => exact h1 rfl
              · exact hpos
theorem stepsS_snd : ∀ (n : Nat) (l : List Tok), AllOk l → ∀ x, stepsS n l = some x → l = x.1.flatMap stepT ++ sg (⟨#[93]⟩ : ByteArray) :: x.2 ∧ AllOk x.2 ∧ (∀ y ∈ x.1, StepOk y) ∧ x.1.length ≤ n := by
  intro n
  induction n with
  | zero =>
    intro l hl x h
    rw [stepsS] at h
    split at h
    · rename_i r hr
      cases h
      obtain ⟨e, o⟩ := tk_s (by decide) hl hr
      exact ⟨by simpa using e, o, by simp, by simp⟩
    · cases h
  | succ n ih =>
    intro l hl x h
    rw [stepsS] at h
    split at h
    · rename_i r hr
      cases h
      obtain ⟨e, o⟩ := tk_s (by decide) hl hr
      exact ⟨by simpa using e, o, by simp, by simp⟩
    · simp only [Option.bind_eq_some_iff, Option.map_eq_some_iff] at h
      obtain ⟨y, hy, z, hz, rfl⟩ := h
      obtain ⟨a1, a2, a3⟩ := stepS_snd l hl y hy
      obtain ⟨b1, b2, b3, b4⟩ := ih y.2 a2 z hz
      refine ⟨?_, b2, ?_, by simp; omega⟩
      · rw [a1, b1]; simp
      · intro u hu
        rcases List.mem_cons.1 hu with rfl | hu
        · exact a3
        · exact b3 u hu
def ExprOk (e : List Node) : Prop := (∀ y ∈ e, StepOk y) ∧ e.length ≤ 100
theorem exprS_snd : Snd exprS exprT ExprOk := fun l hl x h => by
  simp only [exprS, Option.bind_eq_some_iff] at h
  obtain ⟨r, hr, h⟩ := h
  obtain ⟨e, o⟩ := tk_s (by decide) hl hr
  obtain ⟨a, b, c, d⟩ := stepsS_snd 100 r o x h
  exact ⟨by rw [e, a]; simp [exprT], b, c, d⟩
theorem flag_snd {s : ByteArray} (hs : isW s = true) {l : List Tok} (hl : AllOk l) : l = (if (flag s l).1 then [wd s] else []) ++ (flag s l).2 ∧ AllOk (flag s l).2 := by
  unfold flag
  cases h : tk s l with
  | none => exact ⟨rfl, hl⟩
  | some r =>
    obtain ⟨e, o⟩ := tk_w hs hl h
    exact ⟨by simpa using e, o⟩
theorem name_ne {b : ByteArray} (h : isName b = true) : b ≠ e0 := fun e => by subst e; revert h; decide
theorem refS_snd : Snd refS (fun x => if x.1 = e0 then [] else [wd (⟨#[114, 101, 102]⟩ : ByteArray), wd x.1, wd (acts.getD x.2.toNat e0)]) (fun x => (x.1 = e0 ∧ x.2 = 0) ∨ (isName x.1 = true ∧ 0 ≤ x.2 ∧ x.2 < 3)) := fun l hl x h => by
  unfold refS at h
  split at h
  · cases h; exact ⟨by simp, hl, .inl ⟨rfl, rfl⟩⟩
  · rename_i r hr
    simp only [Option.bind_eq_some_iff, Option.map_eq_some_iff] at h
    obtain ⟨y, hy, z, hz, rfl⟩ := h
    obtain ⟨e, o⟩ := tk_w (by decide) hl hr
    obtain ⟨a1, a2, a3⟩ := nameS_snd r o y hy
    obtain ⟨b1, b2, b3⟩ := oneS_snd acts (by decide) y.2 a2 z hz
    refine ⟨?_, b2, .inr ⟨a3, b3⟩⟩
    simp only [if_neg (name_ne a3)]
    rw [e, a1, b1]
    rfl
def ColOk (c : Col) : Prop := isName c.1 = true ∧ 1 ≤ c.2.1 ∧ c.2.1 ≤ 3 ∧ ((c.2.2.2.2.1 = e0 ∧ c.2.2.2.2.2 = 0) ∨ (isName c.2.2.2.2.1 = true ∧ 0 ≤ c.2.2.2.2.2 ∧ c.2.2.2.2.2 < 3))
theorem columnS_snd : Snd columnS columnT ColOk := fun l hl x h => by
  simp only [columnS, Option.bind_eq_some_iff, Option.map_eq_some_iff] at h
  obtain ⟨y, hy, z, hz, u, hu, rfl⟩ := h
  obtain ⟨a1, a2, a3⟩ := nameS_snd l hl y hy
  obtain ⟨b1, b2, b3, b4⟩ := oneS_snd kinds (by decide) y.2 a2 z hz
  obtain ⟨c1, c2⟩ := flag_snd (s := (⟨#[110, 117, 108, 108]⟩ : ByteArray)) (by decide) b2
  obtain ⟨d1, d2⟩ := flag_snd (s := (⟨#[117, 110, 105, 113, 117, 101]⟩ : ByteArray)) (by decide) c2
  obtain ⟨f1, f2, f3⟩ := refS_snd _ d2 u hu
  have b4 : z.1 < 3 := b4
  refine ⟨?_, f2, a3, by simp; omega, by simp; omega, f3⟩
  simp only [columnT]
  rw [show 1 + z.1 - 1 = z.1 by omega]
  conv => lhs; rw [a1, b1, c1, d1, f1]
  simp
theorem sepS_snd {α : Type} {p : List Tok → Option (α × List Tok)} {f : α → List Tok} {G : α → Prop} (hp : Snd p f G) : ∀ (n : Nat) (l : List Tok), AllOk l → ∀ x, sepS p n l = some x → l = sepT f x.1 ++ x.2 ∧ AllOk x.2 ∧ (∀ y ∈ x.1, G y) ∧ 1 ≤ x.1.length ∧ x.1.length ≤ n + 1 := by
  intro n
  induction n with
  | zero =>
    intro l hl x h
    rw [sepS] at h
    simp only [Option.bind_eq_some_iff] at h
    obtain ⟨y, hy, h⟩ := h
    obtain ⟨a1, a2, a3⟩ := hp l hl y hy
    split at h
    · cases h; exact ⟨a1, a2, by simpa using a3, by simp, by simp⟩
    · cases h
  | succ n ih =>
    intro l hl x h
    rw [sepS] at h
    simp only [Option.bind_eq_some_iff] at h
    obtain ⟨y, hy, h⟩ := h
    obtain ⟨a1, a2, a3⟩ := hp l hl y hy
    split at h
    · cases h; exact ⟨a1, a2, by simpa using a3, by simp, by simp⟩
    · rename_i r hr
      simp only [Option.map_eq_some_iff] at h
      obtain ⟨z, hz, rfl⟩ := h
      obtain ⟨e, o⟩ := tk_s (by decide) a2 hr
      obtain ⟨b1, b2, b3, b4, b5⟩ := ih r o z hz
      refine ⟨?_, b2, ?_, by simp, by simp; omega⟩
      · conv => lhs; rw [a1, e, b1]
        cases hz1 : z.1 with
        | nil => rw [hz1] at b4; simp at b4
        | cons u v => simp [sepT]
      · intro u hu
        rcases List.mem_cons.1 hu with rfl | hu
        · exact a3
        · exact b3 u hu
theorem checksS_snd : ∀ (n : Nat) (l : List Tok), AllOk l → ∀ x, checksS n l = some x → l = (x.1.flatMap fun e => wd (⟨#[99, 104, 101, 99, 107]⟩ : ByteArray) :: exprT e) ++ x.2 ∧ AllOk x.2 ∧ (∀ y ∈ x.1, ExprOk y) ∧ x.1.length ≤ n := by
  intro n
  induction n with
  | zero =>
    intro l hl x h
    rw [checksS] at h
    split at h
    · cases h; exact ⟨by simp, hl, by simp, by simp⟩
    · cases h
  | succ n ih =>
    intro l hl x h
    rw [checksS] at h
    split at h
    · cases h; exact ⟨by simp, hl, by simp, by simp⟩
    · rename_i r hr
      simp only [Option.bind_eq_some_iff, Option.map_eq_some_iff] at h
      obtain ⟨y, hy, z, hz, rfl⟩ := h
      obtain ⟨e, o⟩ := tk_w (by decide) hl hr
      obtain ⟨a1, a2, a3⟩ := exprS_snd r o y hy
      obtain ⟨b1, b2, b3, b4⟩ := ih y.2 a2 z hz
      refine ⟨?_, b2, ?_, by simp; omega⟩
      · conv => lhs; rw [e, a1, b1]
        simp
      · intro u hu
        rcases List.mem_cons.1 hu with rfl | hu
        · exact a3
        · exact b3 u hu
structure TabOk (t : Tab) : Prop where
  name : isName t.1 = true
  cols : ∀ c ∈ t.2.1, ColOk c
  checks : ∀ e ∈ t.2.2, ExprOk e
  some : 1 ≤ t.2.1.length
  most : t.2.1.length ≤ 40
  most2 : t.2.2.length ≤ 40
theorem tableS_snd : ∀ l, AllOk l → ∀ x, tableS l = some x → wd (⟨#[116, 97, 98, 108, 101]⟩ : ByteArray) :: l = tableT x.1 ++ x.2 ∧ AllOk x.2 ∧ TabOk x.1 := fun l hl x h => by
  simp only [tableS, Option.bind_eq_some_iff, Option.map_eq_some_iff] at h
  obtain ⟨y, hy, r, hr, z, hz, r2, hr2, u, hu, rfl⟩ := h
  obtain ⟨a1, a2, a3⟩ := nameS_snd l hl y hy
  obtain ⟨b1, b2⟩ := tk_s (by decide) a2 hr
  obtain ⟨c1, c2, c3, c4, c5⟩ := sepS_snd columnS_snd 39 r b2 z hz
  obtain ⟨d1, d2⟩ := tk_s (by decide) c2 hr2
  obtain ⟨f1, f2, f3, f4⟩ := checksS_snd 40 r2 d2 u hu
  refine ⟨?_, f2, ⟨a3, c3, f3, c4, c5, f4⟩⟩
  conv => lhs; rw [a1, b1, c1, d1, f1]
  simp [tableT]
def AggOk (a : Agg) : Prop := 0 ≤ a.1 ∧ a.1 < 4 ∧ 0 ≤ a.2 ∧ a.2 ≤ 99 ∧ (a.1 = 0 → a.2 = 0)
theorem aggS_snd : Snd aggS aggT AggOk := fun l hl x h => by
  simp only [aggS, Option.bind_eq_some_iff] at h
  obtain ⟨y, hy, h⟩ := h
  obtain ⟨a1, a2, a3, a4⟩ := oneS_snd fns (by decide) l hl y hy
  have a4 : y.1 < 4 := a4
  split at h
  · rename_i h0
    cases h
    refine ⟨?_, a2, by simp [AggOk]⟩
    rw [a1, h0]; rfl
  · rename_i h0
    simp only [Option.map_eq_some_iff] at h
    obtain ⟨z, hz, rfl⟩ := h
    obtain ⟨b1, b2, b3, b4⟩ := colS_snd y.2 a2 z hz
    refine ⟨?_, b2, a3, a4, b3, b4, fun e => absurd e h0⟩
    conv => lhs; rw [a1, b1]
    simp [aggT, if_neg h0, intT]
theorem joinS_snd : Snd joinS (fun x => if x.1 = e0 then [] else wd (⟨#[106, 111, 105, 110]⟩ : ByteArray) :: wd x.1 :: wd (⟨#[111, 110]⟩ : ByteArray) :: numT x.2.1 :: sg (⟨#[61]⟩ : ByteArray) :: [numT x.2.2]) (fun x => (x.1 = e0 ∧ x.2 = (0, 0)) ∨ (isName x.1 = true ∧ 0 ≤ x.2.1 ∧ x.2.1 ≤ 99 ∧ 0 ≤ x.2.2 ∧ x.2.2 ≤ 99)) := fun l hl x h => by
  unfold joinS at h
  split at h
  · cases h; exact ⟨by simp, hl, .inl ⟨rfl, rfl⟩⟩
  · rename_i r hr
    simp only [Option.bind_eq_some_iff, Option.map_eq_some_iff] at h
    obtain ⟨y, hy, r2, hr2, a, ha, r3, hr3, b, hb, rfl⟩ := h
    obtain ⟨e, o⟩ := tk_w (by decide) hl hr
    obtain ⟨a1, a2, a3⟩ := nameS_snd r o y hy
    obtain ⟨b1, b2⟩ := tk_w (by decide) a2 hr2
    obtain ⟨c1, c2, c3, c4⟩ := colS_snd r2 b2 a ha
    obtain ⟨d1, d2⟩ := tk_s (by decide) c2 hr3
    obtain ⟨f1, f2, f3, f4⟩ := colS_snd r3 d2 b hb
    refine ⟨?_, f2, .inr ⟨a3, c3, c4, f3, f4⟩⟩
    simp only [if_neg (name_ne a3)]
    conv => lhs; rw [e, a1, b1, c1, d1, f1]
    simp
theorem whereS_snd : ∀ l, AllOk l → ∀ x, whereS l = some x → (l = (if x.1 = [] then [] else wd (⟨#[119, 104, 101, 114, 101]⟩ : ByteArray) :: exprT x.1) ++ x.2 ∨ (x.1 = [] ∧ l = [wd (⟨#[119, 104, 101, 114, 101]⟩ : ByteArray), sg (⟨#[91]⟩ : ByteArray), sg (⟨#[93]⟩ : ByteArray)] ++ x.2)) ∧ AllOk x.2 ∧ ExprOk x.1 := fun l hl x h => by
  unfold whereS at h
  split at h
  · cases h; exact ⟨.inl (by simp), hl, by simp [ExprOk]⟩
  · rename_i r hr
    obtain ⟨e, o⟩ := tk_w (by decide) hl hr
    obtain ⟨a1, a2, a3⟩ := exprS_snd r o x h
    refine ⟨?_, a2, a3⟩
    by_cases h0 : x.1 = []
    · right
      refine ⟨h0, ?_⟩
      rw [e, a1, h0]
      rfl
    · left
      rw [if_neg h0, e, List.cons_append]
      exact congrArg _ a1
theorem pickS_snd : Snd pickS (sepT intT) (fun p => (∀ n ∈ p, 0 ≤ n ∧ n ≤ 99) ∧ p.length ≤ 40) := fun l hl x h => by
  unfold pickS at h
  split at h
  · cases h; exact ⟨by simp [sepT], hl, by simp⟩
  · obtain ⟨a, b, c, d, e⟩ := sepS_snd (f := intT) colS_snd 39 l hl x h
    exact ⟨a, b, c, e⟩
theorem groupS_snd : Snd groupS (fun x => (if x.1 then [wd (⟨#[103, 114, 111, 117, 112]⟩ : ByteArray)] else []) ++ sepT aggT x.2) (fun x => (∀ a ∈ x.2, AggOk a) ∧ x.2.length ≤ 40 ∧ (x.1 = true ∨ x.2 = [])) := fun l hl x h => by
  unfold groupS at h
  split at h
  · cases h; exact ⟨by simp [sepT], hl, by simp⟩
  · rename_i r hr
    obtain ⟨e, o⟩ := tk_w (by decide) hl hr
    split at h
    · cases h; exact ⟨by simpa [sepT] using e, o, by simp⟩
    · simp only [Option.map_eq_some_iff] at h
      obtain ⟨z, hz, rfl⟩ := h
      obtain ⟨a, b, c, d, f⟩ := sepS_snd aggS_snd 39 r o z hz
      exact ⟨by rw [e, a]; simp, b, c, f, .inl rfl⟩
structure ViewOk (v : View) : Prop where
  name : isName v.1 = true
  fr : isName v.2.1 = true
  join : (v.2.2.1 = e0 ∧ v.2.2.2.1 = (0, 0)) ∨ (isName v.2.2.1 = true ∧ 0 ≤ v.2.2.2.1.1 ∧ v.2.2.2.1.1 ≤ 99 ∧ 0 ≤ v.2.2.2.1.2 ∧ v.2.2.2.1.2 ≤ 99)
  whr : ExprOk v.2.2.2.2.1
  pick : ∀ n ∈ v.2.2.2.2.2.1, 0 ≤ n ∧ n ≤ 99
  most : v.2.2.2.2.2.1.length ≤ 40
  aggs : ∀ a ∈ v.2.2.2.2.2.2.2, AggOk a
  most2 : v.2.2.2.2.2.2.2.length ≤ 40
  group : v.2.2.2.2.2.2.1 = true ∨ v.2.2.2.2.2.2.2 = []
theorem tk_wd (s : ByteArray) (l : List Tok) : tk s (wd s :: l) = some l := by simp [tk, wd]
theorem tk_sg (s : ByteArray) (l : List Tok) : tk s (sg s :: l) = some l := by simp [tk, sg]
theorem nameS_wd {b : ByteArray} (h : isName b = true) (l : List Tok) : nameS (wd b :: l) = some (b, l) := by simp [nameS, wd, h]
theorem colS_num {n : Int} (h : 0 ≤ n ∧ n ≤ 99) (l : List Tok) : colS (numT n :: l) = some (n, l) := by simp [colS, numT, h]
theorem viewS_snd : ∀ l, AllOk l → ∀ x, viewS l = some x → ∃ l', viewS l' = some x ∧ l'.Sublist l ∧ wd (⟨#[118, 105, 101, 119]⟩ : ByteArray) :: l' = viewT x.1 ++ x.2 ∧ AllOk x.2 ∧ ViewOk x.1 := fun l hl x h => by
  simp only [viewS, Option.bind_eq_some_iff, Option.map_eq_some_iff] at h
  obtain ⟨y, hy, r, hr, f, hf, j, hj, w, hw, r2, hr2, p, hp, g, hg, rfl⟩ := h
  obtain ⟨a1, a2, a3⟩ := nameS_snd l hl y hy
  obtain ⟨b1, b2⟩ := tk_w (by decide) a2 hr
  obtain ⟨c1, c2, c3⟩ := nameS_snd r b2 f hf
  obtain ⟨d1, d2, d3⟩ := joinS_snd f.2 c2 j hj
  obtain ⟨f1, f2, f3⟩ := whereS_snd j.2 d2 w hw
  obtain ⟨g1, g2⟩ := tk_w (by decide) f2 hr2
  obtain ⟨i1, i2, i3⟩ := pickS_snd r2 g2 p hp
  obtain ⟨k1, k2, k3⟩ := groupS_snd p.2 i2 g hg
  have hV : ViewOk (y.1, (f.1, (j.1.1, (j.1.2, (w.1, (p.1, g.1)))))) := ⟨a3, c3, d3, f3, i3.1, i3.2, k3.1, k3.2.1, k3.2.2⟩
  let J : List Tok := if j.1.1 = e0 then [] else wd (⟨#[106, 111, 105, 110]⟩ : ByteArray) :: wd j.1.1 :: wd (⟨#[111, 110]⟩ : ByteArray) :: numT j.1.2.1 :: sg (⟨#[61]⟩ : ByteArray) :: [numT j.1.2.2]
  let W : List Tok := if w.1 = [] then [] else wd (⟨#[119, 104, 101, 114, 101]⟩ : ByteArray) :: exprT w.1
  have hT : wd (⟨#[118, 105, 101, 119]⟩ : ByteArray) :: (wd y.1 :: wd (⟨#[102, 114, 111, 109]⟩ : ByteArray) :: wd f.1 :: (J ++ (W ++ w.2))) = viewT (y.1, (f.1, (j.1.1, (j.1.2, (w.1, (p.1, g.1)))))) ++ g.2 := by
    rw [g1, i1, k1]
    simp [viewT, J, W]
  rcases f1 with f1 | ⟨f0, f1⟩
  · have hl' : l = wd y.1 :: wd (⟨#[102, 114, 111, 109]⟩ : ByteArray) :: wd f.1 :: (J ++ (W ++ w.2)) := by rw [a1, b1, c1, d1, f1]; rfl
    refine ⟨l, ?_, List.Sublist.refl _, by rw [← hT, hl'], k2, hV⟩
    simp only [viewS, hy, hr, hf, hj, hw, hr2, hp, hg, Option.bind_some, Option.map_some]
  · have hW : W = [] := if_pos f0
    refine ⟨wd y.1 :: wd (⟨#[102, 114, 111, 109]⟩ : ByteArray) :: wd f.1 :: (J ++ (W ++ w.2)), ?_, ?_, hT, k2, hV⟩
    · have hj' : joinS (J ++ w.2) = some (j.1, w.2) := by
        rcases d3 with ⟨d3, d4⟩ | ⟨d3, d4, d5, d6, d7⟩
        · have hJ : J = [] := if_pos d3
          have : tk (⟨#[106, 111, 105, 110]⟩ : ByteArray) w.2 = none := by rw [g1]; rfl
          rw [hJ, List.nil_append]
          simp only [joinS, this]
          rw [← d3, ← d4]
        · have hJ : J = wd (⟨#[106, 111, 105, 110]⟩ : ByteArray) :: wd j.1.1 :: wd (⟨#[111, 110]⟩ : ByteArray) :: numT j.1.2.1 :: sg (⟨#[61]⟩ : ByteArray) :: [numT j.1.2.2] := if_neg (name_ne d3)
          rw [hJ]
          simp only [List.cons_append, List.nil_append, joinS, tk_wd, nameS_wd d3, colS_num ⟨d4, d5⟩, tk_sg, colS_num ⟨d6, d7⟩, Option.bind_some, Option.map_some]
      have hw' : whereS w.2 = some ([], w.2) := by
        have : tk (⟨#[119, 104, 101, 114, 101]⟩ : ByteArray) w.2 = none := by rw [g1]; rfl
        simp only [whereS, this]
      rw [hW, List.nil_append]
      simp only [viewS, nameS_wd a3, tk_wd, nameS_wd c3, hj', hw', hr2, hp, hg, Option.bind_some, Option.map_some, f0]
    · rw [hW, List.nil_append]
      have hl' : l = wd y.1 :: wd (⟨#[102, 114, 111, 109]⟩ : ByteArray) :: wd f.1 :: (J ++ ([wd (⟨#[119, 104, 101, 114, 101]⟩ : ByteArray), sg (⟨#[91]⟩ : ByteArray), sg (⟨#[93]⟩ : ByteArray)] ++ w.2)) := by rw [a1, b1, c1, d1, f1]; rfl
      rw [hl']
      refine List.Sublist.cons_cons _ (List.Sublist.cons_cons _ (List.Sublist.cons_cons _ (List.Sublist.append (List.Sublist.refl _) ?_)))
      exact List.sublist_append_right _ _
inductive DefOk : Def → Prop
  | tab {t : Tab} : TabOk t → DefOk (0, (t, view0))
  | view {v : View} : ViewOk v → DefOk (1, (tab0, v))
/-- WHAT IS PARSED: its tokens are some of those that stood there, and are parsed as it -/
theorem parseS_back {l : List Tok} (hl : AllOk l) {d : Def} (h : parseS l = some d) : (defT d).Sublist l ∧ parseS (defT d) = some d ∧ DefOk d := by
  simp only [parseS, Option.bind_eq_some_iff] at h
  obtain ⟨x, hx, h⟩ := h
  split at h
  · rename_i h0
    cases h
    simp only [defS, Option.bind_eq_some_iff] at hx
    obtain ⟨y, hy, hx⟩ := hx
    obtain ⟨a1, a2, a3, a4⟩ := oneS_snd [(⟨#[116, 97, 98, 108, 101]⟩ : ByteArray), (⟨#[118, 105, 101, 119]⟩ : ByteArray)] (by decide) l hl y hy
    have a4 : y.1 < 2 := a4
    split at hx
    · rename_i h1
      simp only [Option.map_eq_some_iff] at hx
      obtain ⟨z, hz, rfl⟩ := hx
      obtain ⟨b1, b2, b3⟩ := tableS_snd y.2 a2 z hz
      have h0 : z.2 = [] := h0
      have e : defT (0, (z.1, view0)) = l := by
        show tableT z.1 = l
        rw [a1, h1]
        rw [h0, List.append_nil] at b1
        exact b1.symm
      rw [e]
      refine ⟨List.Sublist.refl _, ?_, .tab b3⟩
      simp only [parseS, defS, hy, Option.bind_some, if_pos h1, hz, Option.map_some, h0, if_true]
    · rename_i h1
      simp only [Option.map_eq_some_iff] at hx
      obtain ⟨z, hz, rfl⟩ := hx
      have h1' : y.1 = 1 := by omega
      obtain ⟨l', c1, c2, b1, b2, b3⟩ := viewS_snd y.2 a2 z hz
      have h0 : z.2 = [] := h0
      have e : defT (y.1, (tab0, z.1)) = wd (⟨#[118, 105, 101, 119]⟩ : ByteArray) :: l' := by
        rw [h1']
        show viewT z.1 = _
        rw [h0, List.append_nil] at b1
        exact b1.symm
      have el : l = wd (⟨#[118, 105, 101, 119]⟩ : ByteArray) :: y.2 := by rw [a1, h1']; rfl
      rw [e]
      refine ⟨by rw [el]; exact c2.cons_cons _, ?_, by rw [h1']; exact .view b3⟩
      have o : oneS 0 [(⟨#[116, 97, 98, 108, 101]⟩ : ByteArray), (⟨#[118, 105, 101, 119]⟩ : ByteArray)] (wd (⟨#[118, 105, 101, 119]⟩ : ByteArray) :: l') = some (1, l') := by
        simp only [oneS]
        have : tk (⟨#[116, 97, 98, 108, 101]⟩ : ByteArray) (wd (⟨#[118, 105, 101, 119]⟩ : ByteArray) :: l') = none := rfl
        rw [this, tk_wd]
        rfl
      simp only [parseS, defS, o, Option.bind_some, c1, Option.map_some, h0, if_true, h1']
      rfl
  · cases h
end Dl
