import Derived.Test.YtnogebfcpicghaaGreatDoorP2
import Derived.Lib.Replace
import Derived.Lib.Join
set_option linter.all false
set_option linter.unusedVariables false
set_option linter.unusedSimpArgs false
set_option linter.unusedSectionVars false
/- the plain printer: words -/
namespace Dl
open Go
theorem index_split : ∀ s : List UInt8, (Lib.index s [39] = -1 ∧ (39 : UInt8) ∉ s) ∨ ∃ a r, s = a ++ 39 :: r ∧ (39 : UInt8) ∉ a ∧ Lib.index s [39] = a.length := by
  intro s
  induction s with
  | nil => left; exact ⟨rfl, by simp⟩
  | cons c l ih =>
    by_cases h : c = 39
    · right
      subst h
      exact ⟨[], l, rfl, by simp, by simp [Lib.index, List.isPrefixOf]⟩
    · have hp : ([39] : List UInt8).isPrefixOf (c :: l) = false := by
        simp only [List.isPrefixOf, Bool.and_eq_false_iff]
        left
        simp; exact fun e => h e.symm
      rcases ih with ⟨h1, h2⟩ | ⟨a, r, h1, h2, h3⟩
      · left
        refine ⟨?_, ?_⟩
        · simp [Lib.index, hp, h1]
        · intro hm
          rcases List.mem_cons.1 hm with e | hm
          · exact h e.symm
          · exact h2 hm
      · right
        refine ⟨c :: a, r, by rw [h1]; rfl, ?_, ?_⟩
        · intro hm
          rcases List.mem_cons.1 hm with e | hm
          · exact h e.symm
          · exact h2 hm
        · have hn : ¬ Lib.index l [39] = -1 := by omega
          simp [Lib.index, hp, hn, h3]
theorem dbl_app (a b : List UInt8) : dbl (a ++ b) = dbl a ++ dbl b := by
  induction a with
  | nil => rfl
  | cons c a ih => simp only [List.cons_append, dbl, ih]; split <;> simp
theorem dbl_none {a : List UInt8} (h : (39 : UInt8) ∉ a) : dbl a = a := by
  induction a with
  | nil => rfl
  | cons c a ih =>
    have hc : ¬ c = 39 := fun e => h (by simp [e])
    simp only [dbl, if_neg hc]
    rw [ih (fun hm => h (List.mem_cons_of_mem _ hm))]
theorem rep_dbl : ∀ (n : Nat) (s : List UInt8), s.length ≤ n → ∀ f, s.length < f → Lib.replaceK [39] [39, 39] (Lib.countFrom [39] f s) s = dbl s ∧ Lib.countFrom [39] f s ≤ s.length := by
  intro n
  induction n with
  | zero =>
    intro s hs f hf
    cases s with
    | cons _ _ => simp at hs
    | nil =>
      cases f with
      | zero => simp at hf
      | succ f =>
        have : Lib.countFrom [39] (f + 1) [] = 0 := by simp [Lib.countFrom, Lib.index]
        rw [this]
        exact ⟨rfl, Nat.le_refl _⟩
  | succ n ih =>
    intro s hs f hf
    cases f with
    | zero => omega
    | succ f =>
      rcases index_split s with ⟨h1, h2⟩ | ⟨a, r, h1, h2, h3⟩
      · have hc : Lib.countFrom [39] (f + 1) s = 0 := by simp [Lib.countFrom, h1]
        rw [hc]
        exact ⟨by rw [dbl_none h2]; rfl, by omega⟩
      · have hn : ¬ (Lib.index s [39] == -1) = true := by rw [beq_iff_eq]; omega
        have hd : s.drop ((Lib.index s [39]).toNat + 1) = r := by
          rw [h3, h1]
          simp only [Int.toNat_natCast]
          rw [show a.length + 1 = (a ++ [39]).length by simp, show a ++ 39 :: r = (a ++ [39]) ++ r by simp, List.drop_left]
        have hc : Lib.countFrom [39] (f + 1) s = Lib.countFrom [39] f r + 1 := by
          rw [Lib.countFrom, if_neg hn]
          rw [show ([39] : List UInt8).length = 1 from rfl, hd, Nat.add_comm]
        have hl : s.length = a.length + 1 + r.length := by rw [h1]; simp; omega
        obtain ⟨i1, i2⟩ := ih r (by omega) f (by omega)
        rw [hc, Lib.replaceK_hit _ _ _ _ _ h3]
        have hd' : s.drop (a.length + ([39] : List UInt8).length) = r := by rw [h3] at hd; simpa using hd
        rw [hd', i1]
        have ht : s.take a.length = a := by rw [h1]; simp
        refine ⟨?_, by omega⟩
        rw [ht, h1, dbl_app, dbl_none h2]
        simp [dbl]
theorem replaceAll_dbl (s : List UInt8) : Lib.replaceAll s [39] [39, 39] = dbl s := by
  unfold Lib.replaceAll Lib.replace
  have : (([39] : List UInt8) == [39, 39]) = false := by decide
  rw [if_neg (by rw [this]; simp)]
  have hn : Lib.replaceNum s [39] (-1) = Lib.count s [39] := by unfold Lib.replaceNum; rw [if_pos (.inl (by decide))]
  rw [hn]
  exact (rep_dbl s.length s (Nat.le_refl _) _ (by omega)).1
theorem count_le (s : List UInt8) : Lib.count s [39] ≤ s.length := (rep_dbl s.length s (Nat.le_refl _) _ (by omega)).2
theorem join_joinL (l : List (List UInt8)) : Lib.join l [32] = joinL l := by
  induction l with
  | nil => rfl
  | cons w l ih =>
    cases l with
    | nil => rw [Lib.join_one]; rfl
    | cons v l =>
      rw [joinL_cons w (by simp), ← ih, Lib.join_cons, Lib.join_cons]
      simp [Lib.joinTail]

/-! ## Words -/
def wordW (n : Int) (ws : List ByteArray) : ByteArray := if n < 0 ∨ (ws.length : Int) ≤ n then (⟨#[33]⟩ : ByteArray) else ws.getD n.toNat e0
def opWords : List ByteArray := [(⟨#[43]⟩ : ByteArray), (⟨#[45]⟩ : ByteArray), (⟨#[42]⟩ : ByteArray), (⟨#[61]⟩ : ByteArray), (⟨#[60]⟩ : ByteArray), (⟨#[97, 110, 100]⟩ : ByteArray), (⟨#[111, 114]⟩ : ByteArray), (⟨#[110, 111, 116]⟩ : ByteArray), (⟨#[110, 117, 108, 108, 32, 63]⟩ : ByteArray)]
def vMay (v : Val) : Bool := (decide (v.1 = 2) && decide (v.2.2 = e0)) || (decide (v.1 = 3) && (decide (v.2.1 = 0) && decide (v.2.2.size ≤ 1000)))
def constW (v : Val) : ByteArray := if v = (0, (0, e0)) then (⟨#[110, 117, 108, 108]⟩ : ByteArray) else if v = (1, (0, e0)) then (⟨#[102, 97, 108, 115, 101]⟩ : ByteArray) else if v = (1, (1, e0)) then (⟨#[116, 114, 117, 101]⟩ : ByteArray) else if vMay v then bs (showT (1, (e0, v))) else (⟨#[33]⟩ : ByteArray)
def stepW (x : Node) : ByteArray := if x.1 = 0 then bs (99 :: Lib.itoa x.2.1) else if x.1 = 1 then constW x.2.2 else wordW (IntKind.i64.wrap (x.1 - 2)) opWords
def exprW (e : List Node) : List ByteArray := (⟨#[91]⟩ : ByteArray) :: e.map stepW ++ [(⟨#[93]⟩ : ByteArray)]
/-- parted by commas: b: is there one ahead? -/
def sepW {α : Type} (f : α → List ByteArray) : Bool → List α → List ByteArray
  | _, [] => []
  | b, x :: r => (if b then [(⟨#[44]⟩ : ByteArray)] else []) ++ f x ++ sepW f true r
def colW (c : Col) : List ByteArray := [c.1, wordW (IntKind.i64.wrap (c.2.1 - 1)) kinds] ++ ((if c.2.2.1 then [(⟨#[110, 117, 108, 108]⟩ : ByteArray)] else []) ++ ((if c.2.2.2.1 then [(⟨#[117, 110, 105, 113, 117, 101]⟩ : ByteArray)] else []) ++ (if c.2.2.2.2.1 = e0 then [] else [(⟨#[114, 101, 102]⟩ : ByteArray), c.2.2.2.2.1, wordW c.2.2.2.2.2 acts])))
def checkW (e : List Node) : List ByteArray := (⟨#[99, 104, 101, 99, 107]⟩ : ByteArray) :: exprW e
def tableW (t : Tab) : List ByteArray := [(⟨#[116, 97, 98, 108, 101]⟩ : ByteArray), t.1, (⟨#[40]⟩ : ByteArray)] ++ sepW colW false t.2.1 ++ [(⟨#[41]⟩ : ByteArray)] ++ t.2.2.flatMap checkW
def pickW (n : Int) : List ByteArray := [bs (Lib.itoa n)]
def aggW (a : Agg) : List ByteArray := wordW a.1 fns :: (if a.1 = 0 then [] else [bs (Lib.itoa a.2)])
def viewW (v : View) : List ByteArray := [(⟨#[118, 105, 101, 119]⟩ : ByteArray), v.1, (⟨#[102, 114, 111, 109]⟩ : ByteArray), v.2.1] ++ (if v.2.2.1 = e0 then [] else [(⟨#[106, 111, 105, 110]⟩ : ByteArray), v.2.2.1, (⟨#[111, 110]⟩ : ByteArray), bs (Lib.itoa v.2.2.2.1.1), (⟨#[61]⟩ : ByteArray), bs (Lib.itoa v.2.2.2.1.2)]) ++
  (if v.2.2.2.2.1 = [] then [] else (⟨#[119, 104, 101, 114, 101]⟩ : ByteArray) :: exprW v.2.2.2.2.1) ++ [(⟨#[112, 105, 99, 107]⟩ : ByteArray)] ++ sepW pickW false v.2.2.2.2.2.1 ++ (if v.2.2.2.2.2.2.1 then [(⟨#[103, 114, 111, 117, 112]⟩ : ByteArray)] else []) ++ sepW aggW false v.2.2.2.2.2.2.2
def defW (d : Def) : List ByteArray := if d.1 = 0 then tableW d.2.1 else viewW d.2.2
def textW (d : Def) : List UInt8 := joinL ((defW d).map fun w => w.data.toList)
open Classical in
noncomputable def printS (d : Def) : List UInt8 := if 20000 < (textW d).length then [] else if readS (textW d) = (d, 0) then textW d else []
/-! ### Words and tokens have the same text -/
/-- the same text, whatever stands around -/
def Sep (a : List ByteArray) (b : List Tok) : Prop := ∀ (p q : List (List UInt8)), joinL (p ++ a.map (fun w => w.data.toList) ++ q) = joinL (p ++ b.map showT ++ q)
theorem Sep.of {a : List ByteArray} {b : List Tok} (h : a.map (fun w => w.data.toList) = b.map showT) : Sep a b := fun p q => by rw [h]
theorem Sep.app {a a' : List ByteArray} {b b' : List Tok} (h : Sep a b) (h' : Sep a' b') : Sep (a ++ a') (b ++ b') := fun p q => by
  rw [List.map_append, List.map_append]
  have e1 := h p (a'.map (fun w => w.data.toList) ++ q)
  have e2 := h' (p ++ b.map showT) q
  simp only [List.append_assoc] at e1 e2 ⊢
  rw [e1, e2]
theorem Sep.cons {w : ByteArray} {t : Tok} (h : w.data.toList = showT t) {a' : List ByteArray} {b' : List Tok} (h' : Sep a' b') : Sep (w :: a') (t :: b') := Sep.app (a := [w]) (b := [t]) (.of (by simp [h])) h'
theorem Sep.nil : Sep [] [] := .of rfl
theorem show_wd (s : ByteArray) : s.data.toList = showT (wd s) := rfl
theorem show_sg (s : ByteArray) : s.data.toList = showT (sg s) := rfl
theorem Sep.join {a : List ByteArray} {b : List Tok} (h : Sep a b) : joinL (a.map fun w => w.data.toList) = joinL (b.map showT) := by
  have := h [] []
  simpa using this
theorem joinL_split (p q : List (List UInt8)) (u v : List UInt8) : joinL (p ++ [u ++ 32 :: v] ++ q) = joinL (p ++ [u, v] ++ q) := by
  induction p with
  | nil =>
    cases q with
    | nil => simp [joinL]
    | cons w q =>
      have h1 : joinL ([] ++ [u ++ 32 :: v] ++ w :: q) = (u ++ 32 :: v) ++ 32 :: joinL (w :: q) := joinL_cons _ (by simp)
      have h2 : joinL ([] ++ [u, v] ++ w :: q) = u ++ 32 :: joinL (v :: w :: q) := joinL_cons _ (by simp)
      rw [h1, h2, joinL_cons v (by simp)]
      simp
  | cons a p ih =>
    have e1 : (a :: p) ++ [u ++ 32 :: v] ++ q = a :: (p ++ [u ++ 32 :: v] ++ q) := rfl
    have e2 : (a :: p) ++ [u, v] ++ q = a :: (p ++ [u, v] ++ q) := rfl
    rw [e1, e2, joinL_cons a (by simp), joinL_cons a (by simp), ih]
theorem wrap_small {i : Int} (h1 : -100 ≤ i) (h2 : i ≤ 100) : IntKind.i64.wrap i = i := by rw [IntKind.wrap_i64]; omega
theorem tokok_may {v : Val} (h : TokOk (1, (e0, v))) : vMay v = true := by
  generalize ht : ((1, (e0, v)) : Tok) = t at h
  cases h with
  | word _ => cases ht
  | sign _ => cases ht
  | num _ _ => cases ht; simp [vMay]
  | @text w hw => cases ht; simp [vMay]; show w.toArray.size ≤ 1000; simpa using hw
theorem step_sep {x : Node} (h : StepOk x) : Sep [stepW x] (stepT x) := by
  obtain ⟨op, n, v⟩ := x
  rcases h with ⟨h1, h2⟩ | ⟨h1, h2, h3, h4⟩ | ⟨h1, h2, h3⟩ | ⟨h1, h2, h3⟩
  · have h1 : op = 10 := h1
    have h2 : (n, v) = (0, v0) := h2
    cases h2
    subst h1
    intro p q
    exact joinL_split p q ([110, 117, 108, 108] : List UInt8) ([63] : List UInt8)
  · have h1 : op = 0 := h1
    subst h1
    exact .of rfl
  · have h1 : op = 1 := h1
    have h2 : n = 0 := h2
    have h3 : ValOk v := h3
    subst h1; subst h2
    by_cases g1 : v = (0, (0, e0))
    · subst g1; exact .of rfl
    by_cases g2 : v = (1, (0, e0))
    · subst g2; exact .of rfl
    by_cases g3 : v = (1, (1, e0))
    · subst g3; exact .of rfl
    rcases h3 with h3 | h3 | h3 | h3
    · exact absurd h3 g1
    · exact absurd h3 g2
    · exact absurd h3 g3
    have e1 : stepW (1, (0, v)) = bs (showT (1, (e0, v))) := by
      show constW v = _
      unfold constW
      rw [if_neg g1, if_neg g2, if_neg g3, if_pos (tokok_may h3)]
    have e2 : stepT (1, (0, v)) = [(1, (e0, v))] := by
      simp only [stepT, if_neg g1, if_neg g2, if_neg g3]
      rfl
    rw [e1, e2]
    exact .of rfl
  · have h1 : 2 ≤ op := h1
    have h2 : op ≤ 9 := h2
    have h3 : (n, v) = (0, v0) := h3
    cases h3
    have : op = 2 ∨ op = 3 ∨ op = 4 ∨ op = 5 ∨ op = 6 ∨ op = 7 ∨ op = 8 ∨ op = 9 := by omega
    rcases this with rfl | rfl | rfl | rfl | rfl | rfl | rfl | rfl <;> exact .of rfl
theorem steps_sep : ∀ (e : List Node), (∀ x ∈ e, StepOk x) → Sep (e.map stepW) (e.flatMap stepT) := by
  intro e
  induction e with
  | nil => intro _; exact Sep.nil
  | cons x e ih =>
    intro h
    rw [List.flatMap_cons]
    exact Sep.app (a := [stepW x]) (step_sep (h x (by simp))) (ih fun y hy => h y (List.mem_cons_of_mem _ hy))
theorem expr_sep {e : List Node} (h : ExprOk e) : Sep (exprW e) (exprT e) := .cons rfl (.app (steps_sep e h.1) (.cons rfl .nil))
theorem sep_sep {α : Type} {f : α → List ByteArray} {g : α → List Tok} : ∀ (l : List α), (∀ x ∈ l, Sep (f x) (g x)) → Sep (sepW f false l) (sepT g l) := by
  have go : ∀ (l : List α), l ≠ [] → (∀ x ∈ l, Sep (f x) (g x)) → Sep (sepW f true l) (sg (⟨#[44]⟩ : ByteArray) :: sepT g l) := by
    intro l
    induction l with
    | nil => intro h; exact absurd rfl h
    | cons x l ih =>
      intro _ h
      cases l with
      | nil =>
        have : sepW f true [x] = (⟨#[44]⟩ : ByteArray) :: (f x ++ []) := rfl
        rw [this, List.append_nil]
        exact .cons rfl (h x (by simp))
      | cons y l =>
        have e1 : sepW f true (x :: y :: l) = (⟨#[44]⟩ : ByteArray) :: (f x ++ sepW f true (y :: l)) := rfl
        have e2 : sepT g (x :: y :: l) = g x ++ sg (⟨#[44]⟩ : ByteArray) :: sepT g (y :: l) := rfl
        rw [e1, e2]
        exact .cons rfl (.app (h x (by simp)) (ih (by simp) fun z hz => h z (List.mem_cons_of_mem _ hz)))
  intro l h
  cases l with
  | nil => exact .nil
  | cons x l =>
    cases l with
    | nil =>
      have : sepW f false [x] = [] ++ f x ++ [] := rfl
      rw [this, List.append_nil, List.nil_append]
      exact h x (by simp)
    | cons y l =>
      have e1 : sepW f false (x :: y :: l) = [] ++ f x ++ sepW f true (y :: l) := rfl
      have e2 : sepT g (x :: y :: l) = g x ++ sg (⟨#[44]⟩ : ByteArray) :: sepT g (y :: l) := rfl
      rw [e1, e2, List.nil_append]
      exact .app (h x (by simp)) (go (y :: l) (by simp) fun z hz => h z (List.mem_cons_of_mem _ hz))
theorem wordW_getD {n : Int} {ws : List ByteArray} (h1 : 0 ≤ n) (h2 : n < ws.length) : wordW n ws = ws.getD n.toNat e0 := by
  unfold wordW
  rw [if_neg (by omega)]
theorem col_sep {c : Col} (h : ColOk c) : Sep (colW c) (columnT c) := by
  obtain ⟨h1, h2, h3, h4⟩ := h
  unfold colW columnT
  rw [wrap_small (by omega) (by omega), wordW_getD (by omega) (by show c.2.1 - 1 < 3; omega)]
  simp only [List.cons_append, List.nil_append]
  refine .cons rfl (.cons rfl (.app (b := if c.2.2.1 then [wd (⟨#[110, 117, 108, 108]⟩ : ByteArray)] else []) ?_ (.app (b := if c.2.2.2.1 then [wd (⟨#[117, 110, 105, 113, 117, 101]⟩ : ByteArray)] else []) ?_ ?_)))
  · split
    · exact .of rfl
    · exact .nil
  · split
    · exact .of rfl
    · exact .nil
  · rcases h4 with ⟨h4, h5⟩ | ⟨h4, h5, h6⟩
    · rw [if_pos h4, if_pos h4]; exact .nil
    · rw [if_neg (name_ne h4), if_neg (name_ne h4), wordW_getD h5 (by show c.2.2.2.2.2 < 3; omega)]
      exact .of rfl
theorem checks_sep : ∀ (l : List (List Node)), (∀ e ∈ l, ExprOk e) → Sep (l.flatMap checkW) (l.flatMap fun e => wd (⟨#[99, 104, 101, 99, 107]⟩ : ByteArray) :: exprT e) := by
  intro l
  induction l with
  | nil => intro _; exact .nil
  | cons e l ih =>
    intro h
    rw [List.flatMap_cons, List.flatMap_cons]
    exact .app (.cons rfl (expr_sep (h e (by simp)))) (ih fun y hy => h y (List.mem_cons_of_mem _ hy))
theorem table_sep {t : Tab} (h : TabOk t) : Sep (tableW t) (tableT t) := by
  unfold tableW tableT
  simp only [List.cons_append, List.nil_append, List.append_assoc]
  exact .cons rfl (.cons rfl (.cons rfl (.app (sep_sep (f := colW) (g := columnT) t.2.1 fun c hc => col_sep (h.cols c hc)) (.cons rfl (checks_sep _ h.checks)))))
theorem pick_sep (n : Int) : Sep (pickW n) (intT n) := .of rfl
theorem agg_sep {a : Agg} (h : AggOk a) : Sep (aggW a) (aggT a) := by
  obtain ⟨h1, h2, _⟩ := h
  unfold aggW aggT
  rw [wordW_getD h1 (by show a.1 < 4; omega)]
  refine .cons rfl ?_
  split
  · exact .nil
  · exact .of rfl
theorem view_sep {v : View} (h : ViewOk v) : Sep (viewW v) (viewT v) := by
  unfold viewW viewT
  simp only [List.cons_append, List.nil_append, List.append_assoc]
  refine .cons rfl (.cons rfl (.cons rfl (.cons rfl (.app (b := if v.2.2.1 = e0 then [] else wd (⟨#[106, 111, 105, 110]⟩ : ByteArray) :: wd v.2.2.1 :: wd (⟨#[111, 110]⟩ : ByteArray) :: numT v.2.2.2.1.1 :: sg (⟨#[61]⟩ : ByteArray) :: [numT v.2.2.2.1.2]) ?_ (.app (b := if v.2.2.2.2.1 = [] then [] else wd (⟨#[119, 104, 101, 114, 101]⟩ : ByteArray) :: exprT v.2.2.2.2.1) ?_
    (.cons rfl (.app (sep_sep (f := pickW) (g := intT) v.2.2.2.2.2.1 fun n _ => pick_sep n) (.app (b := if v.2.2.2.2.2.2.1 then [wd (⟨#[103, 114, 111, 117, 112]⟩ : ByteArray)] else []) ?_ (sep_sep (f := aggW) (g := aggT) v.2.2.2.2.2.2.2 fun a ha => agg_sep (h.aggs a ha))))))))))
  · split
    · exact .nil
    · exact .of rfl
  · split
    · exact .nil
    · exact .cons rfl (expr_sep h.whr)
  · split
    · exact .of rfl
    · exact .nil
theorem text_def {d : Def} (h : DefOk d) : textW d = joinL ((defT d).map showT) := by
  cases h with
  | tab h => exact (table_sep h).join
  | view h => exact (view_sep h).join
/-- WHAT IS READ IS PRINTED, and read from that as it was -/
theorem print_read {s : List UInt8} (hs : s.length ≤ 2000) {d : Def} (h : readS s = (d, 0)) : DefOk d ∧ (textW d).length ≤ 4000 ∧ readS (textW d) = (d, 0) := by
  unfold readS at h
  rw [if_neg (by omega)] at h
  cases h1 : lexS s with
  | none => rw [h1] at h; simp at h
  | some l =>
    rw [h1] at h
    simp only at h
    cases h2 : parseS l with
    | none => rw [h2] at h; simp at h
    | some d' =>
      rw [h2] at h
      cases h
      obtain ⟨o1, o2⟩ := lexS_ok _ s (Nat.le_refl _) l h1
      obtain ⟨b1, b2, b3⟩ := parseS_back o1 h2
      have ht := text_def b3
      have hlen : (textW d).length ≤ 4000 := by
        rw [ht]
        have := joinL_len (defT d)
        have := lenT_sub b1
        omega
      refine ⟨b3, hlen, ?_⟩
      unfold readS
      rw [if_neg (by omega), ht, lexS_show _ (fun t ht => o1 t (b1.subset ht))]
      simp only [b2]
end Dl
