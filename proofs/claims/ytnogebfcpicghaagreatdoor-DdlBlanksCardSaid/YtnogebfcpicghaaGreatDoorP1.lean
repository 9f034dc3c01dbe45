import Derived.Lib.AtoiAll
import Derived.Lib.ItoaNum
set_option linter.all false
set_option linter.unusedVariables false
set_option linter.unusedSimpArgs false
set_option linter.unusedSectionVars false
/- the plain lexer: texts as lists of bytes -/
namespace Dl
open Go
abbrev Val := Int × (Int × ByteArray)
abbrev Tok := Int × (ByteArray × Val)
abbrev bs (l : List UInt8) : ByteArray := ⟨l.toArray⟩
abbrev e0 : ByteArray := (⟨#[]⟩ : ByteArray)
def letter (c : UInt8) : Bool := decide (97 ≤ c.toNat) && decide (c.toNat ≤ 122)
def digit (c : UInt8) : Bool := decide (48 ≤ c.toNat) && decide (c.toNat ≤ 57)
def inner (c : UInt8) : Bool := letter c || digit c || decide (c = 95)
def signs : List UInt8 := ([40, 41, 91, 93, 44, 61, 60, 43, 45, 42, 63] : List UInt8)
def isWordL (w : List UInt8) : Bool := match w with
  | [] => false
  | c :: _ => letter c && w.all inner && decide (w.length ≤ 30)
def numS (w : List UInt8) : Option Int := match Lib.atoiAll w with
  | .ok v => if Lib.itoa v = w then some v else none
  | _ => none
/-- behind the opening quote: what is quoted, and what stands behind -/
def textS : List UInt8 → Option (List UInt8 × List UInt8)
  | [] => none
  | c :: r => if c = 39 then (match r with
      | [] => some ([], [])
      | d :: r' => if d = 39 then (textS r').map fun x => (39 :: x.1, x.2) else some ([], d :: r'))
    else (textS r).map fun x => (c :: x.1, x.2)
def hdDigit : List UInt8 → Bool
  | [] => false
  | d :: _ => digit d
def wordT (w : List UInt8) : Tok := (0, (bs w, (0, (0, e0))))
def signT (c : UInt8) : Tok := (2, (bs [c], (0, (0, e0))))
def numT (n : Int) : Tok := (1, (e0, (2, (n, e0))))
def textT (w : List UInt8) : Tok := (1, (e0, (3, (0, bs w))))
def tokS : List UInt8 → Option (Tok × List UInt8)
  | [] => none
  | c :: r =>
    if letter c then (if (c :: r.takeWhile inner).length ≤ 30 then some (wordT (c :: r.takeWhile inner), r.dropWhile inner) else none)
    else if digit c || (decide (c = 45) && hdDigit r) then (numS (c :: r.takeWhile digit)).map fun n => (numT n, r.dropWhile digit)
    else if c = 39 then (textS r).bind fun x => if x.1.length ≤ 1000 then some (textT x.1, x.2) else none
    else if c ∈ signs then some (signT c, r) else none
def lexN : Nat → List UInt8 → Option (List Tok)
  | _, [] => some []
  | 0, _ :: _ => none
  | n + 1, c :: r => if c = 32 then lexN n r else (tokS (c :: r)).bind fun x => (lexN n x.2).map (x.1 :: ·)
def lexS (l : List UInt8) : Option (List Tok) := lexN l.length l

theorem textS_cons (c : UInt8) (r : List UInt8) : textS (c :: r) = if c = 39 then (match r with
      | [] => some ([], [])
      | d :: r' => if d = 39 then (textS r').map fun x => (39 :: x.1, x.2) else some ([], d :: r'))
    else (textS r).map fun x => (c :: x.1, x.2) := by rw [textS.eq_def]
theorem dropWhile_len {p : UInt8 → Bool} (l : List UInt8) : (l.dropWhile p).length ≤ l.length := by
  induction l with
  | nil => simp
  | cons a l ih => simp only [List.dropWhile]; split <;> simp <;> omega
theorem textS_len : ∀ (n : Nat) (l : List UInt8), l.length ≤ n → ∀ x, textS l = some x → x.2.length < l.length ∧ x.1.length + x.2.length < l.length + 0 := by
  intro n
  induction n with
  | zero => intro l hl x h; cases l <;> simp [textS] at h hl
  | succ n ih =>
    intro l hl x h
    match l, hl, h with
    | c :: r, hl, h =>
      rw [textS_cons] at h
      split at h
      · match r, hl, h with
        | [], hl, h => cases h; simp
        | d :: r', hl, h =>
          simp only at h
          split at h
          · simp only [Option.map_eq_some_iff] at h
            obtain ⟨y, hy, rfl⟩ := h
            have := ih r' (by simp at hl; omega) y hy
            simp; omega
          · cases h; simp
      · simp only [Option.map_eq_some_iff] at h
        obtain ⟨y, hy, rfl⟩ := h
        have := ih r (by simp at hl; omega) y hy
        simp; omega
theorem tokS_len {l : List UInt8} {x : Tok × List UInt8} (h : tokS l = some x) : x.2.length < l.length := by
  cases l with
  | nil => cases h
  | cons c r =>
    simp only [tokS] at h
    split at h
    · split at h
      · cases h; have := dropWhile_len (p := inner) r; simp; omega
      · cases h
    · split at h
      · simp only [Option.map_eq_some_iff] at h
        obtain ⟨y, hy, rfl⟩ := h
        have := dropWhile_len (p := digit) r; simp; omega
      · split at h
        · simp only [Option.bind_eq_some_iff] at h
          obtain ⟨y, hy, h⟩ := h
          split at h
          · cases h; have := (textS_len _ r (Nat.le_refl _) y hy).1; simp; omega
          · cases h
        · split at h
          · cases h; simp
          · cases h
/-- more steps than bytes change nothing -/
theorem lexN_more : ∀ (n m : Nat) (l : List UInt8), l.length ≤ n → l.length ≤ m → lexN n l = lexN m l := by
  intro n
  induction n with
  | zero =>
    intro m l h1 h2
    cases l with
    | nil => cases m <;> rfl
    | cons c r => simp at h1
  | succ n ih =>
    intro m l h1 h2
    cases l with
    | nil => cases m <;> rfl
    | cons c r =>
      cases m with
      | zero => simp at h2
      | succ m =>
        simp only [lexN]
        split
        · exact ih m r (by simp at h1; omega) (by simp at h2; omega)
        · cases h : tokS (c :: r) with
          | none => rfl
          | some x =>
            have := tokS_len h
            simp only [Option.bind_some]
            rw [ih m x.2 (by simp at h1 this; omega) (by simp at h2 this; omega)]
theorem lexS_nil : lexS [] = some [] := rfl
theorem lexS_blank (r : List UInt8) : lexS (32 :: r) = lexS r := by
  show lexN (r.length + 1) (32 :: r) = _
  simp [lexN, lexS]
theorem lexS_cons {c : UInt8} (r : List UInt8) (hc : c ≠ 32) : lexS (c :: r) = (tokS (c :: r)).bind fun x => (lexS x.2).map (x.1 :: ·) := by
  show lexN (r.length + 1) (c :: r) = _
  simp only [lexN, if_neg hc]
  cases h : tokS (c :: r) with
  | none => rfl
  | some x =>
    have := tokS_len h
    simp only [Option.bind_some, lexS]
    rw [lexN_more r.length x.2.length x.2 (by simp at this; omega) (Nat.le_refl _)]

/-! ## A text parted by a blank, without quotes -/
theorem not_inner_blank : inner 32 = false := by decide
theorem not_digit_blank : digit 32 = false := by decide
theorem takeWhile_stop {p : UInt8 → Bool} {c : UInt8} (hc : p c = false) (a b : List UInt8) : (a ++ c :: b).takeWhile p = a.takeWhile p := by
  induction a with
  | nil => simp [List.takeWhile, hc]
  | cons d a ih => simp only [List.cons_append, List.takeWhile]; split <;> simp [ih]
theorem dropWhile_stop {p : UInt8 → Bool} {c : UInt8} (hc : p c = false) (a b : List UInt8) : (a ++ c :: b).dropWhile p = a.dropWhile p ++ c :: b := by
  induction a with
  | nil => simp [List.dropWhile, hc]
  | cons d a ih => simp only [List.cons_append, List.dropWhile]; split <;> simp [ih]
theorem tokS_app {c : UInt8} {a : List UInt8} (b : List UInt8) (hc : c ≠ 32) (hq : c ≠ 39) : tokS (c :: a ++ 32 :: b) = (tokS (c :: a)).map fun x => (x.1, x.2 ++ 32 :: b) := by
  simp only [List.cons_append, tokS, takeWhile_stop not_inner_blank, takeWhile_stop not_digit_blank, dropWhile_stop not_inner_blank, dropWhile_stop not_digit_blank, if_neg hq]
  split
  · split <;> rfl
  · have : hdDigit (a ++ 32 :: b) = hdDigit a := by
      cases a <;> simp [hdDigit, not_digit_blank]
    rw [this]
    split
    · cases numS _ <;> rfl
    · split <;> rfl
theorem lexS_parts : ∀ (n : Nat) (a b : List UInt8), a.length ≤ n → (39 : UInt8) ∉ a → lexS (a ++ 32 :: b) = (lexS a).bind fun x => (lexS b).map (x ++ ·) := by
  intro n
  induction n with
  | zero =>
    intro a b h _
    cases a with
    | nil => simp [lexS_blank, lexS_nil]
    | cons c a => simp at h
  | succ n ih =>
    intro a b h hq
    cases a with
    | nil => simp [lexS_blank, lexS_nil]
    | cons c a =>
      by_cases hc : c = 32
      · subst hc
        rw [List.cons_append, lexS_blank, lexS_blank]
        exact ih a b (by simp at h; omega) (fun hm => hq (List.mem_cons_of_mem _ hm))
      · have hq' : c ≠ 39 := fun e => hq (by simp [e])
        rw [List.cons_append, lexS_cons _ hc, lexS_cons _ hc, ← List.cons_append, tokS_app b hc hq']
        cases ht : tokS (c :: a) with
        | none => rfl
        | some x =>
          have hl := tokS_len ht
          have hn : (39 : UInt8) ∉ x.2 := by
            intro hm
            apply hq
            have : ∀ y ∈ x.2, y ∈ c :: a := by
              simp only [tokS, if_neg hq'] at ht
              split at ht
              · split at ht
                · cases ht; intro y hy; exact List.mem_cons_of_mem _ ((List.dropWhile_sublist _).mem hy)
                · cases ht
              · split at ht
                · simp only [Option.map_eq_some_iff] at ht
                  obtain ⟨z, _, rfl⟩ := ht
                  intro y hy; exact List.mem_cons_of_mem _ ((List.dropWhile_sublist _).mem hy)
                · split at ht
                  · cases ht; intro y hy; exact List.mem_cons_of_mem _ hy
                  · cases ht
            exact this _ hm
          simp only [Option.map_some, Option.bind_some]
          rw [ih x.2 b (by simp at h hl; omega) hn]
          cases lexS x.2 with
          | none => rfl
          | some u => cases lexS b <;> simp

/-! ## What a token is, and its text -/
def dbl : List UInt8 → List UInt8
  | [] => []
  | c :: r => if c = 39 then 39 :: 39 :: dbl r else c :: dbl r
def showT (t : Tok) : List UInt8 := if t.1 = 1 then (if t.2.2.1 = 2 then Lib.itoa t.2.2.2.1 else 39 :: dbl t.2.2.2.2.data.toList ++ [39]) else t.2.1.data.toList
inductive TokOk : Tok → Prop
  | word {w : List UInt8} : isWordL w = true → TokOk (wordT w)
  | sign {c : UInt8} : c ∈ signs → TokOk (signT c)
  | num {n : Int} : numS (Lib.itoa n) = some n → (∃ c r, Lib.itoa n = c :: r ∧ (digit c = true ∨ (c = 45 ∧ ∃ d r', r = d :: r' ∧ digit d = true)) ∧ ∀ x ∈ r, digit x = true) → TokOk (numT n)
  | text {w : List UInt8} : w.length ≤ 1000 → TokOk (textT w)
theorem showT_num (n : Int) : showT (numT n) = Lib.itoa n := rfl
theorem showT_text (w : List UInt8) : showT (textT w) = 39 :: dbl w ++ [39] := rfl
theorem takeWhile_all {p : UInt8 → Bool} (l : List UInt8) : ∀ x ∈ l.takeWhile p, p x = true := by
  induction l with
  | nil => simp
  | cons a l ih => simp only [List.takeWhile]; split <;> simp_all
theorem takeWhile_drop {p : UInt8 → Bool} (l : List UInt8) : (l.takeWhile p).length + (l.dropWhile p).length = l.length := by
  have h := congrArg List.length (List.takeWhile_append_dropWhile (p := p) (l := l))
  rw [List.length_append] at h
  exact h
theorem numS_itoa {w : List UInt8} {n : Int} (h : numS w = some n) : Lib.itoa n = w := by
  unfold numS at h
  cases h1 : Lib.atoiAll w with
  | ok v => rw [h1] at h; simp only at h; split at h <;> rename_i h2 <;> cases h; exact h2
  | _ => rw [h1] at h; cases h
theorem dbl_len (w : List UInt8) : w.length ≤ (dbl w).length := by
  induction w with
  | nil => simp [dbl]
  | cons c r ih => simp only [dbl]; split <;> simp <;> omega
/-- the quoted text as it stands -/
theorem textS_src : ∀ (n : Nat) (l : List UInt8), l.length ≤ n → ∀ x, textS l = some x → l = dbl x.1 ++ 39 :: x.2 ∧ x.2.head? ≠ some 39 := by
  intro n
  induction n with
  | zero => intro l hl x h; cases l <;> simp [textS] at h hl
  | succ n ih =>
    intro l hl x h
    match l, hl, h with
    | c :: r, hl, h =>
      rw [textS_cons] at h
      split at h
      · rename_i hc
        subst hc
        match r, hl, h with
        | [], hl, h => cases h; simp [dbl]
        | d :: r', hl, h =>
          simp only at h
          split at h
          · rename_i hd
            subst hd
            simp only [Option.map_eq_some_iff] at h
            obtain ⟨y, hy, rfl⟩ := h
            have := ih r' (by simp at hl; omega) y hy
            simp only [dbl, if_true]
            rw [this.1]
            exact ⟨by simp, this.2⟩
          · rename_i hd
            cases h; simp [dbl, hd]
      · rename_i hc
        simp only [Option.map_eq_some_iff] at h
        obtain ⟨y, hy, rfl⟩ := h
        have := ih r (by simp at hl; omega) y hy
        simp only [dbl, if_neg hc]
        rw [this.1]
        exact ⟨by simp, this.2⟩
theorem textS_dbl (w rest : List UInt8) (hr : rest.head? ≠ some 39) : textS (dbl w ++ 39 :: rest) = some (w, rest) := by
  induction w with
  | nil =>
    simp only [dbl, List.nil_append, textS_cons, if_true]
    cases rest with
    | nil => rfl
    | cons d r => simp at hr; simp [hr]
  | cons c r ih =>
    simp only [dbl]
    split
    · rename_i hc
      subst hc
      simp only [List.cons_append, textS_cons, if_true, ih, Option.map_some]
    · rename_i hc
      simp only [List.cons_append, textS_cons, if_neg hc, ih, Option.map_some]
/-- what is read is a token, and its text is what was read -/
theorem tokS_ok {l : List UInt8} {x : Tok × List UInt8} (h : tokS l = some x) : TokOk x.1 ∧ l = showT x.1 ++ x.2 := by
  cases l with
  | nil => cases h
  | cons c r =>
    simp only [tokS] at h
    split at h
    · rename_i hc
      split at h
      · rename_i hl
        cases h
        refine ⟨.word ?_, ?_⟩
        · simp only [isWordL, hc, Bool.true_and, Bool.and_eq_true, List.all_eq_true, decide_eq_true_eq]
          refine ⟨fun y hy => ?_, hl⟩
          rcases List.mem_cons.1 hy with rfl | hy
          · simp [inner, hc]
          · exact takeWhile_all _ _ hy
        · simp [showT, wordT, List.takeWhile_append_dropWhile]
      · cases h
    · split at h
      · rename_i hd
        simp only [Option.map_eq_some_iff] at h
        obtain ⟨y, hy, rfl⟩ := h
        have e := numS_itoa hy
        refine ⟨.num (by rw [e]; exact hy) ⟨c, r.takeWhile digit, e, ?_, takeWhile_all _⟩, ?_⟩
        · rw [Bool.or_eq_true] at hd
          rcases hd with hd | hd
          · exact .inl hd
          · rw [Bool.and_eq_true] at hd
            refine .inr ⟨by simpa using hd.1, ?_⟩
            cases r with
            | nil => simp [hdDigit] at hd
            | cons d r' => exact ⟨d, r'.takeWhile digit, by simp [List.takeWhile, show digit d = true from hd.2], hd.2⟩
        · simp only [showT, numT, if_true]
          rw [e, List.cons_append, List.takeWhile_append_dropWhile]
      · split at h
        · rename_i hc
          subst hc
          simp only [Option.bind_eq_some_iff] at h
          obtain ⟨y, hy, h⟩ := h
          split at h
          · rename_i hl
            cases h
            refine ⟨.text hl, ?_⟩
            have := (textS_src _ r (Nat.le_refl _) y hy).1
            simp only [showT_text]
            rw [this]
            simp
          · cases h
        · split at h
          · rename_i hs
            cases h
            exact ⟨.sign hs, by simp [showT, signT]⟩
          · cases h
/-- a token's text is read as it, if nothing but a blank, or the end, follows -/
theorem tokS_show {t : Tok} (h : TokOk t) {rest : List UInt8} (hr : rest = [] ∨ ∃ r, rest = 32 :: r) : tokS (showT t ++ rest) = some (t, rest) := by
  have tw : ∀ (p : UInt8 → Bool), p 32 = false → ∀ (w : List UInt8), (∀ x ∈ w, p x = true) → (w ++ rest).takeWhile p = w ∧ (w ++ rest).dropWhile p = rest := by
    intro p hp w hw
    induction w with
    | nil => rcases hr with rfl | ⟨r, rfl⟩ <;> simp [List.takeWhile, List.dropWhile, hp]
    | cons a w ih =>
      have := ih (fun x hx => hw x (by simp [hx]))
      simp [List.takeWhile, List.dropWhile, hw a (by simp), this]
  cases h with
  | @word w hw =>
    cases w with
    | nil => cases hw
    | cons c w =>
      simp only [isWordL, Bool.and_eq_true, List.all_eq_true, decide_eq_true_eq] at hw
      obtain ⟨⟨h1, h2⟩, h3⟩ := hw
      obtain ⟨t1, t2⟩ := tw inner not_inner_blank w (fun x hx => h2 x (by simp [hx]))
      show tokS ((c :: w) ++ rest) = _
      simp only [List.cons_append, tokS, h1, if_true, t1, t2, h3]
  | @sign c hc =>
    show tokS ([c] ++ rest) = _
    have hm : letter c = false ∧ digit c = false ∧ c ≠ 39 := by
      simp only [signs, List.mem_cons, List.not_mem_nil, or_false] at hc
      rcases hc with rfl | rfl | rfl | rfl | rfl | rfl | rfl | rfl | rfl | rfl | rfl <;> decide
    have hd : hdDigit rest = false := by rcases hr with rfl | ⟨r, rfl⟩ <;> simp [hdDigit, not_digit_blank]
    simp only [List.cons_append, List.nil_append, tokS, hm.1, hm.2.1, Bool.false_eq_true, if_false, hd, Bool.and_false, Bool.or_self, if_neg hm.2.2, if_pos hc]
  | @num n hn hs =>
    obtain ⟨c, r, e, h1, h2⟩ := hs
    show tokS (showT (numT n) ++ rest) = _
    simp only [showT, numT, if_true]
    rw [e, List.cons_append]
    obtain ⟨t1, t2⟩ := tw digit not_digit_blank r h2
    have hl : letter c = false := by
      rcases h1 with h1 | ⟨rfl, _⟩
      · simp only [digit, letter, Bool.and_eq_true, decide_eq_true_eq, Bool.and_eq_false_iff, decide_eq_false_iff_not] at h1 ⊢; omega
      · decide
    have hb : (digit c || (decide (c = 45) && hdDigit (r ++ rest))) = true := by
      rcases h1 with h1 | ⟨rfl, d, r', rfl, hd⟩
      · simp [h1]
      · simp [hdDigit, hd]
    simp only [tokS, hl, Bool.false_eq_true, if_false, hb, if_true, t1, t2]
    rw [← e, hn]
    rfl
  | @text w hw =>
    show tokS (showT (textT w) ++ rest) = _
    rw [showT_text]
    have : letter 39 = false ∧ digit 39 = false := by decide
    simp only [List.cons_append, List.append_assoc, List.nil_append, tokS, this.1, this.2, Bool.false_eq_true, if_false, Bool.false_or]
    rw [if_neg (by rw [show decide ((39 : UInt8) = 45) = false by decide]; simp), if_pos trivial, textS_dbl w rest (by rcases hr with rfl | ⟨r, rfl⟩ <;> simp)]
    simp [hw, textT]
theorem showT_ne {t : Tok} (h : TokOk t) : ∃ c r, showT t = c :: r ∧ c ≠ 32 := by
  cases h with
  | @word w hw =>
    cases w with
    | nil => cases hw
    | cons c w =>
      refine ⟨c, w, rfl, fun e => ?_⟩
      subst e
      simp [isWordL, letter] at hw
  | @sign c hc => exact ⟨c, [], rfl, fun e => by subst e; revert hc; decide⟩
  | @num n hn hs =>
    obtain ⟨c, r, e, h1, h2⟩ := hs
    refine ⟨c, r, by simp [showT, numT, e], fun e => ?_⟩
    subst e
    rcases h1 with h1 | ⟨h1, _⟩
    · simp [digit] at h1
    · revert h1; decide
  | @text w hw => exact ⟨39, _, rfl, by decide⟩
/-- words parted by blanks -/
def joinL : List (List UInt8) → List UInt8
  | [] => []
  | [w] => w
  | w :: r => w ++ 32 :: joinL r
theorem joinL_cons (w : List UInt8) {r : List (List UInt8)} (h : r ≠ []) : joinL (w :: r) = w ++ 32 :: joinL r := by
  cases r with
  | nil => exact absurd rfl h
  | cons a r => rfl
theorem lexS_show : ∀ (l : List Tok), (∀ t ∈ l, TokOk t) → lexS (joinL (l.map showT)) = some l := by
  intro l
  induction l with
  | nil => intro _; rfl
  | cons t l ih =>
    intro h
    have ht := h t (by simp)
    obtain ⟨c, r, e, hc⟩ := showT_ne ht
    have ih := ih fun x hx => h x (by simp [hx])
    have go : ∀ rest, (rest = [] ∨ ∃ r, rest = 32 :: r) → lexS (showT t ++ rest) = (lexS rest).map (t :: ·) := by
      intro rest hr
      have h1 := tokS_show ht hr
      rw [e, List.cons_append] at h1 ⊢
      rw [lexS_cons _ hc, h1]
      rfl
    cases l with
    | nil =>
      have := go [] (.inl rfl)
      simpa [joinL, lexS_nil] using this
    | cons u l =>
      rw [List.map_cons, joinL_cons _ (by simp), go _ (.inr ⟨_, rfl⟩), lexS_blank, ih]
      rfl
/-- what was read: tokens; and their texts are no longer than twice what was read -/
def lenT (x : List Tok) : Nat := (x.map fun t => (showT t).length + 1).sum
theorem lexS_ok : ∀ (n : Nat) (l : List UInt8), l.length ≤ n → ∀ x, lexS l = some x → (∀ t ∈ x, TokOk t) ∧ lenT x ≤ 2 * l.length := by
  intro n
  induction n with
  | zero =>
    intro l hl x h
    cases l with
    | nil => cases h; simp [lenT]
    | cons c r => simp at hl
  | succ n ih =>
    intro l hl x h
    cases l with
    | nil => cases h; simp [lenT]
    | cons c r =>
      by_cases hc : c = 32
      · subst hc
        rw [lexS_blank] at h
        have := ih r (by simp at hl; omega) x h
        refine ⟨this.1, ?_⟩
        simp only [List.length_cons]
        omega
      · rw [lexS_cons _ hc] at h
        simp only [Option.bind_eq_some_iff, Option.map_eq_some_iff] at h
        obtain ⟨y, hy, z, hz, rfl⟩ := h
        obtain ⟨h1, h2⟩ := tokS_ok hy
        have h3 := tokS_len hy
        obtain ⟨h4, h5⟩ := ih y.2 (by simp at hl h3; omega) z hz
        refine ⟨fun t ht => by rcases List.mem_cons.1 ht with rfl | ht; exact h1; exact h4 t ht, ?_⟩
        obtain ⟨d, q, e, _⟩ := showT_ne h1
        have hp : 1 ≤ (showT y.1).length := by rw [e]; simp
        have hlen : (c :: r).length = (showT y.1).length + y.2.length := by rw [h2, List.length_append]
        simp only [lenT, List.map_cons, List.sum_cons] at h5 ⊢
        omega
theorem joinL_len : ∀ l : List Tok, (joinL (l.map showT)).length ≤ lenT l := by
  intro l
  induction l with
  | nil => simp [joinL]
  | cons t l ih =>
    cases l with
    | nil => simp [joinL, lenT]
    | cons u l =>
      rw [List.map_cons, joinL_cons _ (by simp)]
      simp only [lenT, List.map_cons, List.sum_cons, List.length_append, List.length_cons] at ih ⊢
      omega
theorem lenT_sub {a b : List Tok} (h : a.Sublist b) : lenT a ≤ lenT b := by
  induction h with
  | slnil => exact Nat.le_refl _
  | cons x _ ih => simp only [lenT, List.map_cons, List.sum_cons] at ih ⊢; omega
  | cons_cons x _ ih => simp only [lenT, List.map_cons, List.sum_cons] at ih ⊢; omega
end Dl
