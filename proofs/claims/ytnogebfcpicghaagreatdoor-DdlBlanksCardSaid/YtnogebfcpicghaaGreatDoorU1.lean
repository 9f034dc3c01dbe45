import Derived.Test.YtnogebfcpicghaaGreatDoorW1
set_option linter.all false
set_option linter.unusedVariables false
set_option linter.unusedSimpArgs false
set_option linter.unusedSectionVars false
namespace Lv
open Go Go.RowKit

/-! ## Words of the plain laws -/
theorem loopM_q {S R : Type} (body : S → Option (S ⊕ R)) (s : S) : loopM body s = match body s with
    | some (.inl s') => loopM body s'
    | some (.inr r) => some r
    | none => none := @loopM_eq ⟨[], fun _ => True, false, fun _ _ _ _ => trivial⟩ S R body s
theorem i64_wrap {i : Int} (h1 : -9223372036854775808 ≤ i) (h2 : i < 9223372036854775808) : IntKind.i64.wrap i = i := by rw [IntKind.wrap_i64]; omega
/-- a fold that may stop -/
def foldS {α St R : Type} (step : α → St → Option (St ⊕ R)) (fin : St → Option R) : List α → St → Option R
  | [], st => fin st
  | a :: r, st => match step a st with
    | some (.inl st') => foldS step fin r st'
    | some (.inr q) => some q
    | none => none
/-- 'for i := 0; i < len(l); i++' -/
theorem loop_list {α St S R : Type} {body : S → Option (S ⊕ R)} (mk : Int → St → S) (l : List α) (hl : l.length < 9223372036854775807) (step : α → St → Option (St ⊕ R)) (fin : St → Option R)
    (h : ∀ (i : Nat) (hi : i < l.length) st, body (mk i st) = match step l[i] st with | some (.inl st') => some (.inl (mk (i + 1 : Nat) st')) | some (.inr q) => some (.inr q) | none => none)
    (h' : ∀ st, body (mk l.length st) = (fin st).map .inr) : ∀ (i : Nat), i ≤ l.length → ∀ st, loopM body (mk i st) = foldS step fin (l.drop i) st := by
  intro i hi
  generalize hk : l.length - i = k
  induction k generalizing i with
  | zero =>
    intro st
    have : i = l.length := by omega
    subst this
    rw [loopM_q, h', List.drop_length]
    cases hf : fin st <;> simp [foldS, hf]
  | succ k ih =>
    intro st
    have hlt : i < l.length := by omega
    rw [loopM_q, h i hlt, List.drop_eq_getElem_cons hlt, foldS]
    cases hs : step l[i] st with
    | none => rfl
    | some z =>
      cases z with
      | inl st' => exact ih (i + 1) (by omega) (by omega) st'
      | inr q => rfl

theorem loop_l0 {α St S R : Type} {body : S → Option (S ⊕ R)} (mk : Int → St → S) (l : List α) (hl : l.length < 9223372036854775807) (step : α → St → Option (St ⊕ R)) (fin : St → Option R)
    (h : ∀ (i : Nat) (hi : i < l.length) st, body (mk i st) = match step l[i] st with | some (.inl st') => some (.inl (mk (i + 1 : Nat) st')) | some (.inr q) => some (.inr q) | none => none)
    (h' : ∀ st, body (mk l.length st) = (fin st).map .inr) (st : St) : loopM body (mk 0 st) = foldS step fin l st :=
  loop_list mk l hl step fin h h' 0 (Nat.zero_le _) st
/-- .. a total one -/
def foldT {α St R : Type} (step : α → St → St ⊕ R) (fin : St → R) : List α → St → R
  | [], st => fin st
  | a :: r, st => match step a st with
    | .inl st' => foldT step fin r st'
    | .inr q => q
/-- 'for i := 0; i < len(l); i++', with what holds in each round -/
theorem loop_T {α St S R : Type} {body : S → Option (S ⊕ R)} (mk : Int → St → S) (l : List α) (I : Nat → St → Prop) (step : α → St → St ⊕ R) (fin : St → R)
    (h : ∀ (i : Nat) (hi : i < l.length) st, I i st → body (mk i st) = some (match step l[i] st with | .inl st' => .inl (mk (i + 1 : Nat) st') | .inr q => .inr q) ∧ ∀ st', step l[i] st = .inl st' → I (i + 1) st')
    (h' : ∀ st, I l.length st → body (mk l.length st) = some (.inr (fin st))) (st : St) (h0 : I 0 st) : loopM body (mk 0 st) = some (foldT step fin l st) := by
  have go : ∀ (k i : Nat), l.length - i = k → i ≤ l.length → ∀ st, I i st → loopM body (mk i st) = some (foldT step fin (l.drop i) st) := by
    intro k
    induction k with
    | zero =>
      intro i hk hi st hI
      have : i = l.length := by omega
      subst this
      rw [loopM_q, h' st hI, List.drop_length]
      rfl
    | succ k ih =>
      intro i hk hi st hI
      have hlt : i < l.length := by omega
      obtain ⟨e, hn⟩ := h i hlt st hI
      rw [loopM_q, e, List.drop_eq_getElem_cons hlt, foldT]
      cases hs : step l[i] st with
      | inl st' => exact ih (i + 1) (by omega) (by omega) st' (hn st' hs)
      | inr q => rfl
  exact go _ 0 rfl (Nat.zero_le _) st h0
theorem loop_TB {α St S R Q : Type} {body : S → Option (S ⊕ R)} {K : R → Option Q} (mk : Int → St → S) (l : List α) (I : Nat → St → Prop) (step : α → St → St ⊕ R) (fin : St → R)
    (h : ∀ (i : Nat) (hi : i < l.length) st, I i st → body (mk i st) = some (match step l[i] st with | .inl st' => .inl (mk (i + 1 : Nat) st') | .inr q => .inr q) ∧ ∀ st', step l[i] st = .inl st' → I (i + 1) st')
    (h' : ∀ st, I l.length st → body (mk l.length st) = some (.inr (fin st))) (st : St) (h0 : I 0 st) : Option.bind (loopM body (mk 0 st)) K = K (foldT step fin l st) := by
  rw [loop_T mk l I step fin h h' st h0]; rfl
theorem wrap_s {i n : Nat} (h : i < n) (hn : n < 9223372036854775808) : IntKind.i64.wrap ((i : Int) + 1) = ((i + 1 : Nat) : Int) := by rw [i64_wrap] <;> omega
theorem getD_at {α : Type} {l : List α} {i : Nat} (h : i < l.length) (d : α) : l.getD i d = l[i] := by
  rw [List.getD_eq_getElem?_getD, List.getElem?_eq_getElem h]; rfl
theorem cond_dec {α : Type} (p : Prop) [Decidable p] (a b : α) : (bif decide p then a else b) = if p then a else b := by by_cases h : p <;> simp [h]

theorem beq_bytes (a b : ByteArray) : (a.toList == b.toList) = decide (a = b) := by
  rw [ByteArray.toList_eq, ByteArray.toList_eq]
  by_cases h : a = b
  · subst h; simp
  · have : ¬ a.data.toList = b.data.toList := fun e => h (Go.WideShapes.bytes_inj e)
    rw [beq_eq_false_iff_ne.2 this]; simp [h]
theorem bytes_beq (a b : ByteArray) : (a == b) = decide (a = b) := by
  show (a.data == b.data) = _
  by_cases h : a = b
  · subst h; simp
  · have : ¬ a.data = b.data := fun e => h (by cases a; cases b; simp at e; subst e; rfl)
    rw [beq_eq_false_iff_ne.2 this]; simp [h]
/-- '==' of plain data -/
def Ty.plain : Ty → Bool
  | .int _ => true | .bool => true | .str => true | .pair a b => a.plain && b.plain | _ => false
theorem Ty.eq_dec : ∀ (t : Ty), t.plain = true → ∀ x y : t.T, t.eq x y = true ↔ x = y
  | .int _, _, x, y => by simp [Ty.eq]
  | .bool, _, x, y => by simp [Ty.eq]
  | .str, _, x, y => by simp [Ty.eq, bytes_beq]
  | .pair a b, h, x, y => by
    simp only [Ty.plain, Bool.and_eq_true] at h
    obtain ⟨x1, x2⟩ := x
    obtain ⟨y1, y2⟩ := y
    simp only [Ty.eq, Bool.and_eq_true, Ty.eq_dec a h.1, Ty.eq_dec b h.2, Prod.mk.injEq]


/-- a loop by a measure -/
theorem loop_m {S R : Type} {body : S → Option (S ⊕ R)} (m : S → Nat) (I : S → Prop) (Q : S → R → Prop)
    (h : ∀ s, I s → (∃ s', body s = some (.inl s') ∧ I s' ∧ m s' < m s ∧ ∀ r, Q s' r → Q s r) ∨ ∃ r, body s = some (.inr r) ∧ Q s r) :
    ∀ s, I s → ∃ r, loopM body s = some r ∧ Q s r := by
  have go : ∀ n s, m s ≤ n → I s → ∃ r, loopM body s = some r ∧ Q s r := by
    intro n
    induction n with
    | zero =>
      intro s hm hI
      rcases h s hI with ⟨s', e, hI', hlt, hq⟩ | ⟨r, e, hq⟩
      · omega
      · exact ⟨r, by rw [loopM_q, e], hq⟩
    | succ n ih =>
      intro s hm hI
      rcases h s hI with ⟨s', e, hI', hlt, hq⟩ | ⟨r, e, hq⟩
      · obtain ⟨r, h1, h2⟩ := ih s' (by omega) hI'
        exact ⟨r, by rw [loopM_q, e]; exact h1, hq r h2⟩
      · exact ⟨r, by rw [loopM_q, e], hq⟩
  exact fun s hI => go (m s) s (Nat.le_refl _) hI
/-- a loop that computes a function of its state -/
theorem loop_f {S R : Type} {body : S → Option (S ⊕ R)} (m : S → Nat) (I : S → Prop) (f : S → R)
    (h : ∀ s, I s → (∃ s', body s = some (.inl s') ∧ I s' ∧ m s' < m s ∧ f s' = f s) ∨ body s = some (.inr (f s))) :
    ∀ s, I s → loopM body s = some (f s) := fun s hI => by
  obtain ⟨r, h1, h2⟩ := loop_m m I (fun s r => r = f s) (fun s hI => by
    rcases h s hI with ⟨s', a, b, c, d⟩ | a
    · exact .inl ⟨s', a, b, c, fun r hr => by rw [hr, d]⟩
    · exact .inr ⟨_, a, rfl⟩) s hI
  rw [h1, h2]
theorem agreeL_two {R : Type} (x : Option R) : agreeL [x, x] = x := by simp [agreeL]
theorem agreeL_three {R : Type} (x : Option R) : agreeL [x, x, x] = x := by simp [agreeL]
end Lv
