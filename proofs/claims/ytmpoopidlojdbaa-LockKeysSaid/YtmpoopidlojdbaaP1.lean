import Derived.Test.YtmpoopidlojdbaaEvX
import Derived.Sort.Walk0
import Derived.Lib.Bytealg
set_option linter.all false
set_option linter.unusedVariables false
set_option linter.unusedSimpArgs false
set_option linter.unusedSectionVars false
namespace Lv
open Go Go.RowKit

/-! ## Words of the plain laws -/
theorem i64_wrap {i : Int} (h1 : -9223372036854775808 ≤ i) (h2 : i < 9223372036854775808) : IntKind.i64.wrap i = i := by rw [IntKind.wrap_i64]; omega
/-- a fold that may stop -/
def foldS {α St R : Type} (step : α → St → Option (St ⊕ R)) (fin : St → Option R) : List α → St → Option R
  | [], st => fin st
  | a :: r, st => match step a st with
    | some (.inl st') => foldS step fin r st'
    | some (.inr q) => some q
    | none => none
/-- 'for i := 0; i < len(l); i++' -/
theorem loop_list {α St S R : Type} {body : S → Option (S ⊕ R)} (mk : Int → St → S) (l : List α) (hl : l.length < 9223372036854775807) (step : α → St → Option (St ⊕ R)) (fin : St → Option R)
    (h : ∀ (i : Nat) (hi : i < l.length) st, body (mk i st) = match step l[i] st with | some (.inl st') => some (.inl (mk (i + 1 : Nat) st')) | some (.inr q) => some (.inr q) | none => none)
    (h' : ∀ st, body (mk l.length st) = (fin st).map .inr) : ∀ (i : Nat), i ≤ l.length → ∀ st, loopM body (mk i st) = foldS step fin (l.drop i) st := by
  intro i hi
  generalize hk : l.length - i = k
  induction k generalizing i with
  | zero =>
    intro st
    have : i = l.length := by omega
    subst this
    rw [loopM_eq, h', List.drop_length]
    cases hf : fin st <;> simp [foldS, hf]
  | succ k ih =>
    intro st
    have hlt : i < l.length := by omega
    rw [loopM_eq, h i hlt, List.drop_eq_getElem_cons hlt, foldS]
    cases hs : step l[i] st with
    | none => rfl
    | some z =>
      cases z with
      | inl st' => exact ih (i + 1) (by omega) (by omega) st'
      | inr q => rfl

theorem loop_l0 {α St S R : Type} {body : S → Option (S ⊕ R)} (mk : Int → St → S) (l : List α) (hl : l.length < 9223372036854775807) (step : α → St → Option (St ⊕ R)) (fin : St → Option R)
    (h : ∀ (i : Nat) (hi : i < l.length) st, body (mk i st) = match step l[i] st with | some (.inl st') => some (.inl (mk (i + 1 : Nat) st')) | some (.inr q) => some (.inr q) | none => none)
    (h' : ∀ st, body (mk l.length st) = (fin st).map .inr) (st : St) : loopM body (mk 0 st) = foldS step fin l st :=
  loop_list mk l hl step fin h h' 0 (Nat.zero_le _) st
/-- .. a total one -/
def foldT {α St R : Type} (step : α → St → St ⊕ R) (fin : St → R) : List α → St → R
  | [], st => fin st
  | a :: r, st => match step a st with
    | .inl st' => foldT step fin r st'
    | .inr q => q
/-- 'for i := 0; i < len(l); i++', with what holds in each round -/
theorem loop_T {α St S R : Type} {body : S → Option (S ⊕ R)} (mk : Int → St → S) (l : List α) (I : Nat → St → Prop) (step : α → St → St ⊕ R) (fin : St → R)
    (h : ∀ (i : Nat) (hi : i < l.length) st, I i st → body (mk i st) = some (match step l[i] st with | .inl st' => .inl (mk (i + 1 : Nat) st') | .inr q => .inr q) ∧ ∀ st', step l[i] st = .inl st' → I (i + 1) st')
    (h' : ∀ st, I l.length st → body (mk l.length st) = some (.inr (fin st))) (st : St) (h0 : I 0 st) : loopM body (mk 0 st) = some (foldT step fin l st) := by
  have go : ∀ (k i : Nat), l.length - i = k → i ≤ l.length → ∀ st, I i st → loopM body (mk i st) = some (foldT step fin (l.drop i) st) := by
    intro k
    induction k with
    | zero =>
      intro i hk hi st hI
      have : i = l.length := by omega
      subst this
      rw [loopM_eq, h' st hI, List.drop_length]
      rfl
    | succ k ih =>
      intro i hk hi st hI
      have hlt : i < l.length := by omega
      obtain ⟨e, hn⟩ := h i hlt st hI
      rw [loopM_eq, e, List.drop_eq_getElem_cons hlt, foldT]
      cases hs : step l[i] st with
      | inl st' => exact ih (i + 1) (by omega) (by omega) st' (hn st' hs)
      | inr q => rfl
  exact go _ 0 rfl (Nat.zero_le _) st h0
theorem loop_TB {α St S R Q : Type} {body : S → Option (S ⊕ R)} {K : R → Option Q} (mk : Int → St → S) (l : List α) (I : Nat → St → Prop) (step : α → St → St ⊕ R) (fin : St → R)
    (h : ∀ (i : Nat) (hi : i < l.length) st, I i st → body (mk i st) = some (match step l[i] st with | .inl st' => .inl (mk (i + 1 : Nat) st') | .inr q => .inr q) ∧ ∀ st', step l[i] st = .inl st' → I (i + 1) st')
    (h' : ∀ st, I l.length st → body (mk l.length st) = some (.inr (fin st))) (st : St) (h0 : I 0 st) : Option.bind (loopM body (mk 0 st)) K = K (foldT step fin l st) := by
  rw [loop_T mk l I step fin h h' st h0]; rfl
theorem wrap_s {i n : Nat} (h : i < n) (hn : n < 9223372036854775808) : IntKind.i64.wrap ((i : Int) + 1) = ((i + 1 : Nat) : Int) := by rw [i64_wrap] <;> omega
theorem getD_at {α : Type} {l : List α} {i : Nat} (h : i < l.length) (d : α) : l.getD i d = l[i] := by
  rw [List.getD_eq_getElem?_getD, List.getElem?_eq_getElem h]; rfl
theorem cond_dec {α : Type} (p : Prop) [Decidable p] (a b : α) : (bif decide p then a else b) = if p then a else b := by by_cases h : p <;> simp [h]

/-- int(uint(i+j) >> 1) -/
theorem half_wrap {i j : Nat} (h : i + j < 9223372036854775808) : IntKind.i64.wrap ((IntKind.u64.wrap (IntKind.i64.wrap ((i : Int) + (j : Int)))).fdiv (2 ^ min (Int.toNat 1) IntKind.u64.bits)) = ((i + j) / 2 : Nat) := by
  rw [i64_wrap (i := (i : Int) + j) (by omega) (by omega)]
  have e1 : IntKind.u64.wrap ((i : Int) + j) = (i : Int) + j := by simp [IntKind.wrap, IntKind.bits, IntKind.signed]; omega
  rw [e1]
  have e2 : (2 : Int) ^ min (Int.toNat 1) IntKind.u64.bits = 2 := by decide
  rw [e2, Int.fdiv_eq_ediv_of_nonneg _ (by decide), i64_wrap] <;> omega

/-! ### Bytes in order -/
def cmpB (a b : ByteArray) : Int := Lib.compareBytes a.data.toList b.data.toList
structure Cmp3 {α : Type} (c : α → α → Int) : Prop where
  eq : ∀ a b, c a b = 0 ↔ a = b
  anti : ∀ a b, c b a = - c a b
  trans : ∀ a b d, c a b < 0 → c b d < 0 → c a d < 0
theorem Cmp3.refl {α : Type} {c : α → α → Int} (h : Cmp3 c) (a : α) : c a a = 0 := (h.eq a a).2 rfl
theorem Cmp3.le_trans {α : Type} {c : α → α → Int} (h : Cmp3 c) {a b d : α} (h1 : c a b ≤ 0) (h2 : c b d ≤ 0) : c a d ≤ 0 := by
  by_cases e1 : c a b = 0
  · rw [(h.eq a b).1 e1]; exact h2
  · by_cases e2 : c b d = 0
    · rw [← (h.eq b d).1 e2]; exact h1
    · have := h.trans a b d (by omega) (by omega); omega
def cmpOr (x y : Int) : Int := if x ≠ 0 then x else y
theorem Cmp3.pair {α β : Type} {c : α → α → Int} {d : β → β → Int} (hc : Cmp3 c) (hd : Cmp3 d) : Cmp3 (fun (x y : α × β) => cmpOr (c x.1 y.1) (d x.2 y.2)) := by
  refine ⟨fun x y => ?_, fun x y => ?_, fun x y z => ?_⟩
  · simp only [cmpOr]
    split
    · rename_i h
      constructor
      · intro h'; exact absurd h' h
      · rintro rfl; exact absurd (hc.refl _) h
    · rename_i h
      have h : c x.1 y.1 = 0 := Classical.not_not.1 h
      have e := (hc.eq _ _).1 h
      rw [hd.eq]
      constructor
      · intro e'; exact Prod.ext e e'
      · rintro rfl; rfl
  · have := hc.anti x.1 y.1
    have h2 := hd.anti x.2 y.2
    simp only [cmpOr]
    by_cases h : c x.1 y.1 = 0
    · rw [this, h]; simpa using h2
    · rw [this]; rw [if_pos (by omega), if_pos h]
  · simp only [cmpOr]
    intro h1 h2
    by_cases a1 : c x.1 y.1 = 0
    · by_cases a2 : c y.1 z.1 = 0
      · have e1 := (hc.eq _ _).1 a1
        have e2 := (hc.eq _ _).1 a2
        rw [e1, e2, hc.refl]
        simp only [a1, a2, ne_eq, not_true_eq_false, if_false] at h1 h2 ⊢
        exact hd.trans _ _ _ h1 h2
      · rw [(hc.eq _ _).1 a1, if_pos a2]
        rw [if_pos a2] at h2; exact h2
    · rw [if_pos a1] at h1
      by_cases a2 : c y.1 z.1 = 0
      · rw [← (hc.eq _ _).1 a2, if_pos a1]; exact h1
      · rw [if_pos a2] at h2
        have := hc.trans _ _ _ h1 h2
        rw [if_pos (by omega)]; exact this
def cmpI (a b : Int) : Int := if a < b then -1 else if a > b then 1 else 0
theorem cmpI_3 : Cmp3 cmpI := by
  refine ⟨fun a b => ?_, fun a b => ?_, fun a b d => ?_⟩
  · unfold cmpI; split <;> (try split) <;> constructor <;> omega
  · unfold cmpI; (repeat' split) <;> omega
  · unfold cmpI; (repeat' split) <;> omega
theorem compareBytes_3 : Cmp3 Lib.compareBytes := by
  have eq : ∀ a b, Lib.compareBytes a b = 0 ↔ a = b := by
    intro a
    induction a with
    | nil => intro b; cases b <;> simp [Lib.compareBytes]
    | cons x a ih =>
      intro b
      cases b with
      | nil => simp [Lib.compareBytes]
      | cons y b =>
        simp only [Lib.compareBytes]
        split
        · rename_i h
          simp only [Int.reduceNeg, Int.reduceEq, List.cons.injEq, false_iff, not_and]
          intro e; subst e; exact absurd h (UInt8.lt_irrefl _)
        · split
          · rename_i h
            simp only [Int.reduceEq, List.cons.injEq, false_iff, not_and]
            intro e; subst e; exact absurd h (UInt8.lt_irrefl _)
          · rename_i h1 h2
            have : x = y := UInt8.le_antisymm (UInt8.not_lt.1 h2) (UInt8.not_lt.1 h1)
            rw [ih]; simp [this]
  refine ⟨eq, ?_, ?_⟩
  · intro a
    induction a with
    | nil => intro b; cases b <;> simp [Lib.compareBytes]
    | cons x a ih =>
      intro b
      cases b with
      | nil => simp [Lib.compareBytes]
      | cons y b =>
        simp only [Lib.compareBytes]
        by_cases h1 : x < y
        · have h2 : ¬ y < x := UInt8.lt_asymm h1
          simp [h1, h2]
        · by_cases h2 : y < x
          · simp [h1, h2]
          · simp [h1, h2, ih]
  · intro a
    induction a with
    | nil =>
      intro b d
      cases b <;> cases d <;> simp [Lib.compareBytes]
    | cons x a ih =>
      intro b d
      cases b with
      | nil => simp [Lib.compareBytes]
      | cons y b =>
        cases d with
        | nil => simp [Lib.compareBytes]
        | cons z d =>
          simp only [Lib.compareBytes]
          by_cases h1 : x < y
          · by_cases h2 : y < z
            · simp [h1, h2, UInt8.lt_trans h1 h2]
            · by_cases h3 : z < y
              · simp [h1, h2, h3]
              · have : y = z := UInt8.le_antisymm (UInt8.not_lt.1 h3) (UInt8.not_lt.1 h2)
                subst this; simp [h1]
          · by_cases h1' : y < x
            · simp [h1, h1']
            · have : x = y := UInt8.le_antisymm (UInt8.not_lt.1 h1') (UInt8.not_lt.1 h1)
              subst this
              simp only [UInt8.lt_irrefl, if_false]
              split
              · simp
              · split
                · simp
                · exact ih b d
theorem cmpB_3 : Cmp3 cmpB := by
  refine ⟨fun a b => ?_, fun a b => compareBytes_3.anti _ _, fun a b d => compareBytes_3.trans _ _ _⟩
  unfold cmpB
  rw [compareBytes_3.eq]
  exact ⟨fun h => Go.WideShapes.bytes_inj h, fun h => by rw [h]⟩
theorem cmpB_val (a b : ByteArray) : cmpB a b = -1 ∨ cmpB a b = 0 ∨ cmpB a b = 1 := by
  unfold cmpB
  generalize a.data.toList = x
  generalize b.data.toList = y
  induction x generalizing y with
  | nil => cases y <;> simp [Lib.compareBytes]
  | cons c x ih => cases y with
    | nil => simp [Lib.compareBytes]
    | cons d y => simp only [Lib.compareBytes]; split <;> (try split) <;> simp [ih]
theorem less_cmpB (a b : ByteArray) : Op.bytesLess a.toList b.toList = decide (cmpB a b < 0) := by
  rw [ByteArray.toList_eq, ByteArray.toList_eq]
  unfold cmpB
  generalize a.data.toList = x
  generalize b.data.toList = y
  induction x generalizing y with
  | nil => cases y <;> simp [Lib.compareBytes, Op.bytesLess]
  | cons c x ih => cases y with
    | nil => simp [Lib.compareBytes, Op.bytesLess]
    | cons d y =>
      simp only [Lib.compareBytes, Op.bytesLess]
      by_cases h1 : c < d
      · simp [h1]
      · by_cases h2 : d < c
        · have : ¬ c = d := fun e => by subst e; exact UInt8.lt_irrefl _ h2
          simp [h1, h2, this]
        · have : c = d := UInt8.le_antisymm (UInt8.not_lt.1 h2) (UInt8.not_lt.1 h1)
          subst this
          simp [UInt8.lt_irrefl, ih]
theorem beq_cmpB (a b : ByteArray) : (a.toList == b.toList) = decide (a = b) := by
  rw [ByteArray.toList_eq, ByteArray.toList_eq]
  by_cases h : a = b
  · subst h; simp
  · have : ¬ a.data.toList = b.data.toList := fun e => h (Go.WideShapes.bytes_inj e)
    rw [beq_eq_false_iff_ne.2 this]; simp [h]
theorem bytes_beq (a b : ByteArray) : (a == b) = decide (a = b) := by
  show (a.data == b.data) = _
  by_cases h : a = b
  · subst h; simp
  · have : ¬ a.data = b.data := fun e => h (by cases a; cases b; simp at e; subst e; rfl)
    rw [beq_eq_false_iff_ne.2 this]; simp [h]
/-- '==' of plain data -/
def Ty.plain : Ty → Bool
  | .int _ => true | .bool => true | .str => true | .pair a b => a.plain && b.plain | _ => false
theorem Ty.eq_dec : ∀ (t : Ty), t.plain = true → ∀ x y : t.T, t.eq x y = true ↔ x = y
  | .int _, _, x, y => by simp [Ty.eq]
  | .bool, _, x, y => by simp [Ty.eq]
  | .str, _, x, y => by simp [Ty.eq, bytes_beq]
  | .pair a b, h, x, y => by
    simp only [Ty.plain, Bool.and_eq_true] at h
    obtain ⟨x1, x2⟩ := x
    obtain ⟨y1, y2⟩ := y
    simp only [Ty.eq, Bool.and_eq_true, Ty.eq_dec a h.1, Ty.eq_dec b h.2, Prod.mk.injEq]

/-! ### The library's loops -/
/-- slices.BinarySearchFunc -/
theorem bs_loop {α R : Type} (l : List α) (c : α → Int) {body : Int × Int × Unit → Option ((Int × Int × Unit) ⊕ R)} (r : Int → R)
    (h1 : ∀ (i j : Nat) (hj : j ≤ l.length) (hi : i < j), body ((i : Int), (j : Int), ()) = if c (l[(i + j) / 2]'(by omega)) < 0 then some (.inl (((i + j) / 2 + 1 : Nat), (j : Int), ())) else some (.inl ((i : Int), ((i + j) / 2 : Nat), ())))
    (h2 : ∀ i j : Nat, j ≤ i → body ((i : Int), (j : Int), ()) = some (.inr (r i))) :
    ∃ at_ : Nat, at_ ≤ l.length ∧ loopM body (0, (l.length : Int), ()) = some (r at_) ∧ ((∀ a b (ha : a < b) (hb : b < l.length), c l[b] < 0 → c l[a] < 0) → (∀ k (hk : k < l.length), k < at_ ↔ c l[k] < 0)) := by
  have go : ∀ (n i j : Nat), j - i = n → i ≤ j → j ≤ l.length → ∃ at_ : Nat, at_ ≤ l.length ∧ loopM body ((i : Int), (j : Int), ()) = some (r at_) ∧
      ((∀ a b (ha : a < b) (hb : b < l.length), c l[b] < 0 → c l[a] < 0) → (∀ k (hk : k < l.length), k < i → c l[k] < 0) → (∀ k (hk : k < l.length), j ≤ k → ¬ c l[k] < 0) → (∀ k (hk : k < l.length), k < at_ ↔ c l[k] < 0)) := by
    intro n
    induction n using Nat.strongRecOn with
    | ind n ih =>
      intro i j hn hij hj
      by_cases hlt : i < j
      · rw [loopM_eq, h1 i j hj hlt]
        by_cases hc : c (l[(i + j) / 2]'(by omega)) < 0
        · rw [if_pos hc]
          obtain ⟨at_, k1, k2, k3⟩ := ih (j - ((i + j) / 2 + 1)) (by omega) ((i + j) / 2 + 1) j rfl (by omega) hj
          refine ⟨at_, k1, k2, fun hs hi' hj' => k3 hs (fun k hk hk' => ?_) hj'⟩
          by_cases e : k = (i + j) / 2
          · subst e; exact hc
          · exact hs k ((i + j) / 2) (by omega) (by omega) hc
        · rw [if_neg hc]
          obtain ⟨at_, k1, k2, k3⟩ := ih ((i + j) / 2 - i) (by omega) i ((i + j) / 2) rfl (by omega) (by omega)
          refine ⟨at_, k1, k2, fun hs hi' hj' => k3 hs hi' (fun k hk hk' hcc => ?_)⟩
          by_cases e : k = (i + j) / 2
          · subst e; exact hc hcc
          · exact hc (hs ((i + j) / 2) k (by omega) hk hcc)
      · have : i = j := by omega
        subst this
        refine ⟨i, hj, by rw [loopM_eq, h2 i i (Nat.le_refl _)], fun _ hi' hj' k hk => ⟨fun h => hi' k hk h, fun h => ?_⟩⟩
        rcases Nat.lt_or_ge k i with h' | h'
        · exact h'
        · exact absurd h (hj' k hk h')
  obtain ⟨at_, k1, k2, k3⟩ := go _ 0 l.length rfl (Nat.zero_le _) (Nat.le_refl _)
  exact ⟨at_, k1, k2, fun hs => k3 hs (fun k _ h => by omega) (fun k hk h => by omega)⟩

theorem bs_bind {α R Q : Type} (l : List α) (c : α → Int) {body : Int × Int × Unit → Option ((Int × Int × Unit) ⊕ R)} {K : R → Option Q} (r : Int → R)
    (h1 : ∀ (i j : Nat) (hj : j ≤ l.length) (hi : i < j), body ((i : Int), (j : Int), ()) = if c (l[(i + j) / 2]'(by omega)) < 0 then some (.inl (((i + j) / 2 + 1 : Nat), (j : Int), ())) else some (.inl ((i : Int), ((i + j) / 2 : Nat), ())))
    (h2 : ∀ i j : Nat, j ≤ i → body ((i : Int), (j : Int), ()) = some (.inr (r i))) :
    ∃ at_ : Nat, at_ ≤ l.length ∧ Option.bind (loopM body (0, (l.length : Int), ())) K = K (r at_) ∧ ((∀ a b (ha : a < b) (hb : b < l.length), c l[b] < 0 → c l[a] < 0) → (∀ k (hk : k < l.length), k < at_ ↔ c l[k] < 0)) := by
  obtain ⟨a, h3, h4, h5⟩ := bs_loop l c r h1 h2
  exact ⟨a, h3, by rw [h4]; rfl, h5⟩
/-- slices.DeleteFunc, slices.Compact: what stays moves ahead -/
theorem del_loop {α R : Type} (keep : α → Bool) {body : Int × Int × List α × Unit → Option ((Int × Int × List α × Unit) ⊕ R)} (r : Int → List α → R) (len : Nat)
    (h1 : ∀ (i j : Nat) (o : List α) (hj : j < o.length) (hi : i < j), o.length = len → body ((i : Int), (j : Int), o, ()) = if keep o[j] then some (.inl ((i + 1 : Nat), (j + 1 : Nat), o.set i o[j], ())) else some (.inl ((i : Int), (j + 1 : Nat), o, ())))
    (h2 : ∀ (i : Nat) (o : List α), body ((i : Int), (o.length : Int), o, ()) = some (.inr (r i o))) :
    ∀ (n i j : Nat) (o : List α), o.length - j = n → o.length = len → i < j → j ≤ o.length → ∃ (i' : Nat) (o' : List α), loopM body ((i : Int), (j : Int), o, ()) = some (r i' o') ∧ i' ≤ o.length ∧ o'.length = o.length ∧ o'.take i' = o.take i ++ (o.drop j).filter keep := by
  intro n
  induction n with
  | zero =>
    intro i j o hn hL hij hj
    have : j = o.length := by omega
    subst this
    exact ⟨i, o, by rw [loopM_eq, h2], by omega, rfl, by simp⟩
  | succ n ih =>
    intro i j o hn hL hij hj
    have hlt : j < o.length := by omega
    rw [loopM_eq, h1 i j o hlt hij hL, List.drop_eq_getElem_cons hlt]
    by_cases hk : keep o[j] = true
    · rw [if_pos hk]
      obtain ⟨i', o', k1, k2, k3, k4⟩ := ih (i + 1) (j + 1) (o.set i o[j]) (by simp; omega) (by simpa using hL) (by omega) (by simp; omega)
      refine ⟨i', o', k1, by simpa using k2, by simpa using k3, ?_⟩
      rw [k4, List.filter_cons_of_pos hk]
      have e1 : (o.set i o[j]).drop (j + 1) = o.drop (j + 1) := by
        rw [List.drop_set_of_lt (by omega)]
      have e2 : (o.set i o[j]).take (i + 1) = o.take i ++ [o[j]] := by
        rw [List.take_add_one, List.take_set_of_le (by omega), List.getElem?_set_self (by omega)]
        rfl
      rw [e1, e2]; simp
    · rw [if_neg hk]
      obtain ⟨i', o', k1, k2, k3, k4⟩ := ih i (j + 1) o (by omega) hL (by omega) (by omega)
      refine ⟨i', o', k1, k2, k3, ?_⟩
      rw [k4, List.filter_cons_of_neg hk]

/-- .. and what is left behind it is cleared *-/
theorem clear_len {α : Type} (o : List α) (i : Nat) (h : i ≤ o.length) (z : α) : (List.take i o ++ List.replicate (o.length - i) z ++ List.drop (i + (o.length - i)) o).length = o.length := by
  simp only [List.length_append, List.length_take, List.length_replicate, List.length_drop]; omega
theorem clear_take {α : Type} (o : List α) (i : Nat) (h : i ≤ o.length) (z : α) : List.take (i - 0) (List.drop 0 (List.take i o ++ List.replicate (o.length - i) z ++ List.drop (i + (o.length - i)) o)) = o.take i := by
  rw [List.drop_zero, Nat.sub_zero, List.append_assoc]
  exact List.take_left' (by rw [List.length_take]; omega)
theorem del_bind {α R Q : Type} (keep : α → Bool) {body : Int × Int × List α × Unit → Option ((Int × Int × List α × Unit) ⊕ R)} {K : R → Option Q} (r : Int → List α → R) (i j : Nat) (o : List α) (hij : i < j) (hj : j ≤ o.length)
    (h1 : ∀ (i j : Nat) (o' : List α) (hj : j < o'.length) (hi : i < j), o'.length = o.length → body ((i : Int), (j : Int), o', ()) = if keep o'[j] then some (.inl ((i + 1 : Nat), (j + 1 : Nat), o'.set i o'[j], ())) else some (.inl ((i : Int), (j + 1 : Nat), o', ())))
    (h2 : ∀ (i : Nat) (o' : List α), body ((i : Int), (o'.length : Int), o', ()) = some (.inr (r i o'))) :
    ∃ (i' : Nat) (o' : List α), Option.bind (loopM body ((i : Int), (j : Int), o, ())) K = K (r i' o') ∧ i' ≤ o.length ∧ o'.length = o.length ∧ o'.take i' = o.take i ++ (o.drop j).filter keep := by
  obtain ⟨i', o', a, b, c, d⟩ := del_loop keep r o.length h1 h2 _ i j o rfl rfl hij hj
  exact ⟨i', o', by rw [a]; rfl, b, c, d⟩
def dropSame {α : Type} (eq : α → α → Bool) : α → List α → List α
  | _, [] => []
  | a, b :: r => if eq b a = true then dropSame eq b r else b :: dropSame eq b r
/-- slices.Compact's inner loop -/
theorem cpt_loop {α R : Type} (eq : α → α → Bool) (k0 : Nat) {body : Int × Int × List α × Unit → Option ((Int × Int × List α × Unit) ⊕ R)} (r : Int → List α → R) (len : Nat)
    (h1 : ∀ (k k2 : Nat) (o : List α) (hl : o.length = len) (h0 : 1 ≤ k2) (hk : k < k0 + k2) (hj : k0 + k2 < o.length), body ((k : Int), (k2 : Int), o, ()) =
      if eq (o[k0 + k2]'hj) (o[k0 + k2 - 1]'(by omega)) = true then some (.inl ((k : Int), (k2 + 1 : Nat), o, ())) else some (.inl ((k + 1 : Nat), (k2 + 1 : Nat), o.set k (o[k0 + k2]'hj), ())))
    (h2 : ∀ (k k2 : Nat) (o : List α), o.length = len → k0 + k2 = len → body ((k : Int), (k2 : Int), o, ()) = some (.inr (r k o))) :
    ∀ (n k k2 : Nat) (o : List α) (hl : o.length = len) (hn : len - (k0 + k2) = n) (h0 : 1 ≤ k2) (hk : k < k0 + k2) (hj : k0 + k2 ≤ len), ∃ (k' : Nat) (o' : List α), loopM body ((k : Int), (k2 : Int), o, ()) = some (r k' o') ∧ k' ≤ len ∧ o'.length = len ∧
      o'.take k' = o.take k ++ dropSame eq (o[k0 + k2 - 1]'(by omega)) (o.drop (k0 + k2)) := by
  intro n
  induction n with
  | zero =>
    intro k k2 o hl hn h0 hk hj
    refine ⟨k, o, by rw [loopM_eq, h2 k k2 o hl (by omega)], by omega, hl, ?_⟩
    rw [List.drop_of_length_le (by omega)]
    simp [dropSame]
  | succ n ih =>
    intro k k2 o hl hn h0 hk hj
    have hlt : k0 + k2 < o.length := by omega
    rw [loopM_eq, h1 k k2 o hl h0 hk hlt, List.drop_eq_getElem_cons hlt, dropSame]
    by_cases he : eq (o[k0 + k2]'hlt) (o[k0 + k2 - 1]'(by omega)) = true
    · rw [if_pos he, if_pos he]
      obtain ⟨k', o', g1, g2, g3, g4⟩ := ih k (k2 + 1) o hl (by omega) (by omega) (by omega) (by omega)
      exact ⟨k', o', g1, g2, g3, g4⟩
    · rw [if_neg he, if_neg he]
      obtain ⟨k', o', g1, g2, g3, g4⟩ := ih (k + 1) (k2 + 1) (o.set k (o[k0 + k2]'hlt)) (by simpa using hl) (by omega) (by omega) (by omega) (by omega)
      refine ⟨k', o', g1, g2, g3, ?_⟩
      rw [g4]
      have e1 : (o.set k (o[k0 + k2]'hlt)).drop (k0 + (k2 + 1)) = o.drop (k0 + k2 + 1) := by rw [List.drop_set_of_lt (by omega)]; rfl
      have e2 : (o.set k (o[k0 + k2]'hlt)).take (k + 1) = o.take k ++ [o[k0 + k2]'hlt] := by
        rw [List.take_add_one, List.take_set_of_le (by omega), List.getElem?_set_self (by omega)]
        rfl
      have e3 : (o.set k (o[k0 + k2]'hlt))[k0 + (k2 + 1) - 1]'(by simp; omega) = o[k0 + k2]'hlt := by
        rw [List.getElem_set]
        split
        · rfl
        · rfl
      rw [e1, e2, e3]; simp

theorem cpt_bind {α R Q : Type} (eq : α → α → Bool) (k0 : Nat) {body : Int × Int × List α × Unit → Option ((Int × Int × List α × Unit) ⊕ R)} {K : R → Option Q} (r : Int → List α → R) (o : List α) (hj : k0 + 1 ≤ o.length)
    (h1 : ∀ (k k2 : Nat) (o' : List α) (hl : o'.length = o.length) (h0 : 1 ≤ k2) (hk : k < k0 + k2) (hj : k0 + k2 < o'.length), body ((k : Int), (k2 : Int), o', ()) =
      if eq (o'[k0 + k2]'hj) (o'[k0 + k2 - 1]'(by omega)) = true then some (.inl ((k : Int), (k2 + 1 : Nat), o', ())) else some (.inl ((k + 1 : Nat), (k2 + 1 : Nat), o'.set k (o'[k0 + k2]'hj), ())))
    (h2 : ∀ (k k2 : Nat) (o' : List α), o'.length = o.length → k0 + k2 = o.length → body ((k : Int), (k2 : Int), o', ()) = some (.inr (r k o'))) :
    ∃ (k' : Nat) (o' : List α), Option.bind (loopM body ((k0 : Int), (1 : Int), o, ())) K = K (r k' o') ∧ k' ≤ o.length ∧ o'.length = o.length ∧ o'.take k' = o.take k0 ++ dropSame eq (o[k0]'(by omega)) (o.drop (k0 + 1)) := by
  obtain ⟨k', o', a, b, c, d⟩ := cpt_loop eq k0 r o.length h1 h2 _ k0 1 o rfl rfl (Nat.le_refl _) (by omega) hj
  exact ⟨k', o', by erw [a]; rfl, b, c, d⟩
def compactL {α : Type} (eq : α → α → Bool) : List α → List α
  | [] => []
  | a :: r => a :: dropSame eq a r
/-- slices.Compact's outer loop -/
theorem cpt_outer {α R : Type} (eq : α → α → Bool) (l : List α) (h2l : 2 ≤ l.length) {body : Int × Unit → Option ((Int × Unit) ⊕ R)} (r : List α → R)
    (heq : ∀ a b, eq b a = true → b = a)
    (h1 : ∀ (k : Nat) (h0 : 1 ≤ k) (hk : k < l.length), body ((k : Int), ()) = if eq (l[k]'hk) (l[k - 1]'(by omega)) = true then some (.inr (r (l.take k ++ dropSame eq l[k] (l.drop (k + 1))))) else some (.inl ((k + 1 : Nat), ())))
    (h2 : body ((l.length : Int), ()) = some (.inr (r l))) : loopM body ((1 : Int), ()) = some (r (compactL eq l)) := by
  have go : ∀ (n k : Nat) (h0 : 1 ≤ k) (hk : k ≤ l.length), l.length - k = n → loopM body ((k : Int), ()) = some (r (l.take k ++ dropSame eq (l[k - 1]'(by omega)) (l.drop k))) := by
    intro n
    induction n with
    | zero =>
      intro k h0 hk hn
      have : k = l.length := by omega
      subst this
      rw [loopM_eq, h2, List.drop_length, List.take_length]
      simp [dropSame]
    | succ n ih =>
      intro k h0 hk hn
      have hlt : k < l.length := by omega
      rw [loopM_eq, h1 k h0 hlt, List.drop_eq_getElem_cons hlt, dropSame]
      by_cases he : eq (l[k]'hlt) (l[k - 1]'(by omega)) = true
      · rw [if_pos he, if_pos he, heq _ _ he]
      · rw [if_neg he, if_neg he]
        refine (ih (k + 1) (by omega) (by omega) (by omega)).trans ?_
        have e : l.take (k + 1) = l.take k ++ [l[k]] := by rw [List.take_add_one, List.getElem?_eq_getElem hlt]; rfl
        exact congrArg (fun z => some (r z)) (by rw [e, List.append_assoc]; rfl)
  refine (go _ 1 (Nat.le_refl _) (by omega) rfl).trans ?_
  match l, h2l with
  | a :: t, _ => rfl
end Lv
