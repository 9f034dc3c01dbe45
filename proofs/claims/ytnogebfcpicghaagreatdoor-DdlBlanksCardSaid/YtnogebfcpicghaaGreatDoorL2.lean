import Derived.Test.YtnogebfcpicghaaGreatDoorL1
set_option linter.all false
set_option linter.unusedVariables false
set_option linter.unusedSimpArgs false
set_option linter.unusedSectionVars false
namespace Go.Proofs.Ytnogebfcpicghaa
open Go Lv Go.Proofs Go.RowKit Go.Shelf Dl
/-! ## The program's parser -/
def res {α β : Type} (f : α → List Tok → β) : Option (α × List Tok) → β ⊕ Int
  | some x => .inl (f x.1 x.2)
  | none => .inr 70
@[simp] theorem res_some {α β : Type} (f : α → List Tok → β) (x : α × List Tok) : res f (some x) = .inl (f x.1 x.2) := rfl
@[simp] theorem res_none {α β : Type} (f : α → List Tok → β) : res f none = (.inr 70 : β ⊕ Int) := rfl
theorem need_s (b : Bool) : ddl_need.F (b, ()) = some (bif b then .inl () else .inr 70) := by
  rw [ddl_need.eq]
  cases b <;> rfl
theorem is_go (ws : List ByteArray) (hw : ws.length < 1000) (l : List Tok) (hl : l.length ≤ 100000000) : ddl_parser_is.F (ws, l, ()) = some ((tkL ws l).isSome, l, ()) := by
  rw [ddl_parser_is.eq]
  unfold ddl_parser_is.B
  simp only []
  rw [loop_f (m := fun x => ws.length - x.1.toNat) (I := fun x => ∃ k : Nat, x.1 = (k : Int) ∧ k ≤ ws.length) (f := fun x => ((tkL (ws.drop x.1.toNat) (l.drop x.1.toNat)).isSome, l, ())) ?_ _ ⟨0, rfl, by omega⟩]
  · simp
  · rintro ⟨x, ⟨⟩⟩ ⟨k, hk, hle⟩
    simp only at hk
    subst hk
    simp only [Int.toNat_natCast]
    by_cases hlt : k < ws.length
    · have d1 : decide ((k : Int) < (ws.length : Int)) = true := by simp; omega
      have d0 : decide (0 ≤ (k : Int)) = true := by simp
      simp only [d1, d0, Bool.and_self, cond_true, getD_at hlt]
      rw [List.drop_eq_getElem_cons hlt]
      by_cases hkl : k < l.length
      · have d2 : decide ((k : Int) ≥ (l.length : Int)) = false := by simp; omega
        have d3 : decide ((k : Int) < (l.length : Int)) = true := by simp; omega
        simp only [d2, d3, cond_false, Bool.true_and, cond_true, getD_at hkl, beq_bytes]
        rw [List.drop_eq_getElem_cons hkl]
        simp only [tkL, tk]
        by_cases h1 : l[k].1 = 1
        · right
          have : (l[k].1 == (1 : Int)) = true := by simp [h1]
          simp only [this, cond_true]
          simp [h1]
        · have e1 : (l[k].1 == (1 : Int)) = false := by simp [h1]
          by_cases h2 : l[k].2.1 = ws[k]
          · left
            simp only [e1, h2, decide_true, Bool.not_true, cond_false, wrap_s hlt (show ws.length < 9223372036854775808 by omega)]
            refine ⟨_, rfl, ⟨k + 1, rfl, by omega⟩, by simp only [Int.toNat_natCast]; omega, ?_⟩
            simp [h1]
          · right
            simp only [e1, h2, decide_false, Bool.not_false, cond_false, cond_true]
            simp
      · right
        have d2 : decide ((k : Int) ≥ (l.length : Int)) = true := by simp; omega
        simp only [d2, cond_true]
        rw [List.drop_eq_nil_of_le (show l.length ≤ k by omega)]
        rfl
    · right
      have d1 : decide ((k : Int) < (ws.length : Int)) = false := by simp; omega
      simp only [d1, cond_false]
      rw [List.drop_eq_nil_of_le (by omega)]
      rfl
theorem tkL_len : ∀ (ws : List ByteArray) (l r : List Tok), tkL ws l = some r → r = l.drop ws.length ∧ ws.length ≤ l.length := by
  intro ws
  induction ws with
  | nil => intro l r h; cases h; simp
  | cons w ws ih =>
    intro l r h
    simp only [tkL, Option.bind_eq_some_iff] at h
    obtain ⟨m, hm, h⟩ := h
    obtain ⟨e, hl⟩ := ih m r h
    cases l with
    | nil => cases hm
    | cons t l =>
      simp only [tk] at hm
      split at hm
      · cases hm; exact ⟨by simpa using e, by simp; omega⟩
      · cases hm
theorem take_go (ws : List ByteArray) (hw : ws.length < 1000) (l : List Tok) (hl : l.length ≤ 100000000) : ddl_parser_take.F (ws, l, ()) = some ((tkL ws l).isSome, (tkL ws l).getD l, ()) := by
  rw [ddl_parser_take.eq]
  unfold ddl_parser_take.B
  simp only [is_go ws hw l hl, Option.bind_some]
  cases h : tkL ws l with
  | none => simp
  | some r =>
    obtain ⟨e, h2⟩ := tkL_len ws l r h
    have d : (decide (0 ≤ (ws.length : Int)) && (decide ((ws.length : Int) ≤ (l.length : Int)) && decide ((l.length : Int) ≤ (l.length : Int)))) = true := by simp; omega
    simp only [Option.isSome_some, Bool.not_true, cond_false, d, cond_true, Int.toNat_natCast, List.take_length]
    rw [← e]
    rfl
theorem tkL_one (s : ByteArray) (l : List Tok) : tkL [s] l = tk s l := by
  simp only [tkL]
  cases tk s l <;> rfl
theorem take_s (s : ByteArray) (l : List Tok) (hl : l.length ≤ 100000000) : ddl_parser_take.F ([s], l, ()) = some ((tk s l).isSome, (tk s l).getD l, ()) := by
  rw [take_go [s] (by simp) l hl, tkL_one]
theorem is_s (s : ByteArray) (l : List Tok) (hl : l.length ≤ 100000000) : ddl_parser_is.F ([s], l, ()) = some ((tk s l).isSome, l, ()) := by
  rw [is_go [s] (by simp) l hl, tkL_one]
theorem tk_len {s : ByteArray} {l r : List Tok} (h : tk s l = some r) : r.length < l.length := by
  cases l with
  | nil => cases h
  | cons t l =>
    simp only [tk] at h
    split at h
    · cases h; simp
    · cases h
theorem one_s (ws : List ByteArray) (hw : ws.length < 1000) (l : List Tok) (hl : l.length ≤ 100000000) : ddl_parser_one.F (ws, l, ()) = some (res (fun i r => (i, r, ())) (oneS 0 ws l)) := by
  rw [ddl_parser_one.eq]
  unfold ddl_parser_one.B
  simp only []
  rw [loop_f (S := Int × (List tTokT) × Unit) (m := fun x => ws.length - x.1.toNat) (I := fun x => x.2.1 = l ∧ ∃ k : Nat, x.1 = (k : Int) ∧ k ≤ ws.length)
    (f := fun x => match oneS x.1 (ws.drop x.1.toNat) l with | some y => .inr (.inl (y.1, y.2, ())) | none => .inl (l, ())) ?_ _ ⟨rfl, 0, rfl, by omega⟩]
  · simp only [Option.bind_some, Int.toNat_zero, List.drop_zero]
    cases oneS 0 ws l with
    | none => simp only [need_s]; rfl
    | some y => rfl
  · rintro ⟨x, a, ⟨⟩⟩ ⟨ha, k, hk, hle⟩
    simp only at hk ha
    subst hk
    subst ha
    simp only [Int.toNat_natCast]
    by_cases hlt : k < ws.length
    · have d1 : decide ((k : Int) < (ws.length : Int)) = true := by simp; omega
      have d0 : decide (0 ≤ (k : Int)) = true := by simp
      simp only [d1, d0, Bool.and_self, cond_true, getD_at hlt, take_s _ a hl, Option.bind_some]
      rw [List.drop_eq_getElem_cons hlt]
      simp only [oneS]
      cases h : tk ws[k] a with
      | some r => right; simp
      | none =>
        left
        simp only [Option.isSome_none, cond_false, Option.getD_none, wrap_s hlt (show ws.length < 9223372036854775808 by omega)]
        refine ⟨_, rfl, ⟨rfl, k + 1, rfl, by omega⟩, by simp only [Int.toNat_natCast]; omega, ?_⟩
        simp only [Int.toNat_natCast]
        rfl
    · right
      have d1 : decide ((k : Int) < (ws.length : Int)) = false := by simp; omega
      simp only [d1, cond_false]
      rw [List.drop_eq_nil_of_le (by omega)]
      rfl
theorem next_nil : ddl_parser_next.F ([], ()) = some (.inr 70) := by
  rw [ddl_parser_next.eq]
  unfold ddl_parser_next.B
  simp only [need_s]
  rfl
theorem next_cons (t : Tok) (l : List Tok) (hl : (t :: l).length ≤ 100000000) : ddl_parser_next.F (t :: l, ()) = some (.inl (t.1, t.2.1, t.2.2.1, t.2.2.2.1, t.2.2.2.2, l, ())) := by
  rw [ddl_parser_next.eq]
  unfold ddl_parser_next.B
  have d1 : decide (((t :: l).length : Int) > (0 : Int)) = true := by rw [decide_eq_true_eq]; simp only [List.length_cons]; omega
  have d2 : (decide (0 ≤ (0 : Int)) && decide ((0 : Int) < ((t :: l).length : Int))) = true := by simp only [Bool.and_eq_true, decide_eq_true_eq, List.length_cons]; omega
  have d3 : (decide (0 ≤ (1 : Int)) && (decide ((1 : Int) ≤ ((t :: l).length : Int)) && decide (((t :: l).length : Int) ≤ ((t :: l).length : Int)))) = true := by simp only [Bool.and_eq_true, decide_eq_true_eq, List.length_cons]; omega
  simp only [d1, need_s, cond_true, Option.bind_some, d2, d3, Int.toNat_natCast, List.take_length]
  rfl
theorem name_s (l : List Tok) (hl : l.length ≤ 100000000) : ddl_parser_name.F (l, ()) = some (res (fun a r => (a, r, ())) (nameS l)) := by
  rw [ddl_parser_name.eq]
  unfold ddl_parser_name.B
  cases l with
  | nil => simp only [next_nil]; rfl
  | cons t l =>
    simp only [next_cons t l hl, Option.bind_some, Name_s, need_s, nameS]
    by_cases h : t.1 = 0
    · have : (t.1 == (0 : Int)) = true := by simp [h]
      simp only [this, cond_true, h, true_and]
      cases hn : isName t.2.1 <;> simp
    · have : (t.1 == (0 : Int)) = false := by simp [h]
      simp only [this, cond_false, h, false_and, if_false]
      rfl
theorem col_s (l : List Tok) (hl : l.length ≤ 100000000) : ddl_parser_col.F (l, ()) = some (res (fun a r => (a, r, ())) (colS l)) := by
  rw [ddl_parser_col.eq]
  unfold ddl_parser_col.B
  cases l with
  | nil => simp only [next_nil]; rfl
  | cons t l =>
    simp only [next_cons t l hl, Option.bind_some, need_s, colS]
    by_cases h1 : t.1 = 1
    · have b1 : (t.1 == (1 : Int)) = true := by simp [h1]
      by_cases h2 : t.2.2.1 = 2
      · have b2 : (t.2.2.1 == (2 : Int)) = true := by simp [h2]
        by_cases h3 : 0 ≤ t.2.2.2.1
        · have b3 : decide (t.2.2.2.1 ≥ (0 : Int)) = true := by simp; exact h3
          by_cases h4 : t.2.2.2.1 ≤ 99
          · simp [b1, b2, b3, h1, h2, h3, h4]
          · simp [b1, b2, b3, h1, h2, h3, h4]
        · have b3 : decide (t.2.2.2.1 ≥ (0 : Int)) = false := by simp; omega
          simp only [b1, b2, b3, cond_true, cond_false, Option.bind_some]
          simp [h3]
      · have b2 : (t.2.2.1 == (2 : Int)) = false := by simp [h2]
        simp only [b1, b2, cond_true, cond_false, Option.bind_some]
        simp [h2]
    · have b1 : (t.1 == (1 : Int)) = false := by simp [h1]
      simp only [b1, cond_false, Option.bind_some]
      simp [h1]
theorem getKV_put {α : Type} (k a : ByteArray) (x : α) : ∀ m : List (ByteArray × α), getKV k (putKV a x m) = if k = a then some x else getKV k m := by
  intro m
  induction m with
  | nil => 
    simp only [putKV, getKV]
    by_cases h : a = k
    · simp [h]
    · have : ¬ k = a := fun e => h e.symm
      simp [h, this]
  | cons y m ih =>
    obtain ⟨b, z⟩ := y
    simp only [putKV]
    by_cases h : b = a
    · subst h
      simp only [if_true, getKV]
      by_cases h2 : b = k
      · simp [h2]
      · have : ¬ k = b := fun e => h2 e.symm
        simp [h2, this]
    · simp only [if_neg h, getKV, ih]
      by_cases h2 : b = k
      · subst h2; simp [h]
      · simp [h2]
theorem getKV_nil {α : Type} (k : ByteArray) : getKV k ([] : List (ByteArray × α)) = none := rfl
def cutC : List UInt8 → ByteArray × Bool × Unit
  | [] => (bs [], false, ())
  | c :: d => if c = 99 then (bs d, true, ()) else (bs (c :: d), false, ())
theorem cut_s (l : List UInt8) (hl : l.length ≤ 100000000) : strings_CutPrefix.F (bs l, (⟨#[99]⟩ : ByteArray), ()) = some (cutC l) := by
  have hp : internal_stringslite_HasPrefix.F (bs l, (⟨#[99]⟩ : ByteArray), ()) = some (decide (l.head? = some 99), ()) := by
    rw [internal_stringslite_HasPrefix.eq]
    unfold internal_stringslite_HasPrefix.B
    have hc : (⟨#[99]⟩ : ByteArray).size = 1 := rfl
    simp only [bs_size, hc]
    cases l with
    | nil => rfl
    | cons c d =>
      have d1 : decide ((((c :: d).length : Nat) : Int) ≥ ((1 : Nat) : Int)) = true := by rw [decide_eq_true_eq]; simp only [List.length_cons]; omega
      have d2 : (decide (0 ≤ (0 : Int)) && (decide ((0 : Int) ≤ ((1 : Nat) : Int)) && decide (((1 : Nat) : Int) ≤ (((c :: d).length : Nat) : Int)))) = true := by simp only [Bool.and_eq_true, decide_eq_true_eq, List.length_cons]; omega
      simp only [d1, d2, cond_true, Int.toNat_natCast]
      rw [show (bs (c :: d)).extract (Int.toNat 0) 1 = bs [c] by rw [show Int.toNat 0 = 0 from rfl, ext_bs _ 0 1 (by omega)]; simp [lst], show (⟨#[99]⟩ : ByteArray) = bs [99] from rfl, beq_bs]
      simp
  have hq : internal_stringslite_CutPrefix.F (bs l, (⟨#[99]⟩ : ByteArray), ()) = some (cutC l) := by
    rw [internal_stringslite_CutPrefix.eq]
    unfold internal_stringslite_CutPrefix.B
    simp only [hp, Option.bind_some]
    cases l with
    | nil => rfl
    | cons c d =>
      by_cases h : c = 99
      · subst h
        have hc : (⟨#[99]⟩ : ByteArray).size = 1 := rfl
        have d2 : (decide (0 ≤ ((1 : Nat) : Int)) && (decide (((1 : Nat) : Int) ≤ (((99 :: d).length : Nat) : Int)) && decide ((((99 :: d).length : Nat) : Int) ≤ (((99 :: d).length : Nat) : Int)))) = true := by simp only [Bool.and_eq_true, decide_eq_true_eq, List.length_cons]; omega
        simp only [List.head?_cons, decide_true, Bool.not_true, cond_false, hc, bs_size, d2, cond_true, Int.toNat_natCast, if_true]
        rw [ext_bs _ 1 _ (by simp only [List.length_cons]; omega)]
        simp [lst, cutC]
      · simp [h, cutC]
  rw [strings_CutPrefix.eq]
  unfold strings_CutPrefix.B
  simp only [hq, Option.bind_some]
theorem column_s (l : List UInt8) (hl : l.length ≤ 100000000) : ∃ n, ddl_column.F (bs l, ()) = some (n, (colP l).isSome, ()) ∧ ∀ m, colP l = some m → n = m := by
  rw [ddl_column.eq]
  unfold ddl_column.B
  simp only [cut_s l hl, Option.bind_some]
  have at_s : ∀ w : List UInt8, w.length ≤ 100000000 → strconv_Atoi.F (bs w, ()) = some ((atoiR (bs w)).1, (atoiR (bs w)).2, ()) := fun w hw => by
    rw [strconv_Atoi.eq]
    show atoiF (bs w, ()) = _
    unfold atoiF
    simp only
    rw [if_pos (by rw [bs_size]; omega)]
  cases l with
  | nil =>
    show ∃ n, Option.bind (strconv_Atoi.F (bs [], ())) _ = _ ∧ _
    rw [atoi_b [] (by simp)]
    exact ⟨_, rfl, fun m h => by cases h⟩
  | cons c d =>
    simp only [colP, cutC]
    by_cases h : c = 99
    · subst h
      simp only [if_true]
      rw [atoi_b d (by simp only [List.length_cons] at hl; omega)]
      simp only [cond_true]
      unfold atoiR
      simp only [bs_list]
      cases ha : Lib.atoiAll d with
      | ok v =>
        obtain ⟨b1, b2⟩ := itoa_bound ha
        simp only [cond_true]
        by_cases h99 : v ≤ 99
        · have : decide (v ≤ (99 : Int)) = true := by simp [h99]
          simp only [this, cond_true]
          rw [itoa_b v b1 b2]
          simp only [beq_bs]
          by_cases hi : Lib.itoa v = d
          · refine ⟨v, ?_, ?_⟩
            · simp [hi, h99]
            · intro m hm; simp [hi, h99] at hm; exact hm
          · exact ⟨v, by simp [hi, h99], fun m hm => by simp [hi] at hm⟩
        · have : decide (v ≤ (99 : Int)) = false := by simp; omega
          simp only [this, cond_false]
          exact ⟨v, by simp [h99], fun m hm => by simp [h99] at hm⟩
      | _ => exact ⟨_, rfl, fun m hm => by cases hm⟩
    · simp only [if_neg h]
      rw [atoi_b (c :: d) (by omega)]
      exact ⟨_, rfl, fun m hm => by cases hm⟩
end Go.Proofs.Ytnogebfcpicghaa
