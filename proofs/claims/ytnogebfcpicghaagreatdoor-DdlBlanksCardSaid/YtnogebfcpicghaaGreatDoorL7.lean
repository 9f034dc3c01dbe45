import Derived.Test.YtnogebfcpicghaaGreatDoorL6
import Derived.Test.YtnogebfcpicghaaGreatDoorP3
import Derived.Lib.ItoaLen
set_option linter.all false
set_option linter.unusedVariables false
set_option linter.unusedSimpArgs false
set_option linter.unusedSectionVars false
namespace Go.Proofs.Ytnogebfcpicghaa
open Go Lv Go.Proofs Go.RowKit Go.Shelf Dl
abbrev I64 (n : Int) : Prop := -9223372036854775808 ≤ n ∧ n ≤ 9223372036854775807
theorem add_s (p o : List ByteArray) (h : o.length + p.length ≤ 1000000000) : ddl_printer_add.F (p, o, ()) = some (o ++ p, ()) := by
  rw [ddl_printer_add.eq]
  unfold ddl_printer_add.B
  have : Nat.ble (o.length + p.length) 8796093022208 = true := by rw [Nat.ble_eq]; omega
  simp only [this, cond_true]
theorem addIf_s (b : Bool) (p o : List ByteArray) (h : o.length + p.length ≤ 1000000000) : ddl_printer_addIf.F (b, p, o, ()) = some (o ++ (if b then p else []), ()) := by
  rw [ddl_printer_addIf.eq]
  unfold ddl_printer_addIf.B
  cases b
  · simp
  · simp only [cond_true, add_s p o h, Option.bind_some, if_true]
theorem word1_s (n : Int) (ws : List ByteArray) : ddl_word.F (n, ws, ()) = some (wordW n ws, ()) := by
  rw [ddl_word.eq]
  unfold ddl_word.B wordW
  simp only []
  by_cases h1 : n < 0
  · simp [h1]
  · by_cases h2 : (ws.length : Int) ≤ n
    · have d2 : decide (n ≥ (ws.length : Int)) = true := by simp; omega
      simp [h1, h2, d2]
    · have d2 : decide (n ≥ (ws.length : Int)) = false := by simp; omega
      have d3 : (decide (0 ≤ n) && decide (n < (ws.length : Int))) = true := by simp; omega
      have d1 : decide (n < 0) = false := by simp; omega
      simp only [d1, d2, d3, cond_false, cond_true]
      rw [if_neg (by omega)]
theorem val_eq (x y : Val) : Ty.eq tValue x y = decide (x = y) := @ty_eq tValue rfl (inferInstanceAs (DecidableEq Val)) x y
theorem b_eq (n m : Int) : (n == m) = decide (n = m) := by by_cases h : n = m <;> simp [h]
theorem lmay_s (a b : Int) (s : ByteArray) : lex_May.F ((1 : Int), e0, a, b, s, ()) = some (vMay (a, (b, s)), ()) := by
  rw [lex_May.eq]
  unfold lex_May.B
  simp only [beq_bytes]
  have e1 : ((1 : Int) == (0 : Int)) = false := by decide
  have e2 : ((1 : Int) == (1 : Int)) = true := by decide
  have e3 : decide (e0 = (⟨#[]⟩ : ByteArray)) = true := by decide
  simp only [e1, e2, e3, cond_false, cond_true]
  rw [value_May.eq]
  unfold value_May.B vMay
  simp only [beq_bytes, val_eq, b_eq]
  by_cases h0 : a = 0
  · subst h0
    simp only [decide_true, cond_true, Option.bind_some]
    cases decide (((0 : Int), (b, s)) = ((0 : Int), ((0 : Int), (⟨#[]⟩ : ByteArray)))) <;> simp
  by_cases h1 : a = 1
  · subst h1
    simp only [h0, decide_false, cond_false, decide_true, cond_true]
    cases hb0 : decide (b = 0) <;> cases hb1 : decide (b = 1) <;> cases hs : decide (s = (⟨#[]⟩ : ByteArray)) <;> simp
  by_cases h2 : a = 2
  · subst h2
    simp only [h0, h1, decide_false, cond_false, decide_true, cond_true, Option.bind_some]
    cases hs : decide (s = (⟨#[]⟩ : ByteArray)) with
    | true => have := of_decide_eq_true hs; subst this; simp
    | false => have := of_decide_eq_false hs; simp [this]
  by_cases h3 : a = 3
  · subst h3
    simp only [h0, h1, h2, decide_false, cond_false, decide_true, cond_true]
    have d : decide ((s.size : Int) ≤ (1000 : Int)) = decide (s.size ≤ 1000) := by simp only [decide_eq_decide]; omega
    rw [d]
    cases hb : decide (b = 0) with
    | false => have := of_decide_eq_false hb; simp [this]
    | true =>
      have := of_decide_eq_true hb
      subst this
      cases hs : decide (s.size ≤ 1000) with
      | true => have := of_decide_eq_true hs; simp [this]
      | false => have := of_decide_eq_false hs; simp [this]
  · simp only [h0, h1, h2, h3, decide_false, cond_false, Option.bind_some]
    simp
theorem join_b {Q : Type} (l : List ByteArray) (h1 : l.length ≤ 1000000000) (h2 : (joinL (l.map fun w => w.data.toList)).length ≤ 140737488355328) (K : TS strings_Join.so → Option Q) : Option.bind (strings_Join.F (l, (⟨#[32]⟩ : ByteArray), ())) K = K (bs (joinL (l.map fun w => w.data.toList)), ()) := by
  have e : joinB l (⟨#[32]⟩ : ByteArray) = bs (joinL (l.map fun w => w.data.toList)) := by
    unfold joinB
    show bs (Lib.join _ [32]) = _
    rw [join_joinL]
  have ha : strings_Join.F (l, (⟨#[32]⟩ : ByteArray), ()) = some (bs (joinL (l.map fun w => w.data.toList)), ()) := by
    rw [strings_Join.eq]
    show (if l.length ≤ 140737488355328 ∧ (joinB l (⟨#[32]⟩ : ByteArray)).size ≤ 140737488355328 then some (joinB l (⟨#[32]⟩ : ByteArray), ()) else none) = _
    rw [e, if_pos ⟨by omega, by rw [bs_size]; exact h2⟩]
  rw [ha]; rfl
theorem rep_b {Q : Type} (w : List UInt8) (hw : w.length ≤ 1000) (K : TS strings_ReplaceAll.so → Option Q) : Option.bind (strings_ReplaceAll.F (bs w, (⟨#[39]⟩ : ByteArray), (⟨#[39, 39]⟩ : ByteArray), ())) K = K (bs (dbl w), ()) := by
  have ha : strings_ReplaceAll.F (bs w, (⟨#[39]⟩ : ByteArray), (⟨#[39, 39]⟩ : ByteArray), ()) = some (bs (dbl w), ()) := by
    rw [strings_ReplaceAll.eq]
    show replaceF _ = _
    unfold replaceF
    simp only
    have hc : Lib.countB (bs w) (⟨#[39]⟩ : ByteArray) ≤ w.length := count_le w
    have h1 : ((⟨#[39, 39]⟩ : ByteArray)).size = 2 := rfl
    have h2 : ((⟨#[39]⟩ : ByteArray)).size = 1 := rfl
    rw [if_pos ⟨by rw [bs_size]; omega, by rw [h2]; decide, by rw [bs_size, h1]; omega⟩]
    have : replaceB (bs w) (⟨#[39]⟩ : ByteArray) (⟨#[39, 39]⟩ : ByteArray) = bs (dbl w) := by
      unfold replaceB
      show bs (Lib.replaceAll w [39] [39, 39]) = _
      rw [replaceAll_dbl]
    rw [this]
  rw [ha]; rfl
theorem dbl_le (w : List UInt8) : (dbl w).length ≤ 2 * w.length := by
  induction w with
  | nil => simp [dbl]
  | cons c r ih => simp only [dbl]; split <;> simp <;> omega
theorem vtext_s (v : Val) (hm : vMay v = true) (hi : I64 v.2.1) : value_Text.F (v.1, v.2.1, v.2.2, ()) = some (bs (showT (1, (e0, v))), ()) := by
  obtain ⟨a, b, s⟩ := v
  rw [value_Text.eq]
  unfold value_Text.B
  simp only [vMay, Bool.or_eq_true, Bool.and_eq_true, decide_eq_true_eq] at hm
  simp only [b_eq]
  rcases hm with ⟨h1, h2⟩ | ⟨h1, h2, h3⟩
  · subst h1; subst h2
    have e1 : decide ((2 : Int) = 0) = false := by decide
    have e2 : decide ((2 : Int) = 1) = false := by decide
    have e3 : decide ((2 : Int) = 2) = true := by decide
    simp only [e1, e2, e3, cond_false, cond_true]
    rw [itoa_b b hi.1 hi.2]
    rfl
  · subst h1; subst h2
    have e1 : decide ((3 : Int) = 0) = false := by decide
    have e2 : decide ((3 : Int) = 1) = false := by decide
    have e3 : decide ((3 : Int) = 2) = false := by decide
    have e4 : decide ((3 : Int) = 3) = true := by decide
    simp only [e1, e2, e3, e4, cond_false, cond_true]
    have hs : s = bs s.data.toList := (bs_data s).symm
    generalize s.data.toList = w at hs
    subst hs
    rw [bs_size] at h3
    have h5 := dbl_le w
    have hmax : IntKind.i64.max = 9223372036854775807 := by decide
    rw [rep_b w h3]
    simp only [bs_app, bs_size, hmax]
    have d1 : (!decide (((([39] : List UInt8).length + (dbl w).length : Nat) : Int) > 9223372036854775807)) = true := by simp; omega
    have d2 : (!decide (((([39] ++ dbl w : List UInt8).length + ([39] : List UInt8).length : Nat) : Int) > 9223372036854775807)) = true := by simp; omega
    rw [d1]
    simp only [cond_true]
    rw [d2]
    rfl
theorem joinL_one (w : List UInt8) : joinL [w] = w := rfl
theorem itoa_len {n : Int} (h : I64 n) : (Lib.itoa n).length ≤ 21 := Lib.itoa_length_le n h.1 h.2
theorem showV_le {v : Val} (hm : vMay v = true) (hi : I64 v.2.1) : (showT (1, (e0, v))).length ≤ 2100 := by
  obtain ⟨a, b, s⟩ := v
  simp only [vMay, Bool.or_eq_true, Bool.and_eq_true, decide_eq_true_eq] at hm
  rcases hm with ⟨h1, h2⟩ | ⟨h1, h2, h3⟩
  · subst h1; subst h2
    have : showT (1, (e0, (2, (b, e0)))) = Lib.itoa b := rfl
    rw [this]
    have hi : I64 b := hi
    have := itoa_len hi
    omega
  · subst h1; subst h2
    have : showT (1, (e0, (3, (0, s)))) = 39 :: dbl s.data.toList ++ [39] := rfl
    rw [this]
    have h4 := dbl_le s.data.toList
    have h5 : s.data.toList.length = s.size := rfl
    simp only [List.length_cons, List.length_append, List.length_nil]
    omega
theorem lprint_s (v : Val) (hm : vMay v = true) (hi : I64 v.2.1) : lex_Print.F ([((1 : Int), (e0, v))], ()) = some (bs (showT (1, (e0, v))), ()) := by
  rw [lex_Print.eq]
  unfold lex_Print.B
  simp only []
  rw [loopM_q]
  have c1 : decide ((0 : Int) < (([((1 : Int), (e0, v))] : List tTokT).length : Int)) = true := rfl
  have c2 : decide (0 ≤ (0 : Int)) = true := by decide
  have g : List.getD ([((1 : Int), (e0, v))] : List tTokT) (Int.toNat 0) tTok.z = ((1 : Int), (e0, v)) := rfl
  have hmay : lex_May.F ((1 : Int), e0, v.1, v.2.1, v.2.2, ()) = some (true, ()) := by rw [lmay_s]; rw [hm]
  have e2 : ((1 : Int) == (1 : Int)) = true := by decide
  have e3 : IntKind.i64.wrap ((0 : Int) + (1 : Int)) = 1 := by decide
  simp only [c1, c2, Bool.and_self, g, cond_true, hmay, Option.bind_some, Bool.not_true, cond_false, e2, vtext_s v hm hi]
  have d1 : Nat.ble (([] : List ByteArray).length + [bs (showT (1, (e0, v)))].length) 8796093022208 = true := by rw [Nat.ble_eq]; simp
  rw [d1]
  simp only [cond_true, e3]
  rw [loopM_q]
  have c3 : decide ((1 : Int) < (([((1 : Int), (e0, v))] : List tTokT).length : Int)) = false := rfl
  simp only [c3, cond_false, Option.bind_some, List.nil_append]
  rw [join_b [bs (showT (1, (e0, v)))] (by simp) (by have := showV_le hm hi; simpa [joinL] using (by omega : (showT (1, (e0, v))).length ≤ 140737488355328))]
  rfl
theorem constant_s (v : Val) (hi : I64 v.2.1) : ddl_constant.F (v.1, v.2.1, v.2.2, ()) = some (constW v, ()) := by
  obtain ⟨a, b, s⟩ := v
  rw [ddl_constant.eq]
  unfold ddl_constant.B constW
  simp only [bytes_beq, b_eq]
  by_cases h0 : a = 0 ∧ b = 0 ∧ s = e0
  · obtain ⟨rfl, rfl, rfl⟩ := h0
    simp
    rfl
  have n0 : ¬ ((a, (b, s)) : Val) = (0, (0, e0)) := fun e => by cases e; exact h0 ⟨rfl, rfl, rfl⟩
  have b0 : (decide (a = 0) && decide (b = 0) && decide (s = e0)) = false := by
    cases h : (decide (a = 0) && decide (b = 0) && decide (s = e0)) with
    | false => rfl
    | true => simp only [Bool.and_eq_true, decide_eq_true_eq] at h; exact absurd ⟨h.1.1, h.1.2, h.2⟩ h0
  by_cases h1 : a = 1 ∧ b = 0 ∧ s = e0
  · obtain ⟨rfl, rfl, rfl⟩ := h1
    simp
    rfl
  have n1 : ¬ ((a, (b, s)) : Val) = (1, (0, e0)) := fun e => by cases e; exact h1 ⟨rfl, rfl, rfl⟩
  have b1 : (decide (a = 1) && decide (b = 0) && decide (s = e0)) = false := by
    cases h : (decide (a = 1) && decide (b = 0) && decide (s = e0)) with
    | false => rfl
    | true => simp only [Bool.and_eq_true, decide_eq_true_eq] at h; exact absurd ⟨h.1.1, h.1.2, h.2⟩ h1
  by_cases h2 : a = 1 ∧ b = 1 ∧ s = e0
  · obtain ⟨rfl, rfl, rfl⟩ := h2
    simp
    rfl
  have n2 : ¬ ((a, (b, s)) : Val) = (1, (1, e0)) := fun e => by cases e; exact h2 ⟨rfl, rfl, rfl⟩
  have b2 : (decide (a = 1) && decide (b = 1) && decide (s = e0)) = false := by
    cases h : (decide (a = 1) && decide (b = 1) && decide (s = e0)) with
    | false => rfl
    | true => simp only [Bool.and_eq_true, decide_eq_true_eq] at h; exact absurd ⟨h.1.1, h.1.2, h.2⟩ h2
  rw [if_neg n0, if_neg n1, if_neg n2]
  rw [b0, b1, b2]
  simp only [cond_false]
  rw [lmay_s]
  simp only [Option.bind_some]
  cases hm : vMay (a, (b, s)) with
  | false => rfl
  | true =>
    simp only [Bool.not_true, cond_false, if_true]
    exact (bind_is _ (lprint_s (a, (b, s)) hm hi)).trans rfl
theorem constant_b {Q : Type} (v : Val) (hi : I64 v.2.1) (K : TS ddl_constant.so → Option Q) : Option.bind (ddl_constant.F (v.1, v.2.1, v.2.2, ())) K = K (constW v, ()) := by rw [constant_s v hi]; rfl
def EFit (e : List tNodeT) : Prop := e.length ≤ 120 ∧ ∀ x ∈ e, I64 x.1 ∧ I64 x.2.1 ∧ I64 x.2.2.2.1
theorem itoa_w {Q : Type} (n : Int) (h : I64 n) (K : TS strconv_Itoa.so → Option Q) : Option.bind (strconv_Itoa.F (n, ())) K = K (bs (Lib.itoa n), ()) := itoa_b n h.1 h.2 K
theorem pexpr_s (e : List tNodeT) (o : List ByteArray) (he : EFit e) (ho : o.length ≤ 900000000) : ddl_printer_expr.F (e, o, ()) = some (o ++ exprW e, ()) := by
  rw [ddl_printer_expr.eq]
  unfold ddl_printer_expr.B
  have hl := he.1
  simp only [add_s [(⟨#[91]⟩ : ByteArray)] o (by simp; omega), Option.bind_some]
  rw [loop_f (S := Int × (List ByteArray) × Unit) (m := fun x => e.length - x.1.toNat) (I := fun x => ∃ k : Nat, x.1 = (k : Int) ∧ k ≤ e.length ∧ x.2.1.length ≤ 900000001 + k)
    (f := fun x => .inl (x.2.1 ++ (e.drop x.1.toNat).map stepW, ())) ?_ _ ⟨0, rfl, by omega, by simp; omega⟩]
  · simp only [Int.toNat_zero, List.drop_zero, Option.bind_some]
    rw [add_s [(⟨#[93]⟩ : ByteArray)] _ (by simp; omega)]
    simp only [Option.bind_some, exprW]
    simp
  · rintro ⟨x, out, ⟨⟩⟩ ⟨k, hk, hle, hlen⟩
    simp only at hk hlen
    subst hk
    simp only [Int.toNat_natCast]
    by_cases hlt : k < e.length
    · left
      obtain ⟨hx0, hx1, hx2⟩ := he.2 _ (List.getElem_mem hlt)
      have d1 : decide ((k : Int) < (e.length : Int)) = true := by simp; omega
      have d0 : decide (0 ≤ (k : Int)) = true := by simp
      simp only [d1, d0, Bool.and_self, cond_true, getD_at hlt, b_eq, wrap_s hlt (show e.length < 9223372036854775808 by omega)]
      rw [List.drop_eq_getElem_cons hlt]
      have fin : ∀ w, w = stepW e[k] → ∃ s' : Int × (List ByteArray) × Unit, (some (.inl (((k + 1 : Nat) : Int), out ++ [w], ())) : Option ((Int × (List ByteArray) × Unit) ⊕ ((List ByteArray) × Unit) ⊕ ((List ByteArray) × Unit))) = some (.inl s') ∧ (∃ k : Nat, s'.1 = (k : Int) ∧ k ≤ e.length ∧ s'.2.1.length ≤ 900000001 + k) ∧ e.length - s'.1.toNat < e.length - k ∧
          (Sum.inl (s'.2.1 ++ (e.drop s'.1.toNat).map stepW, ()) : ((List ByteArray) × Unit) ⊕ ((List ByteArray) × Unit)) = .inl (out ++ (e[k] :: e.drop (k + 1)).map stepW, ()) := by
        rintro w rfl
        refine ⟨_, rfl, ⟨k + 1, rfl, by omega, by simp; omega⟩, by simp only [Int.toNat_natCast]; omega, ?_⟩
        simp only [Int.toNat_natCast, List.map_cons, List.append_assoc, List.cons_append, List.nil_append]
      by_cases h0 : e[k].1 = 0
      · simp only [h0, decide_true, cond_true]
        rw [itoa_w _ hx1]
        have hmax : IntKind.i64.max = 9223372036854775807 := by decide
        have hi := itoa_len hx1
        have d2 : (!decide ((((⟨#[99]⟩ : ByteArray).size + (bs (Lib.itoa e[k].2.1)).size : Nat) : Int) > IntKind.i64.max)) = true := by rw [bs_size, bs_size, hmax]; simp; omega
        simp only []
        rw [d2]
        simp only [cond_true]
        rw [add_s _ out (by simp; omega)]
        refine fin _ ?_
        unfold stepW
        rw [if_pos h0]
        exact bs_app [99] (Lib.itoa e[k].2.1)
      · simp only [h0, decide_false, cond_false]
        by_cases h1 : e[k].1 = 1
        · simp only [h1, decide_true, cond_true]
          rw [constant_b e[k].2.2 hx2]
          simp only []
          rw [add_s _ out (by simp; omega)]
          refine fin _ ?_
          unfold stepW
          rw [if_neg h0, if_pos h1]
        · simp only [h1, decide_false, cond_false, word1_s, Option.bind_some]
          rw [add_s _ out (by simp; omega)]
          refine fin _ ?_
          unfold stepW
          rw [if_neg h0, if_neg h1]
          rfl
    · right
      have d1 : decide ((k : Int) < (e.length : Int)) = false := by simp; omega
      simp only [d1, cond_false]
      rw [List.drop_eq_nil_of_le (by omega)]
      simp
/-- what the printer can print -/
structure Fit (d : Dl.Def) : Prop where
  cols : d.2.1.2.1.length ≤ 400
  checks : d.2.1.2.2.length ≤ 400
  pick : d.2.2.2.2.2.2.2.1.length ≤ 400
  aggs : d.2.2.2.2.2.2.2.2.2.length ≤ 400
  each : ∀ e ∈ d.2.1.2.2, EFit e
  whr : EFit d.2.2.2.2.2.2.1
  names : ∀ c ∈ d.2.1.2.1, c.1.size ≤ 100 ∧ c.2.2.2.2.1.size ≤ 100 ∧ I64 c.2.1
  n1 : d.2.1.1.size ≤ 100
  n2 : d.2.2.1.size ≤ 100
  n3 : d.2.2.2.1.size ≤ 100
  n4 : d.2.2.2.2.1.size ≤ 100
  o1 : I64 d.2.2.2.2.2.1.1
  o2 : I64 d.2.2.2.2.2.1.2
  pk : ∀ n ∈ d.2.2.2.2.2.2.2.1, I64 n
  ag : ∀ a ∈ d.2.2.2.2.2.2.2.2.2, I64 a.2
/-- the loop over what is parted by commas -/
theorem each_loop {α R : Type} (l : List α) (hl : l.length ≤ 400) (f : α → List ByteArray) (hf : ∀ x ∈ l, (f x).length ≤ 8) (base : Nat) (hb : base ≤ 100000000) (fin : List ByteArray → Option R) {body : Int × (List ByteArray) × Unit → Option ((Int × (List ByteArray) × Unit) ⊕ R)}
    (h1 : ∀ (k : Nat) (hk : k < l.length) out, out.length ≤ base + 9 * k → body ((k : Int), out, ()) = some (.inl (((k + 1 : Nat) : Int), out ++ ((if 0 < k then [(⟨#[44]⟩ : ByteArray)] else []) ++ f l[k]), ())))
    (h2 : ∀ out, out.length ≤ base + 9 * l.length → body ((l.length : Int), out, ()) = Option.map Sum.inr (fin out)) :
    ∀ (n k : Nat), n + k = l.length → ∀ out, out.length ≤ base + 9 * k → loopM body ((k : Int), out, ()) = fin (out ++ sepW f (decide (0 < k)) (l.drop k)) := by
  intro n
  induction n with
  | zero =>
    intro k hk out ho
    have : k = l.length := by omega
    subst this
    rw [loopM_q, h2 out ho, List.drop_length]
    simp only [sepW, List.append_nil]
    cases fin out <;> rfl
  | succ n ih =>
    intro k hk out ho
    have hlt : k < l.length := by omega
    rw [loopM_q, h1 k hlt out ho]
    simp only
    have hfl := hf _ (List.getElem_mem hlt)
    have hc : (if 0 < k then [(⟨#[44]⟩ : ByteArray)] else ([] : List ByteArray)).length ≤ 1 := by split <;> simp
    rw [ih (k + 1) (by omega) _ (by simp only [List.length_append]; omega), List.drop_eq_getElem_cons hlt]
    have e1 : decide (0 < k + 1) = true := by simp
    rw [e1]
    simp only [sepW, decide_eq_true_eq, List.append_assoc]
theorem colW_len (c : Col) : (colW c).length ≤ 8 := by
  unfold colW
  simp only [List.length_append, List.length_cons, List.length_nil]
  have h1 : (if c.2.2.1 then [(⟨#[110, 117, 108, 108]⟩ : ByteArray)] else ([] : List ByteArray)).length ≤ 1 := by split <;> simp
  have h2 : (if c.2.2.2.1 then [(⟨#[117, 110, 105, 113, 117, 101]⟩ : ByteArray)] else ([] : List ByteArray)).length ≤ 1 := by split <;> simp
  have h3 : (if c.2.2.2.2.1 = e0 then [] else [(⟨#[114, 101, 102]⟩ : ByteArray), c.2.2.2.2.1, wordW c.2.2.2.2.2 acts]).length ≤ 3 := by split <;> simp
  omega
theorem sepW_len {α : Type} (f : α → List ByteArray) : ∀ (l : List α) (b : Bool), (∀ x ∈ l, (f x).length ≤ 8) → (sepW f b l).length ≤ 9 * l.length := by
  intro l
  induction l with
  | nil => intro b _; simp [sepW]
  | cons x l ih =>
    intro b h
    have h1 := ih true (fun y hy => h y (List.mem_cons_of_mem _ hy))
    have h2 := h x (by simp)
    have h3 : (if b then [(⟨#[44]⟩ : ByteArray)] else ([] : List ByteArray)).length ≤ 1 := by split <;> simp
    simp only [sepW, List.length_append, List.length_cons]
    omega
theorem exprW_len (e : List tNodeT) : (exprW e).length = e.length + 2 := by simp [exprW]
theorem checksW_len : ∀ (l : List (List tNodeT)), (∀ e ∈ l, EFit e) → (l.flatMap checkW).length ≤ 123 * l.length := by
  intro l
  induction l with
  | nil => intro _; simp
  | cons e l ih =>
    intro h
    have h1 := ih (fun y hy => h y (List.mem_cons_of_mem _ hy))
    have h2 := (h e (by simp)).1
    rw [List.flatMap_cons]
    simp only [List.length_append, checkW, List.length_cons, exprW_len]
    omega
theorem ptable_s (n : ByteArray) (c : List Col) (k : List (List tNodeT)) (hc : c.length ≤ 400) (hk : k.length ≤ 400) (he : ∀ e ∈ k, EFit e) : ddl_printer_table.F (n, c, k, [], ()) = some (tableW (n, (c, k)), ()) := by
  rw [ddl_printer_table.eq]
  unfold ddl_printer_table.B
  simp only [add_s [(⟨#[116, 97, 98, 108, 101]⟩ : ByteArray), n, (⟨#[40]⟩ : ByteArray)] [] (by simp), Option.bind_some, List.nil_append]
  refine (each_loop c hc colW (fun c _ => colW_len c) 10 (by decide) (fin := fun out => some (out ++ ([(⟨#[41]⟩ : ByteArray)] ++ k.flatMap checkW), ())) ?_ ?_ c.length 0 (by omega) [(⟨#[116, 97, 98, 108, 101]⟩ : ByteArray), n, (⟨#[40]⟩ : ByteArray)] (by simp)).trans ?_
  · intro i hi out ho
    have d1 : decide ((i : Int) < (c.length : Int)) = true := by simp; omega
    have d0 : decide (0 ≤ (i : Int)) = true := by simp
    have dg : decide ((i : Int) > (0 : Int)) = decide (0 < i) := by simp only [decide_eq_decide]; omega
    simp only [d1, d0, dg, Bool.and_self, cond_true, Int.toNat_natCast, getD_at hi, beq_bytes, addIf_s _ [(⟨#[44]⟩ : ByteArray)] out (by simp; omega), Option.bind_some, word1_s, wrap_s hi (show c.length < 9223372036854775808 by omega)]
    have hcm : ((if decide (0 < i) = true then [(⟨#[44]⟩ : ByteArray)] else ([] : List ByteArray))).length ≤ 1 := by split <;> simp
    rw [add_s _ _ (by simp only [List.length_append, List.length_cons, List.length_nil]; omega)]
    simp only [Option.bind_some]
    rw [addIf_s _ _ _ (by simp only [List.length_append, List.length_cons, List.length_nil]; omega)]
    simp only [Option.bind_some]
    have hn : ((if c[i].2.2.1 = true then [(⟨#[110, 117, 108, 108]⟩ : ByteArray)] else ([] : List ByteArray))).length ≤ 1 := by split <;> simp
    rw [addIf_s _ _ _ (by simp only [List.length_append, List.length_cons, List.length_nil]; omega)]
    simp only [Option.bind_some]
    have hu : ((if c[i].2.2.2.1 = true then [(⟨#[117, 110, 105, 113, 117, 101]⟩ : ByteArray)] else ([] : List ByteArray))).length ≤ 1 := by split <;> simp
    rw [addIf_s _ _ _ (by simp only [List.length_append, List.length_cons, List.length_nil]; omega)]
    simp only [Option.bind_some, colW, decide_eq_true_eq, List.append_assoc, List.cons_append, List.nil_append]
    congr 6
    by_cases hr : c[i].2.2.2.2.1 = e0
    · simp [hr]
    · simp [hr]
  · intro out ho
    have d1 : decide ((c.length : Int) < (c.length : Int)) = false := by simp
    simp only [d1, cond_false, add_s [(⟨#[41]⟩ : ByteArray)] out (by simp; omega), Option.bind_some]
    rw [loop_f (S := Int × (List ByteArray) × Unit) (m := fun x => k.length - x.1.toNat) (I := fun x => ∃ i : Nat, x.1 = (i : Int) ∧ i ≤ k.length ∧ x.2.1.length ≤ 100000 + 123 * i)
      (f := fun x => (x.2.1 ++ (k.drop x.1.toNat).flatMap checkW, ())) ?_ _ ⟨0, rfl, by omega, by simp; omega⟩]
    · simp
    · rintro ⟨x, out', ⟨⟩⟩ ⟨i, hi', hle, hlen⟩
      simp only at hi' hlen
      subst hi'
      simp only [Int.toNat_natCast]
      by_cases hlt : i < k.length
      · left
        have hE := he _ (List.getElem_mem hlt)
        have d1 : decide ((i : Int) < (k.length : Int)) = true := by simp; omega
        have d0 : decide (0 ≤ (i : Int)) = true := by simp
        simp only [d1, d0, Bool.and_self, cond_true, getD_at hlt, add_s [(⟨#[99, 104, 101, 99, 107]⟩ : ByteArray)] out' (by simp; omega), Option.bind_some, pexpr_s _ (out' ++ [(⟨#[99, 104, 101, 99, 107]⟩ : ByteArray)]) hE (by simp; omega), wrap_s hlt (show k.length < 9223372036854775808 by omega)]
        have := hE.1
        refine ⟨_, rfl, ⟨i + 1, rfl, by omega, by simp only [List.length_append, exprW_len, List.length_cons, List.length_nil]; omega⟩, by simp only [Int.toNat_natCast]; omega, ?_⟩
        simp only [Int.toNat_natCast]
        rw [List.drop_eq_getElem_cons hlt, List.flatMap_cons]
        simp [checkW]
      · right
        have d1 : decide ((i : Int) < (k.length : Int)) = false := by simp; omega
        simp only [d1, cond_false]
        rw [List.drop_eq_nil_of_le (by omega)]
        simp
  · simp [tableW]
end Go.Proofs.Ytnogebfcpicghaa
