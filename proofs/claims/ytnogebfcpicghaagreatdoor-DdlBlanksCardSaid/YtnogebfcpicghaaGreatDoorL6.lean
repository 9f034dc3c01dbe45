import Derived.Test.YtnogebfcpicghaaGreatDoorL5
set_option linter.all false
set_option linter.unusedVariables false
set_option linter.unusedSimpArgs false
set_option linter.unusedSectionVars false
namespace Go.Proofs.Ytnogebfcpicghaa
open Go Lv Go.Proofs Go.RowKit Go.Shelf Dl
theorem rLetter_s (c : UInt8) : R06_Letter.F ((c.toNat : Int), ()) = some (letter c, ()) := by
  rw [R06_Letter.eq]
  unfold R06_Letter.B letter
  have i1 : ((c.toNat : Int) ≥ (97 : Int)) ↔ 97 ≤ c.toNat := by omega
  have i2 : ((c.toNat : Int) ≤ (122 : Int)) ↔ c.toNat ≤ 122 := by omega
  simp only [i1, i2]
  cases decide (97 ≤ c.toNat) <;> rfl
theorem rDigit_s (c : UInt8) : R06_Digit.F ((c.toNat : Int), ()) = some (digit c, ()) := by
  rw [R06_Digit.eq]
  unfold R06_Digit.B digit
  have i1 : ((c.toNat : Int) ≥ (48 : Int)) ↔ 48 ≤ c.toNat := by omega
  have i2 : ((c.toNat : Int) ≤ (57 : Int)) ↔ c.toNat ≤ 57 := by omega
  simp only [i1, i2]
  cases decide (48 ≤ c.toNat) <;> rfl
theorem rInner_s (c : UInt8) : R06_Inner.F ((c.toNat : Int), ()) = some (inner c, ()) := by
  rw [R06_Inner.eq]
  unfold R06_Inner.B inner
  simp only [rLetter_s, rDigit_s, Option.bind_some]
  have e1 : ((c.toNat : Int) == (95 : Int)) = decide (c = 95) := u8_eq c 95 (by decide)
  rw [e1]
  cases letter c <;> cases digit c <;> rfl
theorem rWord_s (b : ByteArray) (hb : b.size < 1000000000000000000) : R06_Word.F (b, ()) = some (isWord b, ()) := by
  rw [R06_Word.eq]
  unfold R06_Word.B
  simp only []
  rw [loop_f (S := Int × Unit) (m := fun x => b.size - x.1.toNat) (I := fun x => ∃ k : Nat, x.1 = (k : Int) ∧ k ≤ b.size) (f := fun x => bif (lst b x.1.toNat).all inner then .inl () else .inr (false, ())) ?_ _ ⟨0, rfl, by omega⟩]
  · have e0 : lst b (0 : Int).toNat = b.data.toList := rfl
    rw [e0]
    unfold isWord
    cases hl : b.data.toList with
    | nil =>
      have hz : b.size = 0 := by show b.data.toList.length = 0; rw [hl]; rfl
      simp only [List.all_nil, cond_true, Option.bind_some, hz, isWordL]
      rfl
    | cons c l =>
      have hz : b.size = (c :: l).length := by show b.data.toList.length = _; rw [hl]
      have hst : lst b 0 = c :: l := hl
      have e3 : byteAt b 0 = (c.toNat : Int) := (lst_cons hst).2.2
      simp only [isWordL]
      cases ha : (c :: l).all inner with
      | false => simp
      | true =>
        have d1 : decide ((b.size : Int) ≥ (1 : Int)) = true := by rw [decide_eq_true_eq, hz]; simp only [List.length_cons]; omega
        have d2 : (decide (0 ≤ (0 : Int)) && decide ((0 : Int) < (b.size : Int))) = true := by rw [hz]; simp only [Bool.and_eq_true, decide_eq_true_eq, List.length_cons]; omega
        have d3 : decide ((b.size : Int) ≤ (30 : Int)) = decide ((c :: l).length ≤ 30) := by rw [hz]; simp only [decide_eq_decide]; omega
        simp only [cond_true, Option.bind_some, d1, d2, d3, e3, rLetter_s]
        cases decide ((c :: l).length ≤ 30) <;> simp
  · rintro ⟨x, ⟨⟩⟩ ⟨k, hk, hle⟩
    simp only at hk
    subst hk
    simp only [Int.toNat_natCast]
    by_cases hlt : k < b.size
    · obtain ⟨c, r, e⟩ := lst_at hlt
      obtain ⟨_, e1, e2⟩ := lst_cons e
      have d1 : decide ((k : Int) < (b.size : Int)) = true := by simp; omega
      have d0 : decide (0 ≤ (k : Int)) = true := by simp
      simp only [d1, d0, Bool.and_self, cond_true, e2, rInner_s, Option.bind_some]
      rw [e, List.all_cons]
      cases hc : inner c with
      | true =>
        left
        simp only [Bool.not_true, cond_false, wrap_s hlt (show b.size < 9223372036854775808 by omega)]
        refine ⟨_, rfl, ⟨k + 1, rfl, by omega⟩, by simp only [Int.toNat_natCast]; omega, ?_⟩
        simp only [Int.toNat_natCast, e1, Bool.true_and]
      | false =>
        right
        rfl
    · right
      have d1 : decide ((k : Int) < (b.size : Int)) = false := by simp; omega
      have : lst b k = [] := by
        have := lst_len b k
        exact List.length_eq_zero_iff.1 (by omega)
      simp only [d1, cond_false, this, List.all_nil, cond_true]
theorem kw_loop (K : List ByteArray) (hK : K.length < 1000) (b : ByteArray) : loopM (S := Int × Unit) (R := Bool × Unit) (fun (x4, _) =>
  (bif (decide (x4 < (K.length : Int))) then
  bif (decide (0 ≤ x4) && decide (x4 < (K.length : Int))) then
  let e1 : ByteArray := (List.getD K (Int.toNat x4) (⟨#[]⟩ : ByteArray))
  (bif (e1.toList == b.toList) then
  some (.inr (true, ()))
  else
  let e2 : Int := (IntKind.i64.wrap (x4 + (1 : Int)))
  some (.inl (e2, ())))
  else none
  else
  some (.inr (false, ())))) ((0 : Int), ()) = some (K.any fun k => decide (k = b), ()) := by
  rw [loop_f (S := Int × Unit) (R := Bool × Unit) (m := fun x => K.length - x.1.toNat) (I := fun x => ∃ k : Nat, x.1 = (k : Int) ∧ k ≤ K.length) (f := fun x => ((K.drop x.1.toNat).any fun k => decide (k = b), ())) ?_ _ ⟨0, rfl, by omega⟩]
  · simp
  · rintro ⟨x, ⟨⟩⟩ ⟨k, hk, hle⟩
    simp only at hk
    subst hk
    simp only [Int.toNat_natCast]
    by_cases hlt : k < K.length
    · have d1 : decide ((k : Int) < (K.length : Int)) = true := by simp; omega
      have d0 : decide (0 ≤ (k : Int)) = true := by simp
      simp only [d1, d0, Bool.and_self, cond_true, Int.toNat_natCast, getD_at hlt, beq_bytes, wrap_s hlt (show K.length < 9223372036854775808 by omega)]
      rw [List.drop_eq_getElem_cons hlt, List.any_cons]
      by_cases he : K[k] = b
      · right
        simp only [he, decide_true, cond_true, Bool.true_or]
      · left
        simp only [he, decide_false, cond_false, Bool.false_or]
        exact ⟨_, rfl, ⟨k + 1, rfl, by omega⟩, by simp only [Int.toNat_natCast]; omega, rfl⟩
    · right
      have d1 : decide ((k : Int) < (K.length : Int)) = false := by simp; omega
      simp only [d1, cond_false]
      rw [List.drop_eq_nil_of_le (by omega)]
      rfl
theorem rKeyword_s (b : ByteArray) : R07_Keyword.F (b, ()) = some (keywords.any fun k => decide (k = b), ()) := by
  rw [R07_Keyword.eq]
  exact kw_loop keywords (by decide) b
theorem rName_s (b : ByteArray) (hb : b.size < 1000000000000000000) : R07_Name.F (b, ()) = some (isName b, ()) := by
  rw [R07_Name.eq]
  unfold R07_Name.B isName
  simp only [rWord_s b hb, rKeyword_s, Option.bind_some]
  cases isWord b <;> rfl
def big3 (e : List tNodeT) : Bool := e.any (fun x => decide (1000 < x.2.2.2.2.size)) || decide (120 < e.length)
theorem rBig3_s (e : List tNodeT) (he : Ln e) : R03_Big.F (e, ()) = some (big3 e, ()) := by
  rw [R03_Big.eq]
  unfold R03_Big.B
  simp only []
  rw [loop_f (S := Int × Unit) (m := fun x => e.length - x.1.toNat) (I := fun x => ∃ k : Nat, x.1 = (k : Int) ∧ k ≤ e.length) (f := fun x => bif (e.drop x.1.toNat).any (fun x => decide (1000 < x.2.2.2.2.size)) then .inr (true, ()) else .inl ()) ?_ _ ⟨0, rfl, by omega⟩]
  · have : decide ((e.length : Int) > (120 : Int)) = decide (120 < e.length) := by simp only [decide_eq_decide]; omega
    simp only [this, Int.toNat_zero, List.drop_zero, big3, Option.bind_some]
    cases e.any (fun x => decide (1000 < x.2.2.2.2.size)) <;> rfl
  · rintro ⟨x, ⟨⟩⟩ ⟨k, hk, hle⟩
    simp only at hk
    subst hk
    simp only [Int.toNat_natCast]
    by_cases hlt : k < e.length
    · have d1 : decide ((k : Int) < (e.length : Int)) = true := by simp; omega
      have d0 : decide (0 ≤ (k : Int)) = true := by simp
      have d2 : decide ((e[k].2.2.2.2.size : Int) > (1000 : Int)) = decide (1000 < e[k].2.2.2.2.size) := by simp only [decide_eq_decide]; omega
      simp only [d1, d0, Bool.and_self, cond_true, getD_at hlt, d2, wrap_s hlt (show e.length < 9223372036854775808 by omega)]
      rw [List.drop_eq_getElem_cons hlt, List.any_cons]
      cases decide (1000 < e[k].2.2.2.2.size) with
      | true => right; rfl
      | false =>
        left
        simp only [cond_false, Bool.false_or]
        exact ⟨_, rfl, ⟨k + 1, rfl, by omega⟩, by simp only [Int.toNat_natCast]; omega, rfl⟩
    · right
      have d1 : decide ((k : Int) < (e.length : Int)) = false := by simp; omega
      simp only [d1, cond_false]
      rw [List.drop_eq_nil_of_le (by omega)]
      rfl
/-- what is not too big -/
structure Sm (d : Dl.Def) : Prop where
  cols : d.2.1.2.1.length ≤ 400
  checks : d.2.1.2.2.length ≤ 400
  each : ∀ e ∈ d.2.1.2.2, big3 e = false
  whr : big3 d.2.2.2.2.2.2.1 = false
  pick : d.2.2.2.2.2.2.2.1.length ≤ 400
  aggs : d.2.2.2.2.2.2.2.2.2.length ≤ 400
  names : ∀ c ∈ d.2.1.2.1, c.1.size ≤ 100 ∧ c.2.2.2.2.1.size ≤ 100
  n1 : d.2.1.1.size ≤ 100
  n2 : d.2.2.1.size ≤ 100
  n3 : d.2.2.2.1.size ≤ 100
  n4 : d.2.2.2.2.1.size ≤ 100
theorem big_s (a1 : Int) (a2 : ByteArray) (a3 : List Col) (a4 : List (List tNodeT)) (a5 a6 a7 : ByteArray) (a8 a8' : Int) (a9 : List tNodeT) (a10 : List Int) (a11 : Bool) (a12 : List Agg)
    (h : DLn (a1, ((a2, (a3, a4)), (a5, (a6, (a7, ((a8, a8'), (a9, (a10, (a11, a12)))))))))) :
    ∃ b, R07_Big.F (a1, a2, a3, a4, a5, a6, a7, a8, a8', a9, a10, a11, a12, ()) = some (b, ()) ∧ (b = false → Sm (a1, ((a2, (a3, a4)), (a5, (a6, (a7, ((a8, a8'), (a9, (a10, (a11, a12)))))))))) := by
  have l1 : a3.length < 1000000000000000 := h.cols
  have l2 : a4.length < 1000000000000000 := h.checks
  have l3 : a9.length < 1000000000000000 := h.whr
  have l4 : a10.length < 1000000000000000 := h.pick
  have l5 : a12.length < 1000000000000000 := h.aggs
  rw [R07_Big.eq]
  unfold R07_Big.B
  simp only []
  have e1 : IntKind.i64.wrap ((a3.length : Int) + (a4.length : Int)) = ((a3.length + a4.length : Nat) : Int) := by rw [i64_wrap] <;> omega
  have e2 : IntKind.i64.wrap (((a3.length + a4.length : Nat) : Int) + (a10.length : Int)) = ((a3.length + a4.length + a10.length : Nat) : Int) := by rw [i64_wrap] <;> omega
  have e3 : IntKind.i64.wrap (((a3.length + a4.length + a10.length : Nat) : Int) + (a12.length : Int)) = ((a3.length + a4.length + a10.length + a12.length : Nat) : Int) := by rw [i64_wrap] <;> omega
  have e4 : IntKind.i64.wrap (((a3.length + a4.length + a10.length + a12.length : Nat) : Int) + (a9.length : Int)) = ((a3.length + a4.length + a10.length + a12.length + a9.length : Nat) : Int) := by rw [i64_wrap] <;> omega
  simp only [e1, e2, e3, e4]
  rw [loop_f (S := Int × Int × Unit) (m := fun x => a4.length - x.2.1.toNat) (I := fun x => ∃ k n : Nat, x.2.1 = (k : Int) ∧ x.1 = (n : Int) ∧ k ≤ a4.length ∧ n ≤ 5000000000000000 + 120 * k)
    (f := fun x => bif (a4.drop x.2.1.toNat).any big3 then .inr (true, ()) else .inl (x.1 + (((a4.drop x.2.1.toNat).map List.length).sum : Nat), ())) ?_ _ ⟨0, _, rfl, rfl, by omega, by omega⟩]
  · simp only [Int.toNat_zero, List.drop_zero, Option.bind_some]
    cases hb : a4.any big3 with
    | true => exact ⟨true, rfl, fun e => by cases e⟩
    | false =>
      simp only [cond_false]
      rw [loop_f (S := Int × Unit) (m := fun x => a3.length - x.1.toNat) (I := fun x => ∃ k : Nat, x.1 = (k : Int) ∧ k ≤ a3.length)
        (f := fun x => bif (a3.drop x.1.toNat).any (fun c => decide (100 < c.1.size) || decide (100 < c.2.2.2.2.1.size)) then .inr (true, ()) else .inl ()) ?_ _ ⟨0, rfl, by omega⟩]
      · simp only [Int.toNat_zero, List.drop_zero, Option.bind_some]
        cases hc : a3.any (fun c => decide (100 < c.1.size) || decide (100 < c.2.2.2.2.1.size)) with
        | true => exact ⟨true, rfl, fun e => by cases e⟩
        | false =>
          simp only [cond_false, rBig3_s a9 h.whr, Option.bind_some]
          generalize hm : ((a4.map List.length).sum : Nat) = m
          have hz : ∀ b : ByteArray, decide ((b.size : Int) > (100 : Int)) = decide (100 < b.size) := fun b => by simp only [decide_eq_decide]; omega
          simp only [hz]
          by_cases hn : (((a3.length + a4.length + a10.length + a12.length + a9.length : Nat) : Int) + (m : Int) > (400 : Int))
          · rw [decide_eq_true hn]; exact ⟨true, rfl, fun e => by cases e⟩
          · rw [decide_eq_false hn]
            cases hw : big3 a9 with
            | true => exact ⟨true, rfl, fun e => by cases e⟩
            | false =>
              by_cases s1 : 100 < a2.size
              · rw [decide_eq_true s1]; exact ⟨true, rfl, fun e => by cases e⟩
              by_cases s2 : 100 < a5.size
              · rw [decide_eq_false s1, decide_eq_true s2]; exact ⟨true, rfl, fun e => by cases e⟩
              by_cases s3 : 100 < a6.size
              · rw [decide_eq_false s1, decide_eq_false s2, decide_eq_true s3]; exact ⟨true, rfl, fun e => by cases e⟩
              rw [decide_eq_false s1, decide_eq_false s2, decide_eq_false s3]
              refine ⟨_, rfl, fun e => ?_⟩
              rw [decide_eq_false_iff_not] at e
              rw [List.any_eq_false] at hb hc
              exact ⟨show a3.length ≤ 400 by omega, show a4.length ≤ 400 by omega, fun e he => by simpa using hb e he, hw, show a10.length ≤ 400 by omega, show a12.length ≤ 400 by omega,
                fun c hcm => by have := hc c hcm; simp only [Bool.or_eq_true, decide_eq_true_eq] at this; omega, show a2.size ≤ 100 by omega, show a5.size ≤ 100 by omega, show a6.size ≤ 100 by omega, show a7.size ≤ 100 by omega⟩
      · rintro ⟨x, ⟨⟩⟩ ⟨k, hk, hle⟩
        simp only at hk
        subst hk
        simp only [Int.toNat_natCast]
        by_cases hlt : k < a3.length
        · have d1 : decide ((k : Int) < (a3.length : Int)) = true := by simp; omega
          have d0 : decide (0 ≤ (k : Int)) = true := by simp
          have hz : ∀ b : ByteArray, decide ((b.size : Int) > (100 : Int)) = decide (100 < b.size) := fun b => by simp only [decide_eq_decide]; omega
          simp only [d1, d0, Bool.and_self, cond_true, getD_at hlt, hz, wrap_s hlt (show a3.length < 9223372036854775808 by omega)]
          rw [List.drop_eq_getElem_cons hlt, List.any_cons]
          cases decide (100 < a3[k].1.size) with
          | true => right; rfl
          | false =>
            cases decide (100 < a3[k].2.2.2.2.1.size) with
            | true => right; rfl
            | false =>
              left
              simp only [cond_false, Bool.false_or]
              exact ⟨_, rfl, ⟨k + 1, rfl, by omega⟩, by simp only [Int.toNat_natCast]; omega, rfl⟩
        · right
          have d1 : decide ((k : Int) < (a3.length : Int)) = false := by simp; omega
          simp only [d1, cond_false]
          rw [List.drop_eq_nil_of_le (by omega)]
          rfl
  · rintro ⟨n', x, ⟨⟩⟩ ⟨k, n, hk, hn, hle, hb⟩
    simp only at hk hn
    subst hk
    subst hn
    simp only [Int.toNat_natCast]
    by_cases hlt : k < a4.length
    · have d1 : decide ((k : Int) < (a4.length : Int)) = true := by simp; omega
      have d0 : decide (0 ≤ (k : Int)) = true := by simp
      have hL : a4[k].length < 1000000000000000 := h.each _ (List.getElem_mem hlt)
      have ew : IntKind.i64.wrap ((n : Int) + (a4[k].length : Int)) = ((n + a4[k].length : Nat) : Int) := by rw [i64_wrap] <;> omega
      simp only [d1, d0, Bool.and_self, cond_true, getD_at hlt, rBig3_s _ hL, Option.bind_some, ew, wrap_s hlt (show a4.length < 9223372036854775808 by omega)]
      rw [List.drop_eq_getElem_cons hlt, List.any_cons]
      cases hg : big3 a4[k] with
      | true => right; rfl
      | false =>
        left
        have h120 : a4[k].length ≤ 120 := by
          simp only [big3, Bool.or_eq_false_iff, decide_eq_false_iff_not] at hg
          omega
        simp only [cond_false, Bool.false_or]
        refine ⟨_, rfl, ⟨k + 1, _, rfl, rfl, by omega, by omega⟩, by simp only [Int.toNat_natCast]; omega, ?_⟩
        simp only [Int.toNat_natCast, List.map_cons, List.sum_cons]
        have : ((n + a4[k].length : Nat) : Int) + ((((a4.drop (k + 1)).map List.length).sum : Nat) : Int) = (n : Int) + ((a4[k].length + ((a4.drop (k + 1)).map List.length).sum : Nat) : Int) := by omega
        rw [this]
    · right
      have d1 : decide ((k : Int) < (a4.length : Int)) = false := by simp; omega
      simp only [d1, cond_false]
      rw [List.drop_eq_nil_of_le (by omega)]
      simp
end Go.Proofs.Ytnogebfcpicghaa
