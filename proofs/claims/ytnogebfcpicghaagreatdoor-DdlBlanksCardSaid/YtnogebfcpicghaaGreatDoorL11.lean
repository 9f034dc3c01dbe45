import Derived.Test.YtnogebfcpicghaaGreatDoorL10
set_option linter.all false
set_option linter.unusedVariables false
set_option linter.unusedSimpArgs false
set_option linter.unusedSectionVars false
namespace Go.Proofs.Ytnogebfcpicghaa
open Go Lv Go.Proofs Go.RowKit Go.Shelf Dl
theorem readS_of_lex {a b : List UInt8} (ha : a.length ≤ 20000) (hb : b.length ≤ 20000) (h : lexS a = lexS b) : readS a = readS b := by
  unfold readS
  rw [if_neg (by omega), if_neg (by omega), h]
theorem lex_ahead (l : List UInt8) (hq : (39 : UInt8) ∉ l) : lexS (32 :: l ++ [32]) = lexS l := by
  rw [List.cons_append, lexS_blank, lexS_parts l.length l [] (Nat.le_refl _) hq]
  cases lexS l with
  | none => rfl
  | some x => simp [lexS_nil]
theorem lex_inside (a b : List UInt8) (hq : (39 : UInt8) ∉ a) : lexS (a ++ 32 :: 32 :: 32 :: b) = lexS (a ++ 32 :: b) := by
  rw [lexS_parts a.length a _ (Nat.le_refl _) hq, lexS_parts a.length a b (Nat.le_refl _) hq, lexS_blank, lexS_blank]
theorem blanks_law (s : ByteArray) (p : Int) : L07_DdlBlanks.F (s, p, ()) = some (true, ()) := by
  rw [L07_DdlBlanks.eq]
  unfold L07_DdlBlanks.B
  simp only [fixed_s, Option.bind_some, Bool.not_true, cond_false]
  by_cases hb : 2000 < s.size
  · have : decide ((s.size : Int) > (2000 : Int)) = true := by simp; omega
    simp only [this, cond_true, Option.bind_some]
  · have : decide ((s.size : Int) > (2000 : Int)) = false := by simp; omega
    simp only [this, cond_false, Option.bind_some]
    rw [loop_f (S := Int × Unit) (m := fun x => s.size - x.1.toNat) (I := fun x => ∃ k : Nat, x.1 = (k : Int) ∧ k ≤ s.size) (f := fun x => bif (lst s x.1.toNat).any (fun c => decide (c = 39)) then .inr (true, ()) else .inl ()) ?_ _ ⟨0, rfl, by omega⟩]
    · have e0 : lst s (0 : Int).toNat = s.data.toList := rfl
      rw [e0]
      cases hq : s.data.toList.any (fun c => decide (c = 39)) with
      | true => rfl
      | false =>
        have hq' : (39 : UInt8) ∉ s.data.toList := by
          intro hm
          rw [List.any_eq_false] at hq
          exact hq 39 hm (by decide)
        clear hq e0
        rename (39 : UInt8) ∉ s.data.toList => hq
        simp only [cond_false, Option.bind_some]
        have hs : s = bs s.data.toList := (bs_data s).symm
        have hsz : s.size = s.data.toList.length := rfl
        generalize hl : s.data.toList = l at hs hsz hq
        subst hs
        rw [bs_size] at hb hsz
        rw [bs_list] at hl
        clear hl
        have hmax : IntKind.i64.max = 9223372036854775807 := by decide
        have g1 : (!decide ((((⟨#[32]⟩ : ByteArray).size + (bs l).size : Nat) : Int) > IntKind.i64.max)) = true := by rw [bs_size, bs_size, hmax]; simp; omega
        have g2 : (!decide (((((⟨#[32]⟩ : ByteArray) ++ bs l).size + (⟨#[32]⟩ : ByteArray).size : Nat) : Int) > IntKind.i64.max)) = true := by rw [bs_app, bs_size, bs_size, hmax]; simp; omega
        have g3 : ((⟨#[32]⟩ : ByteArray) ++ bs l) ++ (⟨#[32]⟩ : ByteArray) = bs (32 :: l ++ [32]) := by rw [bs_app, bs_app]; rfl
        simp only [g1, g2, g3, cond_true]
        have fin : ∀ t : List UInt8, t.length ≤ 20000 → lexS t = lexS l → (Option.bind (ddl_Parse.F (bs l, ())) fun y17 => Option.bind (ddl_Parse.F (bs t, ())) fun y18 =>
            (bif (y17.2.2.2.2.2.2.2.2.1 == y18.2.2.2.2.2.2.2.2.1) then
            Option.bind (R07_Same.F (y17.1, y17.2.1, y17.2.2.2.2.2.2.2.2.2.1, y17.2.2.2.2.2.2.2.2.2.2.1, y17.2.2.1, y17.2.2.2.1, y17.2.2.2.2.1, y17.2.2.2.2.2.1, y17.2.2.2.2.2.2.1, y17.2.2.2.2.2.2.2.2.2.2.2.1, y17.2.2.2.2.2.2.2.2.2.2.2.2.1, y17.2.2.2.2.2.2.2.1, y17.2.2.2.2.2.2.2.2.2.2.2.2.2.1, y18.1, y18.2.1, y18.2.2.2.2.2.2.2.2.2.1, y18.2.2.2.2.2.2.2.2.2.2.1, y18.2.2.1, y18.2.2.2.1, y18.2.2.2.2.1, y18.2.2.2.2.2.1, y18.2.2.2.2.2.2.1, y18.2.2.2.2.2.2.2.2.2.2.2.1, y18.2.2.2.2.2.2.2.2.2.2.2.2.1, y18.2.2.2.2.2.2.2.1, y18.2.2.2.2.2.2.2.2.2.2.2.2.2.1, ())) fun y19 =>
            some (y19.1, ())
            else some (false, ()) : Option (Bool × Unit))) = some (true, ()) := by
          intro t ht hlex
          have hr : readS t = readS l := readS_of_lex ht (by omega) hlex
          simp only [Parse_s, bs_list, hr, Option.bind_some]
          have hS := rSame_flat (readS l).1 (readS l).1 (readS_ln l)
          rw [sameB_refl] at hS
          have he : ((flatP (readS l)).2.2.2.2.2.2.2.2.1 == (flatP (readS l)).2.2.2.2.2.2.2.2.1) = true := by simp
          rw [he]
          exact (bind_is _ hS).trans rfl
        have hdef : lexS (32 :: l ++ [32]) = lexS l := lex_ahead l hq
        have hdl : (32 :: l ++ [32]).length ≤ 20000 := by simp; omega
        by_cases h1 : p ≥ 0
        case neg =>
          rw [decide_eq_false h1]
          exact fin _ hdl hdef
        rw [decide_eq_true h1]
        by_cases h2 : p < ((bs l).size : Int)
        case neg =>
          rw [decide_eq_false h2]
          exact fin _ hdl hdef
        rw [decide_eq_true h2]
        obtain ⟨k, rfl⟩ : ∃ k : Nat, p = (k : Int) := ⟨p.toNat, by omega⟩
        rw [bs_size] at h2
        obtain ⟨c, r, e⟩ := lst_at (s := bs l) (i := k) (by rw [bs_size]; omega)
        obtain ⟨_, e1, e2⟩ := lst_cons e
        simp only [cond_true, Bool.and_self, Int.toNat_natCast, e2, Option.bind_some]
        have u : ((c.toNat : Int) == (32 : Int)) = decide (c = 32) := u8_eq c 32 (by decide)
        rw [u]
        by_cases hc : c = 32
        case neg =>
          rw [decide_eq_false hc]
          exact fin _ hdl hdef
        subst hc
        rw [decide_eq_true rfl]
        have e : l.drop k = 32 :: r := e
        have hsplit : l = l.take k ++ 32 :: r := by rw [← e]; exact (List.take_append_drop k l).symm
        have x1 : (bs l).extract (Int.toNat 0) k = bs (l.take k) := by rw [show Int.toNat 0 = 0 from rfl, ext_bs _ 0 k (by omega)]; simp [lst]
        have x2 : (bs l).extract k (bs l).size = bs (32 :: r) := by
          rw [ext_bs _ k _ (by rw [bs_size]; omega), bs_size]
          show bs ((l.drop k).take (l.length - k)) = _
          rw [← List.length_drop, List.take_length, e]
        have d1 : (decide (0 ≤ (0 : Int)) && (decide ((0 : Int) ≤ (k : Int)) && decide ((k : Int) ≤ ((bs l).size : Int)))) = true := by rw [bs_size]; simp; omega
        have d2 : (decide ((k : Int) ≤ ((bs l).size : Int)) && decide (((bs l).size : Int) ≤ ((bs l).size : Int))) = true := by rw [bs_size]; simp; omega
        have d3 : decide (0 ≤ (0 : Int)) = true := by decide
        have d4 : decide ((k : Int) ≤ ((bs l).size : Int)) = true := by rw [bs_size, decide_eq_true_eq]; omega
        have d5 : decide (((bs l).size : Int) ≤ ((bs l).size : Int)) = true := by simp
        have htl : (l.take k).length ≤ l.length := by simp; omega
        have hrl : (32 :: r).length ≤ l.length := by rw [← e]; simp
        have g4 : (!decide (((((bs (l.take k)).size + (⟨#[32, 32]⟩ : ByteArray).size : Nat)) : Int) > IntKind.i64.max)) = true := by
          rw [bs_size, bs_size, hmax, Bool.not_eq_true', decide_eq_false_iff_not]; simp only [List.length_cons, List.length_nil]; omega
        have g5 : (!decide ((((bs (l.take k) ++ (⟨#[32, 32]⟩ : ByteArray)).size + (bs (32 :: r)).size : Nat) : Int) > IntKind.i64.max)) = true := by
          rw [bs_app, bs_size, bs_size, hmax, Bool.not_eq_true', decide_eq_false_iff_not]; simp only [List.length_append, List.length_cons, List.length_nil] at hrl ⊢; omega
        have g6 : bs (l.take k) ++ (⟨#[32, 32]⟩ : ByteArray) ++ bs (32 :: r) = bs (l.take k ++ 32 :: 32 :: 32 :: r) := by rw [bs_app, bs_app]; simp
        simp only [cond_true, d3, d4, d5, x1, x2, g4, g5, g6, Bool.and_self, Bool.true_and, Option.bind_some]
        refine fin _ ?_ ?_
        · simp only [List.length_append, List.length_cons] at hrl ⊢; omega
        · rw [lex_inside _ _ (fun hm => hq (List.mem_of_mem_take hm))]
          rw [← hsplit]
    · rintro ⟨x, ⟨⟩⟩ ⟨k, hk, hle⟩
      simp only at hk
      subst hk
      simp only [Int.toNat_natCast]
      by_cases hlt : k < s.size
      · obtain ⟨c, r, e⟩ := lst_at hlt
        obtain ⟨_, e1, e2⟩ := lst_cons e
        have d1 : decide ((k : Int) < (s.size : Int)) = true := by simp; omega
        have d0 : decide (0 ≤ (k : Int)) = true := by simp
        have u : ((c.toNat : Int) == (39 : Int)) = decide (c = 39) := u8_eq c 39 (by decide)
        simp only [d1, d0, Bool.and_self, cond_true, e2, u, wrap_s hlt (show s.size < 9223372036854775808 by omega)]
        rw [e, List.any_cons]
        cases decide (c = 39) with
        | true => right; rfl
        | false =>
          left
          simp only [cond_false, Bool.false_or]
          refine ⟨_, rfl, ⟨k + 1, rfl, by omega⟩, by simp only [Int.toNat_natCast]; omega, ?_⟩
          simp only [Int.toNat_natCast, e1]
      · right
        have d1 : decide ((k : Int) < (s.size : Int)) = false := by simp; omega
        have : lst s k = [] := by
          have := lst_len s k
          exact List.length_eq_zero_iff.1 (by omega)
        simp only [d1, cond_false, this, List.any_nil]
end Go.Proofs.Ytnogebfcpicghaa
