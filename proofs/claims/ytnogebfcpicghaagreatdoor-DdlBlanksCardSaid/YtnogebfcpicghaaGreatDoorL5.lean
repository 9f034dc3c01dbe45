import Derived.Test.YtnogebfcpicghaaGreatDoorL4
set_option linter.all false
set_option linter.unusedVariables false
set_option linter.unusedSimpArgs false
set_option linter.unusedSectionVars false
namespace Go.Proofs.Ytnogebfcpicghaa
open Go Lv Go.Proofs Go.RowKit Go.Shelf Dl
/-! ## Equal lists -/
def eqF {α R : Type} [DecidableEq α] (tt ff : R) (x y : List α) : R := if x = y then tt else ff
theorem eq_loop {α R : Type} [DecidableEq α] (a b : List α) (hl : a.length = b.length) (ha : a.length < 4611686018427387904) {body : Int × Unit → Option ((Int × Unit) ⊕ R)} (tt ff : R)
    (h1 : ∀ (i : Nat) (hi : i < a.length), body ((i : Int), ()) = some (if a[i] = b[i]'(by omega) then .inl (((i + 1 : Nat) : Int), ()) else .inr ff))
    (h2 : body ((a.length : Int), ()) = some (.inr tt)) : loopM body ((0 : Int), ()) = some (if a = b then tt else ff) := by
  rw [loop_f (m := fun x => a.length - x.1.toNat) (I := fun x => ∃ k : Nat, x.1 = (k : Int) ∧ k ≤ a.length) (f := fun x => eqF tt ff (a.drop x.1.toNat) (b.drop x.1.toNat)) ?_ _ ⟨0, rfl, by omega⟩]
  · simp [eqF]
  · rintro ⟨x, ⟨⟩⟩ ⟨k, hk, hle⟩
    simp only at hk
    subst hk
    simp only [Int.toNat_natCast]
    by_cases hlt : k < a.length
    · rw [h1 k hlt, List.drop_eq_getElem_cons hlt, List.drop_eq_getElem_cons (show k < b.length by omega)]
      by_cases he : a[k] = b[k]'(by omega)
      · left
        rw [if_pos he]
        refine ⟨_, rfl, ⟨k + 1, rfl, by omega⟩, by simp only [Int.toNat_natCast]; omega, ?_⟩
        simp only [Int.toNat_natCast, eqF, List.cons.injEq, he, true_and]
      · right
        rw [if_neg he]; unfold eqF; rw [if_neg (fun e => he (List.cons.inj e).1)]
    · right
      have : k = a.length := by omega
      subst this
      rw [h2, List.drop_length, List.drop_eq_nil_of_le (by omega)]; unfold eqF; rw [if_pos rfl]
theorem len_ne {α : Type} (a b : List α) : ((a.length : Int) != (b.length : Int)) = !decide (a.length = b.length) := by
  by_cases h : a.length = b.length
  · simp [h]
  · have : ¬ (a.length : Int) = (b.length : Int) := by omega
    simp [h, this, bne]
theorem ty_eq (t : Ty) (ht : t.plain = true) [DecidableEq t.T] (x y : t.T) : t.eq x y = decide (x = y) := by
  have := Ty.eq_dec t ht x y
  by_cases h : x = y
  · rw [this.2 h]; simp [h]
  · have h2 : ¬ t.eq x y = true := fun e => h (this.1 e)
    simp [h, h2]
theorem node_eq (x y : tNodeT) : Ty.eq tNode x y = decide (x = y) := @ty_eq tNode rfl (inferInstanceAs (DecidableEq tNodeT)) x y
theorem column_eq (x y : Col) : Ty.eq tColumn x y = decide (x = y) := @ty_eq tColumn rfl (inferInstanceAs (DecidableEq Col)) x y
theorem agg_eq (x y : Agg) : Ty.eq tAgg x y = decide (x = y) := @ty_eq tAgg rfl (inferInstanceAs (DecidableEq Agg)) x y
theorem i_ne (a b : Int) : (a != b) = !decide (a = b) := by by_cases h : a = b <;> simp [h]
abbrev Ln {α : Type} (l : List α) : Prop := l.length < 1000000000000000
theorem dec_ne {α : Type} [DecidableEq α] {a b : List α} (h : ¬ a.length = b.length) : decide (a = b) = false := by
  rw [decide_eq_false_iff_not]; exact fun e => h (by rw [e])
theorem ite_dec {p : Prop} [Decidable p] : (if p then ((true : Bool), ()) else (false, ())) = (decide p, ()) := by by_cases h : p <;> simp [h]
theorem eqNode_s (a b : List tNodeT) (ha : Ln a) : slices_Equal_api_Expr_api_Node.F (a, b, ()) = some (decide (a = b), ()) := by
  rw [slices_Equal_api_Expr_api_Node.eq]
  unfold slices_Equal_api_Expr_api_Node.B
  simp only [len_ne]
  by_cases hl : a.length = b.length
  · simp only [hl, decide_true, Bool.not_true, cond_false]
    rw [eq_loop a b hl (by omega) (true, ()) (false, ()) ?_ ?_, ite_dec]
    · intro i hi
      have d1 : decide ((i : Int) < (b.length : Int)) = true := by simp; omega
      have d0 : decide (0 ≤ (i : Int)) = true := by simp
      simp only [d1, d0, Bool.and_self, cond_true, Int.toNat_natCast, getD_at hi, getD_at (show i < b.length by omega), node_eq, wrap_s hi (show a.length < 9223372036854775808 by omega)]
      by_cases he : a[i] = b[i]'(by omega) <;> simp [he]
    · have d1 : decide ((a.length : Int) < (b.length : Int)) = false := by simp; omega
      simp only [d1, cond_false]
  · simp only [hl, decide_false, Bool.not_false, cond_true, dec_ne hl]
theorem eqCol_s (a b : List Col) (ha : Ln a) : slices_Equal_sl_api_Column_api_Column.F (a, b, ()) = some (decide (a = b), ()) := by
  rw [slices_Equal_sl_api_Column_api_Column.eq]
  unfold slices_Equal_sl_api_Column_api_Column.B
  simp only [len_ne]
  by_cases hl : a.length = b.length
  · simp only [hl, decide_true, Bool.not_true, cond_false]
    rw [eq_loop a b hl (by omega) (true, ()) (false, ()) ?_ ?_, ite_dec]
    · intro i hi
      have d1 : decide ((i : Int) < (b.length : Int)) = true := by simp; omega
      have d0 : decide (0 ≤ (i : Int)) = true := by simp
      simp only [d1, d0, Bool.and_self, cond_true, Int.toNat_natCast, getD_at hi, getD_at (show i < b.length by omega), column_eq, wrap_s hi (show a.length < 9223372036854775808 by omega)]
      by_cases he : a[i] = b[i]'(by omega) <;> simp [he]
    · have d1 : decide ((a.length : Int) < (b.length : Int)) = false := by simp; omega
      simp only [d1, cond_false]
  · simp only [hl, decide_false, Bool.not_false, cond_true, dec_ne hl]
theorem eqAgg_s (a b : List Agg) (ha : Ln a) : slices_Equal_sl_api_Agg_api_Agg.F (a, b, ()) = some (decide (a = b), ()) := by
  rw [slices_Equal_sl_api_Agg_api_Agg.eq]
  unfold slices_Equal_sl_api_Agg_api_Agg.B
  simp only [len_ne]
  by_cases hl : a.length = b.length
  · simp only [hl, decide_true, Bool.not_true, cond_false]
    rw [eq_loop a b hl (by omega) (true, ()) (false, ()) ?_ ?_, ite_dec]
    · intro i hi
      have d1 : decide ((i : Int) < (b.length : Int)) = true := by simp; omega
      have d0 : decide (0 ≤ (i : Int)) = true := by simp
      simp only [d1, d0, Bool.and_self, cond_true, Int.toNat_natCast, getD_at hi, getD_at (show i < b.length by omega), agg_eq, wrap_s hi (show a.length < 9223372036854775808 by omega)]
      by_cases he : a[i] = b[i]'(by omega) <;> simp [he]
    · have d1 : decide ((a.length : Int) < (b.length : Int)) = false := by simp; omega
      simp only [d1, cond_false]
  · simp only [hl, decide_false, Bool.not_false, cond_true, dec_ne hl]
theorem eqInt_s (a b : List Int) (ha : Ln a) : slices_Equal_sl_int_int.F (a, b, ()) = some (decide (a = b), ()) := by
  rw [slices_Equal_sl_int_int.eq]
  unfold slices_Equal_sl_int_int.B
  simp only [len_ne]
  by_cases hl : a.length = b.length
  · simp only [hl, decide_true, Bool.not_true, cond_false]
    rw [eq_loop a b hl (by omega) (true, ()) (false, ()) ?_ ?_, ite_dec]
    · intro i hi
      have d1 : decide ((i : Int) < (b.length : Int)) = true := by simp; omega
      have d0 : decide (0 ≤ (i : Int)) = true := by simp
      simp only [d1, d0, Bool.and_self, cond_true, Int.toNat_natCast, getD_at hi, getD_at (show i < b.length by omega), i_ne, wrap_s hi (show a.length < 9223372036854775808 by omega)]
      by_cases he : a[i] = b[i]'(by omega) <;> simp [he]
    · have d1 : decide ((a.length : Int) < (b.length : Int)) = false := by simp; omega
      simp only [d1, cond_false]
  · simp only [hl, decide_false, Bool.not_false, cond_true, dec_ne hl]
theorem rSame3_s (a b : List tNodeT) (ha : Ln a) : R03_Same.F (a, b, ()) = some (decide (a = b), ()) := by
  rw [R03_Same.eq]
  unfold R03_Same.B
  simp only [len_ne]
  by_cases hl : a.length = b.length
  · simp only [hl, decide_true, Bool.not_true, cond_false]
    rw [eq_loop a b hl (by omega) (true, ()) (false, ()) ?_ ?_, ite_dec]
    · intro i hi
      have d1 : decide ((i : Int) < (b.length : Int)) = true := by simp; omega
      have d0 : decide (0 ≤ (i : Int)) = true := by simp
      simp only [d1, d0, Bool.and_self, cond_true, Int.toNat_natCast, getD_at hi, getD_at (show i < b.length by omega), node_eq, wrap_s hi (show a.length < 9223372036854775808 by omega)]
      by_cases he : a[i] = b[i]'(by omega) <;> simp [he]
    · have d1 : decide ((a.length : Int) < (b.length : Int)) = false := by simp; omega
      simp only [d1, cond_false]
  · simp only [hl, decide_false, Bool.not_false, cond_true, dec_ne hl]
theorem rInts_s (a b : List Int) (ha : Ln a) : R07_Ints.F (a, b, ()) = some (decide (a = b), ()) := by
  rw [R07_Ints.eq]
  unfold R07_Ints.B
  simp only [len_ne]
  by_cases hl : a.length = b.length
  · simp only [hl, decide_true, Bool.not_true, cond_false]
    rw [eq_loop a b hl (by omega) (true, ()) (false, ()) ?_ ?_, ite_dec]
    · intro i hi
      have d1 : decide ((i : Int) < (b.length : Int)) = true := by simp; omega
      have d0 : decide (0 ≤ (i : Int)) = true := by simp
      simp only [d1, d0, Bool.and_self, cond_true, Int.toNat_natCast, getD_at hi, getD_at (show i < b.length by omega), i_ne, wrap_s hi (show a.length < 9223372036854775808 by omega)]
      by_cases he : a[i] = b[i]'(by omega) <;> simp [he]
    · have d1 : decide ((a.length : Int) < (b.length : Int)) = false := by simp; omega
      simp only [d1, cond_false]
  · simp only [hl, decide_false, Bool.not_false, cond_true, dec_ne hl]
theorem rSameTable_s (n : ByteArray) (c : List Col) (k : List (List tNodeT)) (n' : ByteArray) (c' : List Col) (k' : List (List tNodeT)) (hc : Ln c) (hk : Ln k) (hkk : ∀ e ∈ k, Ln e) :
    R07_SameTable.F (n, c, k, n', c', k', ()) = some (decide (n = n') && (decide (c = c') && decide (k = k')), ()) := by
  rw [R07_SameTable.eq]
  unfold R07_SameTable.B
  simp only [len_ne, beq_bytes]
  by_cases hn : n = n'
  · simp only [hn, decide_true, Bool.not_true, cond_false]
    by_cases hl : c.length = c'.length
    · simp only [hl, decide_true, Bool.not_true, cond_false]
      by_cases hl2 : k.length = k'.length
      · simp only [hl2, decide_true, Bool.not_true, cond_false, Option.bind_some]
        rw [eq_loop c c' hl (by omega) (.inl ()) (.inr (false, ())) ?_ ?_]
        · by_cases hcc : c = c'
          · simp only [if_pos hcc, Option.bind_some]
            rw [eq_loop k k' hl2 (by omega) (true, ()) (false, ()) ?_ ?_, ite_dec]
            · simp [hcc]
            · intro i hi
              have d1 : decide ((i : Int) < (k'.length : Int)) = true := by simp; omega
              have d0 : decide (0 ≤ (i : Int)) = true := by simp
              simp only [d1, d0, Bool.and_self, cond_true, Int.toNat_natCast, getD_at hi, getD_at (show i < k'.length by omega), rSame3_s _ _ (hkk _ (List.getElem_mem hi)), Option.bind_some, wrap_s hi (show k.length < 9223372036854775808 by omega)]
              by_cases he : k[i] = k'[i]'(by omega) <;> simp [he]
            · have d1 : decide ((k.length : Int) < (k'.length : Int)) = false := by simp; omega
              simp only [d1, cond_false]
          · simp only [if_neg hcc, Option.bind_some]
            simp [hcc]
        · intro i hi
          have d1 : decide ((i : Int) < (c'.length : Int)) = true := by simp; omega
          have d0 : decide (0 ≤ (i : Int)) = true := by simp
          simp only [d1, d0, Bool.and_self, cond_true, Int.toNat_natCast, getD_at hi, getD_at (show i < c'.length by omega), column_eq, wrap_s hi (show c.length < 9223372036854775808 by omega)]
          by_cases he : c[i] = c'[i]'(by omega) <;> simp [he]
        · have d1 : decide ((c.length : Int) < (c'.length : Int)) = false := by simp; omega
          simp only [d1, cond_false]
      · simp only [hl2, decide_false, Bool.not_false, cond_true, Option.bind_some]
        have : ¬ k = k' := fun e => hl2 (by rw [e])
        simp [this]
    · simp only [hl, decide_false, Bool.not_false, cond_true, Option.bind_some]
      have : ¬ c = c' := fun e => hl (by rw [e])
      simp [this]
  · simp only [hn, decide_false, Bool.not_false, cond_true, Option.bind_some]
    simp [hn]
theorem rSameView_s (n f w : ByteArray) (o1 o2 : Int) (wh : List tNodeT) (p : List Int) (g : Bool) (a : List Agg) (n' f' w' : ByteArray) (o1' o2' : Int) (wh' : List tNodeT) (p' : List Int) (g' : Bool) (a' : List Agg) (h1 : Ln wh) (h2 : Ln p) (h3 : Ln a) :
    R07_SameView.F (n, f, w, o1, o2, wh, p, g, a, n', f', w', o1', o2', wh', p', g', a', ()) = some (decide (n = n') && (decide (f = f') && (decide (w = w') && (decide (((o1, o2) : Agg) = (o1', o2')) && (decide (wh = wh') && (decide (p = p') && (decide (g = g') && decide (a = a'))))))), ()) := by
  rw [R07_SameView.eq]
  unfold R07_SameView.B
  simp only [len_ne, beq_bytes, agg_eq, rSame3_s _ _ h1, rInts_s _ _ h2, Option.bind_some]
  have hg : (g == g') = decide (g = g') := by cases g <;> cases g' <;> rfl
  rw [hg]
  by_cases e1 : n = n'
  case neg => simp [e1]
  by_cases e2 : f = f'
  case neg => simp [e1, e2]
  by_cases e3 : w = w'
  case neg => simp [e1, e2, e3]
  by_cases e4 : ((o1, o2) : Agg) = (o1', o2')
  case neg => rw [show decide (((o1, o2) : Agg) = (o1', o2')) = false from decide_eq_false e4]; simp [e1, e2, e3]
  rw [show decide (((o1, o2) : Agg) = (o1', o2')) = true from decide_eq_true e4]
  by_cases e5 : wh = wh'
  case neg => simp [e1, e2, e3, e5]
  by_cases e6 : p = p'
  case neg => simp [e1, e2, e3, e5, e6]
  by_cases e7 : g = g'
  case neg => simp [e1, e2, e3, e5, e6, e7]
  simp only [e1, e2, e3, e5, e6, e7, decide_true, Bool.not_true, cond_false, Option.bind_some, Bool.true_and]
  by_cases hl : a.length = a'.length
  · simp only [hl, decide_true, Bool.not_true, cond_false]
    rw [eq_loop a a' hl (by omega) (true, ()) (false, ()) ?_ ?_, ite_dec]
    · intro i hi
      have d1 : decide ((i : Int) < (a'.length : Int)) = true := by simp; omega
      have d0 : decide (0 ≤ (i : Int)) = true := by simp
      simp only [d1, d0, Bool.and_self, cond_true, Int.toNat_natCast, getD_at hi, getD_at (show i < a'.length by omega), agg_eq, wrap_s hi (show a.length < 9223372036854775808 by omega)]
      by_cases he : a[i] = a'[i]'(by omega) <;> simp [he]
    · have d1 : decide ((a.length : Int) < (a'.length : Int)) = false := by simp; omega
      simp only [d1, cond_false]
  · simp only [hl, decide_false, Bool.not_false, cond_true, dec_ne hl]
def sameB (x y : Dl.Def) : Bool := decide (x.1 = y.1) && ((decide (x.2.1.1 = y.2.1.1) && (decide (x.2.1.2.1 = y.2.1.2.1) && decide (x.2.1.2.2 = y.2.1.2.2))) &&
  (decide (x.2.2.1 = y.2.2.1) && (decide (x.2.2.2.1 = y.2.2.2.1) && (decide (x.2.2.2.2.1 = y.2.2.2.2.1) && (decide (x.2.2.2.2.2.1 = y.2.2.2.2.2.1) && (decide (x.2.2.2.2.2.2.1 = y.2.2.2.2.2.2.1) && (decide (x.2.2.2.2.2.2.2.1 = y.2.2.2.2.2.2.2.1) && (decide (x.2.2.2.2.2.2.2.2.1 = y.2.2.2.2.2.2.2.2.1) && decide (x.2.2.2.2.2.2.2.2.2 = y.2.2.2.2.2.2.2.2.2)))))))))
theorem sameB_iff (x y : Dl.Def) : sameB x y = true ↔ x = y := by
  obtain ⟨a1, ⟨a2, a3, a4⟩, a5, a6, a7, a8, a9, a10, a11, a12⟩ := x
  obtain ⟨b1, ⟨b2, b3, b4⟩, b5, b6, b7, b8, b9, b10, b11, b12⟩ := y
  simp only [sameB, Bool.and_eq_true, decide_eq_true_eq, Prod.mk.injEq]
/-- the lists of a definition are no longer than can be -/
structure DLn (x : Dl.Def) : Prop where
  cols : Ln x.2.1.2.1
  checks : Ln x.2.1.2.2
  each : ∀ e ∈ x.2.1.2.2, Ln e
  whr : Ln x.2.2.2.2.2.2.1
  pick : Ln x.2.2.2.2.2.2.2.1
  aggs : Ln x.2.2.2.2.2.2.2.2.2
theorem rSame_s (a1 : Int) (a2 : ByteArray) (a3 : List Col) (a4 : List (List tNodeT)) (a5 a6 a7 : ByteArray) (a8 a8' : Int) (a9 : List tNodeT) (a10 : List Int) (a11 : Bool) (a12 : List Agg) (b1 : Int) (b2 : ByteArray) (b3 : List Col) (b4 : List (List tNodeT)) (b5 b6 b7 : ByteArray) (b8 b8' : Int) (b9 : List tNodeT) (b10 : List Int) (b11 : Bool) (b12 : List Agg)
    (h : DLn (a1, ((a2, (a3, a4)), (a5, (a6, (a7, ((a8, a8'), (a9, (a10, (a11, a12)))))))))) :
    R07_Same.F (a1, a2, a3, a4, a5, a6, a7, a8, a8', a9, a10, a11, a12, b1, b2, b3, b4, b5, b6, b7, b8, b8', b9, b10, b11, b12, ()) =
      some (sameB (a1, ((a2, (a3, a4)), (a5, (a6, (a7, ((a8, a8'), (a9, (a10, (a11, a12)))))))))  (b1, ((b2, (b3, b4)), (b5, (b6, (b7, ((b8, b8'), (b9, (b10, (b11, b12))))))))), ()) := by
  rw [R07_Same.eq]
  unfold R07_Same.B
  simp only [rSameTable_s a2 a3 a4 b2 b3 b4 h.cols h.checks h.each, rSameView_s a5 a6 a7 a8 a8' a9 a10 a11 a12 b5 b6 b7 b8 b8' b9 b10 b11 b12 h.whr h.pick h.aggs, Option.bind_some, sameB]
  have h0 : (a1 == b1) = decide (a1 = b1) := by by_cases e : a1 = b1 <;> simp [e]
  rw [h0]
  cases decide (a1 = b1)
  · rfl
  · simp only [cond_true, Bool.true_and]
    cases (decide (a2 = b2) && (decide (a3 = b3) && decide (a4 = b4)))
    · rfl
    · simp only [cond_true, Bool.true_and]
theorem same_s (a1 : Int) (a2 : ByteArray) (a3 : List Col) (a4 : List (List tNodeT)) (a5 a6 a7 : ByteArray) (a8 a8' : Int) (a9 : List tNodeT) (a10 : List Int) (a11 : Bool) (a12 : List Agg) (b1 : Int) (b2 : ByteArray) (b3 : List Col) (b4 : List (List tNodeT)) (b5 b6 b7 : ByteArray) (b8 b8' : Int) (b9 : List tNodeT) (b10 : List Int) (b11 : Bool) (b12 : List Agg)
    (h : DLn (a1, ((a2, (a3, a4)), (a5, (a6, (a7, ((a8, a8'), (a9, (a10, (a11, a12)))))))))) :
    ddl_Same.F (a1, a2, a3, a4, a5, a6, a7, a8, a8', a9, a10, a11, a12, b1, b2, b3, b4, b5, b6, b7, b8, b8', b9, b10, b11, b12, ()) =
      some (sameB (a1, ((a2, (a3, a4)), (a5, (a6, (a7, ((a8, a8'), (a9, (a10, (a11, a12)))))))))  (b1, ((b2, (b3, b4)), (b5, (b6, (b7, ((b8, b8'), (b9, (b10, (b11, b12))))))))), ()) := by
  rw [ddl_Same.eq]
  unfold ddl_Same.B
  have h0 : (a1 == b1) = decide (a1 = b1) := by by_cases e : a1 = b1 <;> simp [e]
  have hg : (a11 == b11) = decide (a11 = b11) := by cases a11 <;> cases b11 <;> rfl
  have tail : ∀ (c : Bool) {R : Type} (K : (Bool × Unit) ⊕ R → Option (Bool × Unit)), Option.bind (
      (bif decide (a5 = b5) then (bif decide (a6 = b6) then (bif decide (a7 = b7) then (bif decide (((a8, a8') : Agg) = (b8, b8')) then
      (bif decide (a9 = b9) then (bif decide (a10 = b10) then (bif decide (a11 = b11) then some (.inl (decide (a12 = b12), ())) else some (.inl (false, ()))) else some (.inl (false, ()))) else some (.inl (false, ()))) else some (.inl (false, ()))) else some (.inl (false, ()))) else some (.inl (false, ()))) else some (.inl (false, ()))) : Option ((Bool × Unit) ⊕ R)) K =
      K (.inl (decide (a5 = b5) && (decide (a6 = b6) && (decide (a7 = b7) && (decide (((a8, a8') : Agg) = (b8, b8')) && (decide (a9 = b9) && (decide (a10 = b10) && (decide (a11 = b11) && decide (a12 = b12))))))), ())) := by
    intro c R K
    cases decide (a5 = b5) <;> try rfl
    cases decide (a6 = b6) <;> try rfl
    cases decide (a7 = b7) <;> try rfl
    cases decide (((a8, a8') : Agg) = (b8, b8')) <;> try rfl
    cases decide (a9 = b9) <;> try rfl
    cases decide (a10 = b10) <;> try rfl
    cases decide (a11 = b11) <;> rfl
  simp only [len_ne, beq_bytes, agg_eq, eqNode_s _ _ h.whr, eqInt_s _ _ h.pick, eqAgg_s _ _ h.aggs, eqCol_s _ _ h.cols, Option.bind_some, h0, hg]
  have col : ∀ (c : Bool) {R : Type} (K : (Bool × Unit) ⊕ R → Option (Bool × Unit)), Option.bind ((bif decide (a2 = b2) then (bif decide (a3 = b3) then some (.inl (c, ())) else some (.inl (false, ()))) else some (.inl (false, ()))) : Option ((Bool × Unit) ⊕ R)) K =
      K (.inl (decide (a2 = b2) && (decide (a3 = b3) && c), ())) := by
    intro c R K
    cases decide (a2 = b2) <;> try rfl
    cases decide (a3 = b3) <;> rfl
  have fin : ∀ (x y : Bool), (bif decide (a1 = b1) then (bif x then some (y, ()) else some (false, ())) else some (false, ()) : Option (Bool × Unit)) = some (decide (a1 = b1) && (x && y), ()) := by
    intro x y
    cases decide (a1 = b1) <;> cases x <;> rfl
  have hS : ∀ (a b : List tNodeT), Ln a → ddl_Same_1.F (a, b, ()) = some (decide (a = b), ()) := fun a b ha => by
    rw [ddl_Same_1.eq]
    unfold ddl_Same_1.B
    simp only [eqNode_s a b ha, Option.bind_some]
  by_cases hl : a4.length = b4.length
  · simp only [hl, decide_true, Bool.not_true, cond_false]
    rw [eq_loop a4 b4 hl (by have := h.checks; simp only at this; omega) (decide (a1 = b1) && ((decide (a2 = b2) && (decide (a3 = b3) && true)) && (decide (a5 = b5) && (decide (a6 = b6) && (decide (a7 = b7) && (decide (((a8, a8') : Agg) = (b8, b8')) && (decide (a9 = b9) && (decide (a10 = b10) && (decide (a11 = b11) && decide (a12 = b12))))))))), ()) (false, ()) ?_ ?_]
    · simp only [sameB]
      by_cases he : a4 = b4
      · simp [he]
      · simp [he]
    · intro i hi
      have hlen := h.checks
      simp only at hlen
      have d1 : decide ((i : Int) < (b4.length : Int)) = true := by simp; omega
      have d0 : decide (0 ≤ (i : Int)) = true := by simp
      simp only [d1, d0, Bool.and_self, cond_true, Int.toNat_natCast, getD_at hi, getD_at (show i < b4.length by omega), hS _ _ (h.each _ (List.getElem_mem hi)), Option.bind_some, wrap_s hi (show a4.length < 9223372036854775808 by omega)]
      by_cases he : a4[i] = b4[i]'(by omega)
      · simp only [he, decide_true, Bool.not_true, cond_false, if_true]
      · simp only [he, decide_false, Bool.not_false, cond_true, if_false]
        have cf : ∀ {R : Type} (K : (Bool × Unit) ⊕ R → Option (Bool × Unit)), Option.bind ((bif decide (a2 = b2) then (bif decide (a3 = b3) then some (.inl (false, ())) else some (.inl (false, ()))) else some (.inl (false, ()))) : Option ((Bool × Unit) ⊕ R)) K = K (.inl (false, ())) := by
          intro R K
          rw [col]
          simp
        rw [cf]
        simp only []
        rw [tail false]
        simp only [cond_false]
        cases decide (a1 = b1) <;> rfl
    · have d1 : decide ((a4.length : Int) < (b4.length : Int)) = false := by simp; omega
      simp only [d1, cond_false]
      rw [col]
      simp only []
      rw [tail false]
      simp only [fin, Option.map_some]
  · simp only [hl, decide_false, Bool.not_false, cond_true, sameB, dec_ne hl, Bool.and_false, Bool.false_and]
    have cf : ∀ {R : Type} (K : (Bool × Unit) ⊕ R → Option (Bool × Unit)), Option.bind ((bif decide (a2 = b2) then (bif decide (a3 = b3) then some (.inl (false, ())) else some (.inl (false, ()))) else some (.inl (false, ()))) : Option ((Bool × Unit) ⊕ R)) K = K (.inl (false, ())) := by
      intro R K
      rw [col]
      simp
    rw [cf]
    simp only []
    rw [tail false]
    simp only [cond_false]
    cases decide (a1 = b1) <;> rfl
end Go.Proofs.Ytnogebfcpicghaa
