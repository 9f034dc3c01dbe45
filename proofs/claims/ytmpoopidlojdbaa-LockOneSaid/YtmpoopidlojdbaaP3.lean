import Derived.Test.YtmpoopidlojdbaaP2
set_option linter.all false
set_option linter.unusedVariables false
set_option linter.unusedSimpArgs false
set_option linter.unusedSectionVars false
namespace Go.Proofs.Ytmpoopidlojdbaa
open Go Lv Go.Proofs Go.RowKit

/-! ### Same, Small -/
theorem same_s (a b : List tLT) (ha : a.length < 9223372036854775807) (hb : b.length < 9223372036854775807) : f16.F (a, b, ()) = some (decide (a = b), ()) := by
  rw [f16.eq]
  by_cases hl : a.length = b.length
  · have e0 : ((a.length : Int) != (b.length : Int)) = false := by rw [hl]; simp
    simp only [f16.B, e0, cond_false]
    refine (loop_T (fun i (_ : Unit) => (i, ())) (a.zip b) (fun _ _ => True) (fun p _ => if p.1 = p.2 then .inl () else .inr (false, ())) (fun _ => (true, ())) (fun i hi _ _ => ⟨?_, fun _ _ => trivial⟩) (fun _ _ => ?_) () trivial).trans ?_
    · have hi' : i < a.length := by simp at hi; omega
      have hi2 : i < b.length := by omega
      have a1 : (i : Int) < a.length := by omega
      have a3 : (i : Int) < b.length := by omega
      have a2 : (0 : Int) ≤ i := by omega
      simp only [wrap_s hi' (by omega), Int.toNat_natCast, getD_at hi', getD_at hi2, a1, a2, a3, decide_true, Bool.and_true, cond_true, tL_eq, List.getElem_zip]
      by_cases h : a[i] = b[i] <;> simp [h]
    · have : ¬ (((a.zip b).length : Nat) : Int) < a.length := by simp; omega
      simp only [this, decide_false, cond_false]
    · congr 2
      clear e0 ha hb
      induction a generalizing b with
      | nil => cases b with
        | nil => rfl
        | cons => simp at hl
      | cons x a ih => cases b with
        | nil => simp at hl
        | cons y b =>
          simp only [List.zip_cons_cons, foldT]
          by_cases h : x = y
          · subst h
            simp only [if_true, List.cons.injEq, true_and]
            exact ih b (by simpa using hl)
          · simp [h]
  · have e0 : ((a.length : Int) != (b.length : Int)) = true := by simp; omega
    have : ¬ a = b := fun e => hl (by rw [e])
    simp [f16.B, e0, this]
def smallS (l : List tLT) : Bool := l.all (fun x => decide (x.1.size ≤ 100 ∧ x.2.1.2.2.size ≤ 1000)) && decide (l.length ≤ 100)
theorem small_s (l : List tLT) (hl : l.length < 9223372036854775807) : f8.F (l, ()) = some (smallS l, ()) := by
  rw [f8.eq]
  refine (loop_TB (fun i (_ : Unit) => (i, ())) l (fun _ _ => True) (fun x _ => if x.1.size ≤ 100 ∧ x.2.1.2.2.size ≤ 1000 then .inl () else .inr (.inr (false, ()))) (fun _ => (.inl () : Unit ⊕ (Bool × Unit))) (fun i hi _ _ => ⟨?_, fun _ _ => trivial⟩) (fun _ _ => ?_) () trivial).trans ?_
  · have a1 : (i : Int) < l.length := by omega
    have a2 : (0 : Int) ≤ i := by omega
    simp only [wrap_s hi (by omega), Int.toNat_natCast, getD_at hi, a1, a2, decide_true, Bool.and_true, cond_true]
    by_cases h1 : (l[i]).1.size ≤ 100
    · have h1' : ¬ (((l[i]).1.size : Nat) : Int) > 100 := by omega
      by_cases h2 : (l[i]).2.1.2.2.size ≤ 1000
      · have h2' : ¬ (((l[i]).2.1.2.2.size : Nat) : Int) > 1000 := by omega
        simp [h1, h1', h2, h2']
      · have h2' : (((l[i]).2.1.2.2.size : Nat) : Int) > 1000 := by omega
        simp only [h1', h2', decide_true, decide_false, cond_true, cond_false, h1, h2, and_false, if_false]
    · have h1' : (((l[i]).1.size : Nat) : Int) > 100 := by omega
      simp only [h1', decide_true, cond_true, h1, false_and, if_false]
  · simp
  · have : foldT (R := Unit ⊕ (Bool × Unit)) (fun (x : tLT) (_ : Unit) => if x.1.size ≤ 100 ∧ x.2.1.2.2.size ≤ 1000 then .inl () else .inr (.inr (false, ()))) (fun _ => .inl ()) l () = if l.all (fun x => decide (x.1.size ≤ 100 ∧ x.2.1.2.2.size ≤ 1000)) = true then .inl () else .inr (false, ()) := by
      clear hl
      induction l with
      | nil => rfl
      | cons x r ih =>
        rw [foldT, List.all_cons]
        by_cases h : x.1.size ≤ 100 ∧ x.2.1.2.2.size ≤ 1000
        · rw [if_pos h]; simp only [h, and_self, decide_true, Bool.true_and]; exact ih
        · rw [if_neg h]; simp [h]
    rw [this]
    unfold smallS
    cases l.all (fun x => decide (x.1.size ≤ 100 ∧ x.2.1.2.2.size ≤ 1000)) with
    | false => rfl
    | true =>
      simp only [if_true, Bool.true_and]
      by_cases h : l.length ≤ 100
      · have : ((l.length : Nat) : Int) ≤ 100 := by omega
        simp [h, this]
      · have : ¬ ((l.length : Nat) : Int) ≤ 100 := by omega
        simp [h, this]

/-! ### Free -/
def freeS (l : List tLT) (o : Int) : List tLT := if mayB l = true then l.filter (fun x => decide (x.2.2 ≠ o)) else []
theorem ref_free (l : List tLT) (hl : l.length < 2513169434915) (o : Int) : f18.F (l, o, ()) = some (freeS l o, ()) := by
  rw [f18.eq]
  refine (loop_T (fun i (st : List tLT) => (i, st, ())) l (fun i st => st.length ≤ i) (fun x st => if mayB l = true then .inl (st ++ if x.2.2 ≠ o then [x] else []) else .inr (st, ())) (fun st => (st, ())) (fun i hi st hI => ⟨?_, fun st' h => ?_⟩) (fun st _ => ?_) [] (Nat.zero_le _)).trans ?_
  · have a1 : (i : Int) < l.length := by omega
    have a2 : (0 : Int) ≤ i := by omega
    have a3 : Nat.ble (st.length + 1) 2513169434916 = true := Nat.ble_eq_true_of_le (by omega)
    simp only [wrap_s hi (by omega), Int.toNat_natCast, getD_at hi, a1, a2, decide_true, Bool.and_true, cond_true, ref_may l (by omega), Option.bind_some]
    cases mayB l with
    | false => simp
    | true => by_cases h : (l[i]).2.2 = o <;> simp [h, a3, Bool.cond_eq_ite] <;> simpa using a3
  · by_cases hm : mayB l = true
    · rw [if_pos hm] at h
      cases h
      by_cases h' : (l[i]).2.2 = o <;> simp [h'] <;> omega
    · rw [if_neg hm] at h; cases h
  · simp
  · unfold freeS
    cases hm : mayB l with
    | false => cases l with
      | nil => cases hm
      | cons x r => simp [foldT]
    | true =>
      simp only [if_true]
      have : ∀ (r st : List tLT), foldT (R := List tLT × Unit) (fun x st => .inl (st ++ if x.2.2 ≠ o then [x] else [])) (fun st => (st, ())) r st = (st ++ r.filter (fun x => decide (x.2.2 ≠ o)), ()) := by
        intro r
        induction r with
        | nil => intro st; simp [foldT]
        | cons x r ih =>
          intro st
          rw [foldT]
          refine (ih _).trans ?_
          by_cases h : x.2.2 = o <;> simp [h]
      rw [this]; simp
theorem i_free (l : List tLT) (hl : l.length < 2513169434915) (o : Int) : f17.F (l, o, ()) = some (freeS l o, ()) := by
  rw [f17.eq]
  simp only [f17.B, i_may l (by omega), Option.bind_some, i_clone l (by omega)]
  unfold freeS
  cases hm : mayB l with
  | false => simp
  | true =>
    simp only [Bool.not_true, cond_false, if_true]
    clear hm
    refine (loop_T (fun i (_ : Unit) => (i, ())) l (fun i _ => ∀ x ∈ l.take i, x.2.2 ≠ o) (fun x _ => if x.2.2 = o then .inr (l.filter (fun x => decide (x.2.2 ≠ o)), ()) else .inl ()) (fun _ => (l.filter (fun x => decide (x.2.2 ≠ o)), ())) (fun i hi _ hI => ⟨?_, fun _ h => ?_⟩) (fun _ hI => ?_) () (by simp)).trans ?_
    · have a1 : (i : Int) < l.length := by omega
      have a2 : (0 : Int) ≤ i := by omega
      have a4 : ((i : Int) == -1) = false := by simp
      simp only [wrap_s hi (by omega), Int.toNat_natCast, getD_at hi, a1, a2, a4, decide_true, Bool.and_true, cond_true, cond_false]
      by_cases h : (l[i]).2.2 = o
      · have hb : ((l[i]).2.2 == o) = true := by simpa using h
        rw [if_pos h]
        simp only [hb, cond_true]
        refine (congrArg (Option.map Sum.inr) ?_ : _ = Option.map Sum.inr (some (l.filter (fun x => decide (x.2.2 ≠ o)), ())))
        refine (del_bind (fun x : tLT => decide (x.2.2 ≠ o)) (fun i o => (Sum.inl (i, o, ()) : (Int × List tLT × Unit) ⊕ (List tLT × Unit))) i (i + 1) l (by omega) (by omega) (fun i j o' hj hi hl' => ?_) (fun i o' => ?_)).elim fun i' ⟨o', k1, k2, k3, k4⟩ => Eq.trans k1 ?_
        · have b1 : (j : Int) < o'.length := by omega
          have b2 : (0 : Int) ≤ j := by omega
          have b3 : (i : Int) < o'.length := by omega
          have b4 : (0 : Int) ≤ i := by omega
          simp only [wrap_s hj (by omega), wrap_s (by omega : i < o'.length) (by omega), Int.toNat_natCast, getD_at hj, b1, b2, b3, b4, decide_true, Bool.and_true, cond_true]
          by_cases h' : (o'[j]).2.2 = o <;> simp [h', Bool.cond_eq_ite]
        · simp
        · have b1 : (i' : Int) ≤ o'.length := by omega
          have b2 : (0 : Int) ≤ i' := by omega
          have hfl : l.filter (fun x => decide (x.2.2 ≠ o)) = o'.take i' := by
            rw [k4]
            conv => lhs; rw [← List.take_append_drop i l, List.filter_append, List.drop_eq_getElem_cons hi, List.filter_cons_of_neg (by simpa using h)]
            congr 1
            rw [List.filter_eq_self]
            intro x hx
            simpa using hI x hx
          rw [hfl]
          have c1 := clear_len o' i' (by omega) ((⟨#[]⟩ : ByteArray), (((0 : Int), ((0 : Int), (⟨#[]⟩ : ByteArray))), (0 : Int)))
          have c2 := clear_take o' i' (by omega) ((⟨#[]⟩ : ByteArray), (((0 : Int), ((0 : Int), (⟨#[]⟩ : ByteArray))), (0 : Int)))
          have z0 : Int.toNat 0 = 0 := rfl
          have z1 : (0 : Int) ≤ 0 := Int.le_refl _
          simp only [Int.toNat_natCast, c1, c2, z0, z1, b1, b2, Int.le_refl, decide_true, Bool.and_true, cond_true]
      · have hb : ((l[i]).2.2 == o) = false := by simpa using h
        rw [if_neg h]
        simp only [hb, cond_false]
    · by_cases h' : (l[i]).2.2 = o
      · rw [if_pos h'] at h; cases h
      · intro y hy
        rw [List.take_add_one, List.getElem?_eq_getElem hi] at hy
        rcases List.mem_append.1 hy with hy | hy
        · exact hI y hy
        · rw [List.mem_singleton.1 hy]; exact h'
    · have : l.filter (fun x => decide (x.2.2 ≠ o)) = l := by
        rw [List.filter_eq_self]
        intro x hx
        simpa using hI x (by rwa [List.take_length])
      rw [this]
      simp
    · clear hl
      generalize l.filter (fun x => decide (x.2.2 ≠ o)) = q
      induction l with
      | nil => rfl
      | cons x r ih =>
        rw [foldT]
        by_cases h : x.2.2 = o
        · simp [h]
        · simp only [h, if_false]; exact ih

/-! ### Keys -/
def eqL (b a : tLT) : Bool := decide (b = a)
theorem i_compact (l : List tLT) (hl : l.length < 2513169434915) : f31.F (l, ()) = some (compactL eqL l, ()) := by
  rw [f31.eq]
  simp only [f31.B]
  by_cases h2 : l.length < 2
  · have : ((l.length : Nat) : Int) < 2 := by omega
    simp only [this, decide_true, cond_true]
    match l, h2 with
    | [], _ => rfl
    | [a], _ => rfl
  · have : ¬ ((l.length : Nat) : Int) < 2 := by omega
    simp only [this, decide_false, cond_false]
    refine (cpt_outer eqL l (by omega) (fun o => (o, ())) (fun a b h => of_decide_eq_true h) (fun k h0 hk => ?_) ?_).trans rfl
    · have a1 : (k : Int) < l.length := by omega
      have a2 : (0 : Int) ≤ k := by omega
      have a3 : (((k - 1 : Nat) : Nat) : Int) < l.length := by omega
      have a4 : (0 : Int) ≤ ((k - 1 : Nat) : Int) := by omega
      have e1 : IntKind.i64.wrap ((k : Int) - 1) = ((k - 1 : Nat) : Int) := by rw [i64_wrap] <;> omega
      have a5 : k - 1 < l.length := by omega
      have a6 : (k : Int) ≤ l.length := by omega
      simp only [wrap_s hk (by omega), e1, Int.toNat_natCast, getD_at hk, getD_at a5, a1, a2, a3, a4, a6, Int.le_refl, decide_true, Bool.and_true, cond_true, tL_eq]
      by_cases he : l[k] = l[k - 1]
      · have he' : eqL l[k] l[k - 1] = true := decide_eq_true he
        rw [if_pos he']
        simp only [he, decide_true, cond_true]
        refine (congrArg (fun z => Option.bind z _) ?_ : _ = Option.bind (some (.inr (.inr (l.take k ++ dropSame eqL l[k - 1] (l.drop (k + 1)), ())))) _).trans rfl
        refine (cpt_bind eqL k (fun i o => (Sum.inl (i, o, ()) : (Int × List tLT × Unit) ⊕ _)) l (by omega) (fun k1 k2 o' hl' h0 hk1 hj => ?_) (fun k1 k2 o' hl' hk2 => ?_)).elim fun i' ⟨o', k1, k2, k3, k4⟩ => Eq.trans k1 ?_
        · have b1 : (k2 : Int) < ((l.length - k : Nat) : Int) := by omega
          have b2 : (0 : Int) ≤ k2 := by omega
          have b3 : (((k2 - 1 : Nat) : Nat) : Int) < ((l.length - k : Nat) : Int) := by omega
          have b4 : (0 : Int) ≤ ((k2 - 1 : Nat) : Int) := by omega
          have e2 : IntKind.i64.wrap ((k2 : Int) - 1) = ((k2 - 1 : Nat) : Int) := by rw [i64_wrap] <;> omega
          have b5 : (k1 : Int) < o'.length := by omega
          have b6 : (0 : Int) ≤ k1 := by omega
          have b7 : k + (k2 - 1) < o'.length := by omega
          have b8 : o'[k + (k2 - 1)] = o'[k + k2 - 1] := by congr 1; omega
          simp only [wrap_s (by omega : k1 < o'.length) (by omega), wrap_s (by omega : k2 < o'.length) (by omega), e2, Int.toNat_natCast, getD_at hj, getD_at b7, b8, b1, b2, b3, b4, b5, b6, decide_true, Bool.and_true, cond_true, tL_eq]
          by_cases hq : o'[k + k2] = o'[k + k2 - 1] <;> simp [hq, eqL]
        · have b1 : ¬ (k2 : Int) < ((l.length - k : Nat) : Int) := by omega
          simp only [Int.toNat_natCast, b1, decide_false, cond_false]
        · have c1 := clear_len o' i' (by omega) ((⟨#[]⟩ : ByteArray), (((0 : Int), ((0 : Int), (⟨#[]⟩ : ByteArray))), (0 : Int)))
          have c2 := clear_take o' i' (by omega) ((⟨#[]⟩ : ByteArray), (((0 : Int), ((0 : Int), (⟨#[]⟩ : ByteArray))), (0 : Int)))
          have z0 : Int.toNat 0 = 0 := rfl
          have z1 : (0 : Int) ≤ 0 := Int.le_refl _
          have b1 : (i' : Int) ≤ o'.length := by omega
          have b2 : (0 : Int) ≤ i' := by omega
          simp only [Int.toNat_natCast, c1, c2, z0, z1, b1, b2, Int.le_refl, decide_true, Bool.and_true, Bool.true_and, cond_true]
          rw [k4, he]
      · have he' : ¬ eqL l[k] l[k - 1] = true := fun h => he (of_decide_eq_true h)
        rw [if_neg he']
        simp only [he, decide_false, cond_false, Option.bind_some, wrap_s hk (by omega : l.length < 9223372036854775808)]
    · simp
end Go.Proofs.Ytmpoopidlojdbaa
