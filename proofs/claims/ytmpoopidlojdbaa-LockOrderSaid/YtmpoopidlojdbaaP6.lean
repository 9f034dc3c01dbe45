import Derived.Test.YtmpoopidlojdbaaP5
set_option linter.all false
set_option linter.unusedVariables false
set_option linter.unusedSimpArgs false
set_option linter.unusedSectionVars false
namespace Go.Proofs.Ytmpoopidlojdbaa
open Go Lv Go.Proofs Go.RowKit

/-! ### What locks are -/
theorem may_uniq {l : List tLT} (hm : May l) {x y : tLT} (hx : x ∈ l) (hy : y ∈ l) (h : lk x = lk y) : x = y := by
  obtain ⟨i, hi, rfl⟩ := List.mem_iff_getElem.1 hx
  obtain ⟨j, hj, rfl⟩ := List.mem_iff_getElem.1 hy
  rcases Nat.lt_trichotomy i j with hij | rfl | hij
  · have := List.pairwise_iff_getElem.1 hm i j hi hj hij
    rw [h, cmpK_3.refl] at this; omega
  · rfl
  · have := List.pairwise_iff_getElem.1 hm j i hj hi hij
    rw [h, cmpK_3.refl] at this; omega
theorem find_mem {l : List tLT} {k : ByteArray × tVT} {y : tLT} (h : findK l k = some y) : y ∈ l ∧ lk y = k := by
  unfold findK at h
  exact ⟨List.mem_of_find?_eq_some h, by simpa using List.find?_some h⟩
theorem find_none {l : List tLT} {k : ByteArray × tVT} (h : findK l k = none) : ∀ y ∈ l, lk y ≠ k := by
  unfold findK at h
  intro y hy
  simpa using List.find?_eq_none.1 h y hy
theorem find_of {l : List tLT} (hm : May l) {y : tLT} (hy : y ∈ l) : findK l (lk y) = some y := by
  cases h : findK l (lk y) with
  | none => exact absurd rfl (find_none h y hy)
  | some z => obtain ⟨a, b⟩ := find_mem h; rw [may_uniq hm a hy b]
theorem find_not {l : List tLT} {k : ByteArray × tVT} (h : ∀ y ∈ l, lk y ≠ k) : findK l k = none := by
  unfold findK
  rw [List.find?_eq_none]
  intro y hy
  simpa using h y hy
theorem who_of {l : List tLT} (hm : May l) {y : tLT} (hy : y ∈ l) : whoS l (lk y) = (y.2.2, true) := by
  unfold whoS
  rw [if_pos ((mayB_iff l).2 hm), find_of hm hy]
theorem who_not {l : List tLT} {k : ByteArray × tVT} (h : ∀ y ∈ l, lk y ≠ k) : whoS l k = (0, false) := by
  unfold whoS
  split
  · rw [find_not h]
  · rfl
theorem lock_eq {x y : tLT} (h : lk x = lk y) (ho : x.2.2 = y.2.2) : x = y := by
  obtain ⟨a, b, c⟩ := x
  obtain ⟨a', b', c'⟩ := y
  simp only [lk, Prod.mk.injEq] at h
  simp only at ho
  rw [h.1, h.2, ho]
theorem take_can {l : List tLT} (hm : May l) (x : tLT) : (takeS l x).2 = true ↔ ∀ z ∈ l, lk z = lk x → z.2.2 = x.2.2 := by
  unfold takeS
  rw [if_pos ((mayB_iff l).2 hm)]
  cases h : findK l (lk x) with
  | none =>
    simp only [true_iff]
    exact fun z hz e => absurd e (find_none h z hz)
  | some y =>
    obtain ⟨a, b⟩ := find_mem h
    by_cases ho : y.2.2 = x.2.2
    · simp only [ho, if_true, true_iff]
      intro z hz e
      rw [may_uniq hm hz a (e.trans b.symm)]
      exact ho
    · simp only [ho, if_false, Bool.false_eq_true, false_iff]
      exact fun k => ho (k y a b)
theorem take_no {l : List tLT} {x : tLT} (h : (takeS l x).2 = false) : (takeS l x).1 = [] := by
  unfold takeS at h ⊢
  split
  · rename_i hm
    rw [if_pos hm] at h
    cases hf : findK l (lk x) with
    | none => rw [hf] at h; cases h
    | some y =>
      rw [hf] at h
      by_cases ho : y.2.2 = x.2.2
      · simp [ho] at h
      · simp [ho]
  · rfl
theorem take_yes {l : List tLT} (hm : May l) {x : tLT} (h : (takeS l x).2 = true) : May (takeS l x).1 ∧ ∀ z, z ∈ (takeS l x).1 ↔ z = x ∨ z ∈ l := by
  unfold takeS at h ⊢
  rw [if_pos ((mayB_iff l).2 hm)] at h ⊢
  cases hf : findK l (lk x) with
  | none =>
    obtain ⟨a, b⟩ := may_put hm x
    refine ⟨a, fun z => ?_⟩
    simp only [b]
    constructor
    · rintro (h | ⟨h, _⟩)
      · exact .inl h
      · exact .inr h
    · rintro (h | h)
      · exact .inl h
      · exact .inr ⟨h, fun e => find_none hf z h ((cmpK_3.eq _ _).1 e)⟩
  | some y =>
    rw [hf] at h
    obtain ⟨a, b⟩ := find_mem hf
    by_cases ho : y.2.2 = x.2.2
    · simp only [ho, if_true]
      refine ⟨hm, fun z => ⟨.inr, ?_⟩⟩
      rintro (rfl | h)
      · rw [← lock_eq b ho]; exact a
      · exact h
    · simp [ho] at h
theorem free_may {l : List tLT} (hm : May l) (o : Int) : May (freeS l o) ∧ ∀ z, z ∈ freeS l o ↔ z ∈ l ∧ z.2.2 ≠ o := by
  unfold freeS
  rw [if_pos ((mayB_iff l).2 hm)]
  exact ⟨List.Pairwise.filter _ hm, fun z => by simp⟩

/-! ### LockOne -/
theorem pure4 (x : ArgT [(.sl 26 tL, false), (tL, true), (.int .i64, false)]) (h : argIn PP _ x) : f4.F (argX 0 _ x) = some (true, ()) := by
  obtain ⟨l, x, other, u⟩ := x
  obtain ⟨⟨hl, _⟩, _⟩ := h
  have hl : l.length < 9223372036854775807 := len_of (b := 56) (by kernel_rfl) (by decide) hl
  show f4.F (l, x.1, x.2.1.1, x.2.1.2.1, x.2.1.2.2, x.2.2, other, ()) = _
  rw [f4.eq]
  simp only [f4.B, small_s l hl, Option.bind_some, fixed_s, Bool.not_true, cond_false, ref_may l hl]
  cases hs : smallS l with
  | false => rfl
  | true =>
    have hll := small_len hs
    cases hmb : mayB l with
    | false => rfl
    | true =>
      have hm := (mayB_iff l).1 hmb
      have ht := takeS_len (l := l) (x := x) hll
      simp only [Bool.not_true, cond_false, Option.bind_some, i_who l (by omega), i_take l (by omega) x]
      have ek : (x.1, x.2.1.1, x.2.1.2.1, x.2.1.2.2) = lk x := rfl
      rw [ek]
      generalize hA : (takeS l x).1 = a at ht ⊢
      -- take tells what who tells
      have hw : (takeS l x).2 = (!(whoS l (lk x)).2 || decide ((whoS l (lk x)).1 = x.2.2)) := by
        unfold takeS whoS
        rw [hmb]
        cases findK l (lk x) with
        | none => rfl
        | some y => by_cases ho : y.2.2 = x.2.2 <;> simp [ho]
      have hcheck : ∀ (R : Type) (u v : R), (bif !(whoS l (lk x)).2 then (bif !((takeS l x).2 == true) then u else v) else (bif !((takeS l x).2 == ((whoS l (lk x)).1 == x.2.2)) then u else v)) = v := by
        intro R u v
        rw [hw]
        cases (whoS l (lk x)).2 with
        | false => rfl
        | true => by_cases ho : (whoS l (lk x)).1 = x.2.2 <;> simp [ho, Bool.cond_eq_ite]
      rw [hcheck]
      simp only [Option.bind_some]
      cases hok : (takeS l x).2 with
      | false =>
        have : a = [] := by rw [← hA]; exact take_no hok
        subst this
        rfl
      | true =>
        obtain ⟨am, ai⟩ := take_yes hm hok
        rw [hA] at am ai
        have hxa : x ∈ a := (ai x).2 (.inl rfl)
        let y : tLT := (x.1, x.2.1, other)
        have hyk : lk y = lk x := rfl
        obtain ⟨fm, fi⟩ := free_may am x.2.2
        have hfl := freeS_len (l := a) (o := x.2.2)
        have hfy : ∀ z ∈ freeS a x.2.2, lk z ≠ lk y := fun z hz e => by
          obtain ⟨z1, z2⟩ := (fi z).1 hz
          rw [may_uniq am z1 hxa e] at z2
          exact z2 rfl
        have hbok : (takeS (freeS a x.2.2) y).2 = true := (take_can fm y).2 fun z hz e => absurd e (hfy z hz)
        obtain ⟨bm, bi⟩ := take_yes fm hbok
        have hbl := (takeS_len (l := freeS a x.2.2) (x := y))
        have hbl' : (takeS (freeS a x.2.2) y).1.length ≤ 102 := by
          unfold takeS
          split
          · cases findK (freeS a x.2.2) (lk y) with
            | none => have := putS_len y (freeS a x.2.2); simp only; omega
            | some z => simp only; split <;> simp <;> omega
          · simp
        have htoo : (takeS a y).2 = decide (other = x.2.2) := by
          by_cases ho : other = x.2.2
          · rw [(take_can am y).2 fun z hz e => by rw [may_uniq am hz hxa e]; exact ho.symm]; simp [ho]
          · rw [Bool.eq_false_iff.2 fun e => ho ((take_can am y).1 e x hxa rfl).symm]; simp [ho]
        have hy : ∀ q : List tLT, f12.F (q, x.1, x.2.1.1, x.2.1.2.1, x.2.1.2.2, other, ()) = f12.F (q, y.1, y.2.1.1, y.2.1.2.1, y.2.1.2.2, y.2.2, ()) := fun _ => rfl
        have w1 := i_who a (by omega) x.1 x.2.1.1 x.2.1.2.1 x.2.1.2.2
        rw [ek, who_of am hxa] at w1
        have w2 := i_who (takeS (freeS a x.2.2) y).1 (by omega) x.1 x.2.1.1 x.2.1.2.1 x.2.1.2.2
        rw [ek, ← hyk, who_of bm ((bi y).2 (.inl rfl))] at w2
        simp only [Bool.not_true, cond_false, w1, hy, i_take a (by omega) y, i_take (freeS a x.2.2) (by omega) y, i_free a (by omega), i_free l (by omega), Option.bind_some, w2, i_may a (by omega), i_may _ (show (takeS (freeS a x.2.2) y).1.length < 9223372036854775807 by omega), (mayB_iff a).2 am, (mayB_iff _).2 bm, cond_true]
        -- the others' locks
        have hkeep : ∀ z ∈ l, whoS (freeS a x.2.2) (lk z) = if z.2.2 = x.2.2 then (0, false) else (z.2.2, true) := by
          intro z hz
          have hza : z ∈ a := (ai z).2 (.inr hz)
          by_cases ho : z.2.2 = x.2.2
          · rw [if_pos ho]
            refine who_not fun q hq e => ?_
            obtain ⟨q1, q2⟩ := (fi q).1 hq
            rw [may_uniq am q1 hza e] at q2
            exact q2 ho
          · rw [if_neg ho]
            exact who_of fm ((fi z).2 ⟨hza, ho⟩)
        have hsame : freeS a x.2.2 = freeS l x.2.2 := by
          obtain ⟨gm, gi⟩ := free_may hm x.2.2
          refine may_ext fm gm fun z => ?_
          rw [fi, gi, ai]
          constructor
          · rintro ⟨rfl | h, h2⟩
            · exact absurd rfl h2
            · exact ⟨h, h2⟩
          · rintro ⟨h, h2⟩
            exact ⟨.inr h, h2⟩
        have hsm := same_s (freeS a x.2.2) (freeS l x.2.2) (by omega) (by rw [← hsame]; omega)
        rw [hsm]
        refine (loop_TB (fun i (_ : Unit) => (i, ())) l (fun _ _ => True) (fun _ _ => .inl ()) (fun _ => (.inl () : Unit ⊕ (Bool × Unit))) (fun i hi _ _ => ⟨?_, fun _ _ => trivial⟩) (fun _ _ => ?_) () trivial).trans ?_
        · have a1 : (i : Int) < l.length := by omega
          have a2 : (0 : Int) ≤ i := by omega
          simp only [wrap_s hi (by omega), Int.toNat_natCast, getD_at hi, a1, a2, decide_true, Bool.and_true, cond_true]
          have w3 := i_who (freeS a x.2.2) (by omega) (l[i]).1 (l[i]).2.1.1 (l[i]).2.1.2.1 (l[i]).2.1.2.2
          have e3 : ((l[i]).1, (l[i]).2.1.1, (l[i]).2.1.2.1, (l[i]).2.1.2.2) = lk l[i] := rfl
          rw [e3, hkeep l[i] (List.getElem_mem hi)] at w3
          simp only [w3, Option.bind_some]
          by_cases ho : (l[i]).2.2 = x.2.2 <;> simp [ho, Bool.cond_eq_ite]
        · simp
        · have : ∀ r : List tLT, foldT (R := Unit ⊕ (Bool × Unit)) (fun (_ : tLT) (_ : Unit) => .inl ()) (fun _ => .inl ()) r () = .inl () := by
            intro r
            induction r with
            | nil => rfl
            | cons a r ih => rw [foldT]; exact ih
          rw [this, htoo]
          have h5 : (other == x.2.2) = decide (other = x.2.2) := by by_cases h : other = x.2.2 <;> simp [h]
          have h6 : (y.2.2 == other) = true := by simp [y]
          rw [hbok]
          simp [hsame, h5, y]
end Go.Proofs.Ytmpoopidlojdbaa
