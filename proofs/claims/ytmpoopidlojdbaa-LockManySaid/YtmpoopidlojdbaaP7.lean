import Derived.Test.YtmpoopidlojdbaaP6
set_option linter.all false
set_option linter.unusedVariables false
set_option linter.unusedSimpArgs false
set_option linter.unusedSectionVars false
namespace Go.Proofs.Ytmpoopidlojdbaa
open Go Lv Go.Proofs Go.RowKit

theorem takeS_le (l : List tLT) (x : tLT) : (takeS l x).1.length ≤ l.length + 1 := by
  unfold takeS
  split
  · cases findK l (lk x) with
    | none => exact putS_len x l
    | some y => simp only; split <;> simp
  · simp
/-! ### LockOrder -/
theorem pure6 (x : ArgT [(.sl 26 tL, false), (tL, true), (tL, true)]) (h : argIn PP _ x) : f6.F (argX 0 _ x) = some (true, ()) := by
  obtain ⟨l, x, y, u⟩ := x
  obtain ⟨⟨hl, _⟩, _⟩ := h
  have hl : l.length < 9223372036854775807 := len_of (b := 56) (by kernel_rfl) (by decide) hl
  show f6.F (l, x.1, x.2.1.1, x.2.1.2.1, x.2.1.2.2, x.2.2, y.1, y.2.1.1, y.2.1.2.1, y.2.1.2.2, y.2.2, ()) = _
  rw [f6.eq]
  simp only [f6.B, small_s l hl, Option.bind_some, fixed_s, Bool.not_true, cond_false, ref_may l hl]
  cases hs : smallS l with
  | false => rfl
  | true =>
    have hll := small_len hs
    cases hmb : mayB l with
    | false => rfl
    | true =>
      have hm := (mayB_iff l).1 hmb
      by_cases ho : x.2.2 = y.2.2
      · have e0 : (x.2.2 != y.2.2) = false := by simp [ho]
        have la := takeS_le l x
        have lb := takeS_le (takeS l x).1 y
        have lc := takeS_le l y
        have ld := takeS_le (takeS l y).1 x
        have le := takeS_le (takeS (takeS l y).1 x).1 x
        simp only [Bool.not_true, cond_false, Option.bind_some, e0, i_take l (by omega) x, i_take (takeS l x).1 (by omega) y, i_take l (by omega) y, i_take (takeS l y).1 (by omega) x, i_take (takeS (takeS l y).1 x).1 (by omega) x]
        -- taken, or not
        have key : ∀ u v : tLT, u.2.2 = v.2.2 → (takeS l u).2 = true → ((takeS (takeS l u).1 v).2 = true ↔ (takeS l v).2 = true) := by
          intro u v huv hu
          obtain ⟨am, ai⟩ := take_yes hm hu
          rw [take_can am, take_can hm]
          constructor
          · intro h z hz e; exact h z ((ai z).2 (.inr hz)) e
          · intro h z hz e
            rcases (ai z).1 hz with rfl | hz
            · exact huv
            · exact h z hz e
        cases hp : (takeS l x).2 with
        | false =>
          cases hr : (takeS l y).2 with
          | false => rfl
          | true =>
            have : (takeS (takeS l y).1 x).2 = false := by
              rw [Bool.eq_false_iff]
              intro h'
              have := (key y x ho.symm hr).1 h'
              rw [hp] at this; cases this
            simp [this]
        | true =>
          have k1 := key x y ho hp
          cases hr : (takeS l y).2 with
          | false =>
            have : (takeS (takeS l x).1 y).2 = false := by
              rw [Bool.eq_false_iff]
              intro h'
              have := k1.1 h'
              rw [hr] at this; cases this
            simp [this]
          | true =>
            have q1 := k1.2 hr
            have s1 := (key y x ho.symm hr).2 hp
            obtain ⟨am, ai⟩ := take_yes hm hp
            obtain ⟨cm, ci⟩ := take_yes hm hr
            obtain ⟨bm, bi⟩ := take_yes am q1
            obtain ⟨dm, di⟩ := take_yes cm s1
            have t1 : (takeS (takeS (takeS l y).1 x).1 x).2 = true := (take_can dm x).2 fun z hz e => by
              rw [may_uniq dm hz ((di x).2 (.inl rfl)) e]
            obtain ⟨em, ei⟩ := take_yes dm t1
            have e1 : (takeS (takeS l x).1 y).1 = (takeS (takeS l y).1 x).1 := may_ext bm dm fun z => by
              rw [bi, di, ai, ci]
              constructor
              · rintro (h | h | h)
                · exact .inr (.inl h)
                · exact .inl h
                · exact .inr (.inr h)
              · rintro (h | h | h)
                · exact .inr (.inl h)
                · exact .inl h
                · exact .inr (.inr h)
            have e2 : (takeS (takeS (takeS l y).1 x).1 x).1 = (takeS (takeS l y).1 x).1 := may_ext em dm fun z => by
              rw [ei]
              exact ⟨fun h => h.elim (fun e => by rw [e]; exact (di x).2 (.inl rfl)) id, .inr⟩
            have f1 := same_refl (takeS (takeS l y).1 x).1 (by omega)
            simp [q1, s1, t1, e1, e2, f1]
      · have e0 : (x.2.2 != y.2.2) = true := by simpa using ho
        simp [e0]

/-! ### LockMany -/
def lkN (n a : Int) : tLT := ((⟨#[116]⟩ : ByteArray), ((2, n, (⟨#[]⟩ : ByteArray)), a))
theorem cmp_lkN (m n a b : Int) : cmpK (lk (lkN m a)) (lk (lkN n b)) = cmpI m n := by
  unfold cmpK lk lkN cmpV
  simp only
  have : cmpB (⟨#[116]⟩ : ByteArray) (⟨#[116]⟩ : ByteArray) = 0 := cmpB_3.refl _
  have h2 : cmpI (2 : Int) 2 = 0 := cmpI_3.refl _
  have h3 : cmpB (⟨#[]⟩ : ByteArray) (⟨#[]⟩ : ByteArray) = 0 := cmpB_3.refl _
  rw [this, h2, h3]
  unfold cmpOr
  by_cases h : cmpI m n = 0 <;> simp [h]
def manyL (n a : Int) : Nat → List tLT
  | 0 => []
  | i + 1 => lkN (n - i) a :: manyL n a i
theorem many_len (n a : Int) : ∀ i, (manyL n a i).length = i
  | 0 => rfl
  | i + 1 => by simp [manyL, many_len n a i]
theorem many_mem (n a : Int) : ∀ (i : Nat) z, z ∈ manyL n a i → ∃ j : Nat, j < i ∧ z = lkN (n - j) a
  | 0, z, h => by cases h
  | i + 1, z, h => by
    rcases List.mem_cons.1 h with rfl | h
    · exact ⟨i, by omega, rfl⟩
    · obtain ⟨j, h1, h2⟩ := many_mem n a i z h
      exact ⟨j, by omega, h2⟩
theorem cmpI_lt {a b : Int} : cmpI a b < 0 ↔ a < b := by unfold cmpI; (repeat' split) <;> omega
theorem many_may (n a : Int) : ∀ i, May (manyL n a i)
  | 0 => List.Pairwise.nil
  | i + 1 => List.pairwise_cons.2 ⟨fun z hz => by
      obtain ⟨j, h1, rfl⟩ := many_mem n a i z hz
      rw [cmp_lkN, cmpI_lt]; omega, many_may n a i⟩
theorem many_not (n a : Int) (i : Nat) : ∀ z ∈ manyL n a i, lk z ≠ lk (lkN (n - i) a) := fun z hz e => by
  obtain ⟨j, h1, rfl⟩ := many_mem n a i z hz
  have := cmp_lkN (n - j) (n - i) a a
  rw [e, cmpK_3.refl] at this
  have := (cmpI_3.eq (n - j) (n - i)).1 this.symm
  omega
theorem many_take (n a : Int) (i : Nat) : takeS (manyL n a i) (lkN (n - i) a) = (manyL n a (i + 1), true) := by
  unfold takeS
  rw [if_pos ((mayB_iff _).2 (many_may n a i)), find_not (many_not n a i)]
  simp only [manyL]
  congr 1
  cases hi : manyL n a i with
  | nil => rfl
  | cons z r =>
    have hz : z ∈ manyL n a i := by rw [hi]; exact List.mem_cons_self
    obtain ⟨j, h1, rfl⟩ := many_mem n a i z hz
    rw [putS, if_neg (by rw [cmp_lkN, cmpI_lt]; omega)]
    congr 1
    rw [List.filter_eq_self]
    intro q hq
    have := many_not n a i q (by rw [hi]; exact hq)
    simp only [decide_eq_true_eq]
    exact fun e => this ((cmpK_3.eq _ _).1 e)
theorem many_no {n a b : Int} (hab : a ≠ b) (i : Nat) : (takeS (manyL n a (i + 1)) (lkN (n - i) b)).2 = false := by
  rw [Bool.eq_false_iff]
  intro h
  exact hab ((take_can (many_may n a (i + 1)) _).1 h (lkN (n - i) a) List.mem_cons_self rfl)
theorem many_s (n a b : Int) : f7.F (n, a, b, ()) = some (true, ()) := by
  rw [f7.eq]
  simp only [f7.B, Option.bind_some, fixed_s, Bool.not_true, cond_false]
  by_cases h0 : n < 0
  · simp [h0]
  · by_cases h6 : n > 60
    · simp [h0, h6]
    · by_cases hab : a = b
      · subst hab; simp [h0, h6]
      · have e0 : (a == b) = false := by simpa using hab
        simp only [h0, h6, e0, decide_false, cond_false, Option.bind_some]
        obtain ⟨m, rfl⟩ : ∃ m : Nat, n = m := ⟨n.toNat, by omega⟩
        refine (loop_TB (fun i (st : List tLT) => (st, i, ())) (List.replicate m ()) (fun i st => st = manyL m a i) (fun _ st => .inl (manyL m a (st.length + 1))) (fun st => (.inl (st, ()) : (List tLT × Unit) ⊕ (Bool × Unit))) (fun i hi st hI => ⟨?_, fun st' h => ?_⟩) (fun st hI => ?_) [] rfl).trans ?_
        · have hi' : i < m := by simpa using hi
          subst hI
          have hlen := many_len m a i
          have a1 : (i : Int) < (m : Int) := by omega
          have e1 : IntKind.i64.wrap ((m : Int) - (i : Int)) = (m : Int) - i := by rw [i64_wrap] <;> omega
          have t1 : f12.F (manyL m a i, (⟨#[116]⟩ : ByteArray), 2, (m : Int) - i, (⟨#[]⟩ : ByteArray), a, ()) = some (true, manyL m a (i + 1), ()) := by
            refine (i_take (manyL m a i) (by omega) (lkN (m - i) a)).trans ?_
            rw [many_take]
          have t2 : f12.F (manyL m a (i + 1), (⟨#[116]⟩ : ByteArray), 2, (m : Int) - i, (⟨#[]⟩ : ByteArray), b, ()) = some (false, (takeS (manyL m a (i + 1)) (lkN (m - i) b)).1, ()) := by
            refine (i_take (manyL m a (i + 1)) (by rw [many_len]; omega) (lkN (m - i) b)).trans ?_
            rw [many_no hab]
          have a2 : (((manyL m a (i + 1)).length : Nat) : Int) = ((i + 1 : Nat) : Int) := by rw [many_len]
          simp only [a1, decide_true, cond_true, e1, int_s, Option.bind_some, t1, t2, Bool.not_true, cond_false, wrap_s hi' (by omega : m < 9223372036854775808), a2, hlen, bne_self_eq_false]
        · cases h
          subst hI
          rw [many_len]
        · have : ¬ (((List.replicate m ()).length : Nat) : Int) < (m : Int) := by simp
          simp only [this, decide_false, cond_false]
        · have : ∀ (k i : Nat), foldT (R := (List tLT × Unit) ⊕ (Bool × Unit)) (fun (_ : Unit) st => .inl (manyL m a (st.length + 1))) (fun st => .inl (st, ())) (List.replicate k ()) (manyL m a i) = .inl (manyL m a (i + k), ()) := by
            intro k
            induction k with
            | zero => intro i; rfl
            | succ k ih =>
              intro i
              rw [List.replicate_succ, foldT, many_len]
              refine (ih (i + 1)).trans ?_
              congr 3; omega
          have h7 := this m 0
          rw [Nat.zero_add] at h7
          have h8 : manyL m a 0 = [] := rfl
          rw [h8] at h7
          rw [h7]
          have hm := many_may m a m
          have hlen := many_len m a m
          have fa : freeS (manyL m a m) a = [] := by
            unfold freeS
            rw [if_pos ((mayB_iff _).2 hm), List.filter_eq_nil_iff]
            intro z hz
            obtain ⟨j, _, rfl⟩ := many_mem m a m z hz
            simp [lkN]
          have fb : freeS (manyL m a m) b = manyL m a m := by
            unfold freeS
            rw [if_pos ((mayB_iff _).2 hm), List.filter_eq_self]
            intro z hz
            obtain ⟨j, _, rfl⟩ := many_mem m a m z hz
            exact decide_eq_true (show ¬ a = b from hab)
          simp only [i_may _ (show (manyL m a m).length < 9223372036854775807 by omega), (mayB_iff _).2 hm, i_free _ (show (manyL m a m).length < 2513169434915 by omega), fa, fb, Option.bind_some, cond_true, hlen]
          simp
theorem pure7 (x : ArgT [(.int .i64, false), (.int .i64, false), (.int .i64, false)]) (h : argIn PP _ x) : f7.F (argX 0 _ x) = some (true, ()) := many_s x.1 x.2.1 x.2.2.1
end Go.Proofs.Ytmpoopidlojdbaa
