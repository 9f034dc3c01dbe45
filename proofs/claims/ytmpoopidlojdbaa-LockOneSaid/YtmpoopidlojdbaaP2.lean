import Derived.Test.YtmpoopidlojdbaaFns
import Derived.Test.YtmpoopidlojdbaaP1
set_option linter.all false
set_option linter.unusedVariables false
set_option linter.unusedSimpArgs false
set_option linter.unusedSectionVars false
namespace Go.Proofs.Ytmpoopidlojdbaa
open Go Lv Go.Proofs Go.RowKit

def cmpV (x y : tVT) : Int := cmpOr (cmpI x.1 y.1) (cmpOr (cmpI x.2.1 y.2.1) (cmpB x.2.2 y.2.2))
theorem cmpV_3 : Cmp3 cmpV := cmpI_3.pair (cmpI_3.pair cmpB_3)
def cmpK (x y : ByteArray × tVT) : Int := cmpOr (cmpB x.1 y.1) (cmpV x.2 y.2)
theorem cmpK_3 : Cmp3 cmpK := cmpB_3.pair cmpV_3
def lk (x : tLT) : ByteArray × tVT := (x.1, x.2.1)

theorem ref_cmpV (a b : Int) (c : ByteArray) (d e : Int) (f : ByteArray) : f37.F (a, b, c, d, e, f, ()) = some (cmpV (a, b, c) (d, e, f), ()) := by
  rw [f37.eq]
  simp only [f37.B, less_cmpB, beq_cmpB, cmpV, cmpOr, cmpI]
  simp only [Bool.cond_eq_ite, bne_iff_ne, decide_eq_true_eq, Bool.not_eq_true', Bool.or_eq_false_iff, decide_eq_false_iff_not, ne_eq]
  have h3 := cmpB_3.eq c f
  have h4 := cmpB_val c f
  by_cases h1 : a = d
  · subst h1
    by_cases h2 : b = e
    · subst h2
      simp only [not_true_eq_false, if_false, Int.lt_irrefl]
      rcases h4 with h4 | h4 | h4 <;> rw [h4] at h3 ⊢ <;> simp_all
    · have : b < e ∨ e < b := by omega
      rcases this with h | h
      · simp [h2, h]
      · have h' : ¬ b < e := by omega
        simp [h2, h, h']
  · have : a < d ∨ d < a := by omega
    rcases this with h | h
    · simp [h1, h]
    · have h' : ¬ a < d := by omega
      simp [h1, h, h']
theorem ref_cmpK (a : ByteArray) (b c : Int) (d : ByteArray) (e : Int) (a' : ByteArray) (b' c' : Int) (d' : ByteArray) (e' : Int) :
    f27.F (a, b, c, d, e, a', b', c', d', e', ()) = some (cmpK (a, b, c, d) (a', b', c', d'), ()) := by
  rw [f27.eq]
  simp only [f27.B, less_cmpB, beq_cmpB, ref_cmpV, Option.bind_some, cmpK, cmpOr]
  have h3 := cmpB_3.eq a a'
  rcases cmpB_val a a' with h4 | h4 | h4 <;> simp_all

theorem i_cmp (a b : Int) : f42.F (a, b, ()) = some (cmpI a b, ()) := by
  rw [f42.eq]
  simp only [f42.B, f55.eq, f55.B, Option.bind_some, cmpI]
  simp only [Bool.cond_eq_ite, bne_iff_ne, ne_eq, not_true_eq_false, if_false, decide_eq_true_eq]
  by_cases h1 : a < b <;> by_cases h2 : a > b <;> simp [h1, h2]
def firstNZ : List Int → Int
  | [] => 0
  | a :: r => if a ≠ 0 then a else firstNZ r
theorem i_or (l : List Int) (hl : l.length < 9223372036854775807) : f32.F (l, ()) = some (firstNZ l, ()) := by
  rw [f32.eq]
  refine (loop_l0 (fun i (_ : Unit) => (i, ())) l hl (fun a _ => if a ≠ 0 then some (.inr (a, ())) else some (.inl ())) (fun _ => some (0, ())) (fun i hi _ => ?_) (fun _ => ?_) ()).trans ?_
  · have e2 : IntKind.i64.wrap ((i : Int) + 1) = ((i + 1 : Nat) : Int) := by rw [i64_wrap] <;> omega
    have a1 : (i : Int) < l.length := by omega
    have a2 : (0 : Int) ≤ i := by omega
    simp only [e2, Int.toNat_natCast, getD_at hi, a1, a2, decide_true, Bool.and_true, cond_true, Bool.cond_eq_ite, bne_iff_ne]
    by_cases h : l[i] = 0 <;> simp [h]
  · simp
  · clear hl
    induction l with
    | nil => rfl
    | cons a r ih =>
      rw [foldS, firstNZ]
      by_cases h : a = 0
      · rw [if_neg (by simpa using h), if_neg (by simpa using h)]; exact ih
      · rw [if_pos h, if_pos h]
theorem i_or2 (a b : Int) : f32.F ([a, b], ()) = some (cmpOr a b, ()) := by
  rw [i_or _ (by simp)]
  simp only [firstNZ, cmpOr]
  by_cases h : a = 0 <;> by_cases h' : b = 0 <;> simp [h, h']
theorem i_or3 (a b c : Int) : f32.F ([a, b, c], ()) = some (cmpOr a (cmpOr b c), ()) := by
  rw [i_or _ (by simp)]
  simp only [firstNZ, cmpOr]
  by_cases h : a = 0 <;> by_cases h' : b = 0 <;> by_cases h'' : c = 0 <;> simp [h, h', h'']
theorem i_cmpV (a b : Int) (c : ByteArray) (d e : Int) (f : ByteArray) : f34.F (a, b, c, d, e, f, ()) = some (cmpV (a, b, c) (d, e, f), ()) := by
  rw [f34.eq]
  simp only [f34.B, i_cmp, h33.eq, h33.B, i_or3, Option.bind_some, cmpV]
  rfl
theorem i_cmpK (a : ByteArray) (b c : Int) (d : ByteArray) (e : Int) (a' : ByteArray) (b' c' : Int) (d' : ByteArray) (e' : Int) :
    f23.F (a, b, c, d, e, a', b', c', d', e', ()) = some (cmpK (a, b, c, d) (a', b', c', d'), ()) := by
  rw [f23.eq]
  simp only [f23.B, i_cmpV, h33.eq, h33.B, i_or2, Option.bind_some, cmpK]
  rfl

/-! ### May -/
def mayB : List tLT → Bool
  | a :: b :: r => decide (cmpK (lk a) (lk b) < 0) && mayB (b :: r)
  | _ => true
def May (l : List tLT) : Prop := l.Pairwise fun a b => cmpK (lk a) (lk b) < 0
theorem mayB_iff : ∀ l, mayB l = true ↔ May l
  | [] => by simp [mayB, May]
  | [a] => by simp [mayB, May]
  | a :: b :: r => by
    rw [mayB, Bool.and_eq_true, mayB_iff (b :: r), decide_eq_true_eq]
    unfold May
    rw [List.pairwise_cons (a := a)]
    constructor
    · rintro ⟨h1, h2⟩
      refine ⟨fun x hx => ?_, h2⟩
      rcases List.mem_cons.1 hx with rfl | hx
      · exact h1
      · exact cmpK_3.trans _ _ _ h1 ((List.pairwise_cons.1 h2).1 x hx)
    · rintro ⟨h1, h2⟩
      exact ⟨h1 b List.mem_cons_self, h2⟩

theorem drop_at {α : Type} {l : List α} {i : Nat} (h : i < l.length) : l.drop i = l[i] :: l.drop (i + 1) := List.drop_eq_getElem_cons h
/-- the loop of May, whichever comparison -/
theorem may_loop (l : List tLT) (hl : l.length < 9223372036854775807) {body : Int × Unit → Option ((Int × Unit) ⊕ (Bool × Unit))}
    (h : ∀ (i : Nat) (hi : i + 1 < l.length), body ((i + 1 : Nat), ()) = if cmpK (lk l[i]) (lk l[i + 1]) ≥ 0 then some (.inr (false, ())) else some (.inl ((i + 2 : Nat), ())))
    (h' : ∀ i : Nat, l.length ≤ i → body ((i : Nat), ()) = some (.inr (true, ()))) : loopM body ((1 : Int), ()) = some (mayB l, ()) := by
  have go : ∀ (k i : Nat), l.length - (i + 1) = k → loopM body ((i + 1 : Nat), ()) = some (mayB (l.drop i), ()) := by
    intro k
    induction k with
    | zero =>
      intro i hi
      rw [loopM_eq, h' _ (by omega)]
      by_cases h0 : i < l.length
      · rw [drop_at h0, List.drop_of_length_le (by omega)]; rfl
      · rw [List.drop_of_length_le (by omega)]; rfl
    | succ k ih =>
      intro i hi
      have h1 : i + 1 < l.length := by omega
      rw [loopM_eq, h i h1, drop_at (by omega : i < l.length), drop_at h1, mayB]
      by_cases hc : cmpK (lk l[i]) (lk l[i + 1]) ≥ 0
      · have : ¬ cmpK (lk l[i]) (lk l[i + 1]) < 0 := by omega
        simp [this, hc]
      · have : cmpK (lk l[i]) (lk l[i + 1]) < 0 := by omega
        simp only [this, decide_true, Bool.true_and, if_neg hc]
        rw [ih (i + 1) (by omega), drop_at h1]
  exact go _ 0 rfl
theorem ref_may (l : List tLT) (hl : l.length < 9223372036854775807) : f15.F (l, ()) = some (mayB l, ()) := by
  rw [f15.eq]
  refine may_loop l hl (fun i hi => ?_) (fun i hi => ?_)
  · have e1 : IntKind.i64.wrap (((i + 1 : Nat) : Int) - 1) = (i : Int) := by rw [i64_wrap] <;> omega
    have e2 : IntKind.i64.wrap (((i + 1 : Nat) : Int) + 1) = ((i + 2 : Nat) : Int) := by rw [i64_wrap] <;> omega
    simp only [e1, e2, cond_dec, Int.toNat_natCast, getD_at hi, getD_at (by omega : i < l.length), ref_cmpK, Option.bind_some]
    have a1 : ((i + 1 : Nat) : Int) < l.length := by omega
    have a2 : (0 : Int) ≤ i := by omega
    have a3 : (i : Int) < l.length := by omega
    have a4 : (0 : Int) ≤ ((i + 1 : Nat) : Int) := by omega
    simp only [a1, a2, a3, a4, decide_true, Bool.and_true, cond_true, if_true]
    rfl
  · have a1 : ¬ ((i : Nat) : Int) < l.length := by omega
    simp only [a1, decide_false, cond_false]

theorem i_may (l : List tLT) (hl : l.length < 9223372036854775807) : f14.F (l, ()) = some (mayB l, ()) := by
  rw [f14.eq]
  refine may_loop l hl (fun i hi => ?_) (fun i hi => ?_)
  · have e1 : IntKind.i64.wrap (((i + 1 : Nat) : Int) - 1) = (i : Int) := by rw [i64_wrap] <;> omega
    have e2 : IntKind.i64.wrap (((i + 1 : Nat) : Int) + 1) = ((i + 2 : Nat) : Int) := by rw [i64_wrap] <;> omega
    simp only [e1, e2, cond_dec, Int.toNat_natCast, getD_at hi, getD_at (by omega : i < l.length), i_cmpK, Option.bind_some]
    have a1 : ((i + 1 : Nat) : Int) < l.length := by omega
    have a2 : (0 : Int) ≤ i := by omega
    have a3 : (i : Int) < l.length := by omega
    have a4 : (0 : Int) ≤ ((i + 1 : Nat) : Int) := by omega
    simp only [a1, a2, a3, a4, decide_true, Bool.and_true, cond_true, if_true]
    rfl
  · have a1 : ¬ ((i : Nat) : Int) < l.length := by omega
    simp only [a1, decide_false, cond_false]

/-! ### Who -/
def findK (l : List tLT) (k : ByteArray × tVT) : Option tLT := l.find? fun x => decide (lk x = k)
def whoS (l : List tLT) (k : ByteArray × tVT) : Int × Bool := if mayB l = true then (match findK l k with | some x => (x.2.2, true) | none => (0, false)) else (0, false)
theorem tV_eq (x y : tVT) : Ty.eq tV x y = decide (x = y) := by
  by_cases h : x = y
  · rw [(Ty.eq_dec tV rfl x y).2 h]; simp [h]
  · rw [Bool.eq_false_iff.2 fun e => h ((Ty.eq_dec tV rfl x y).1 e)]; simp [h]
theorem tL_eq (x y : tLT) : Ty.eq tL x y = decide (x = y) := by
  by_cases h : x = y
  · rw [(Ty.eq_dec tL rfl x y).2 h]; simp [h]
  · rw [Bool.eq_false_iff.2 fun e => h ((Ty.eq_dec tL rfl x y).1 e)]; simp [h]
theorem ref_who (l : List tLT) (hl : l.length < 9223372036854775807) (a : ByteArray) (b c : Int) (d : ByteArray) : f11.F (l, a, b, c, d, ()) = some ((whoS l (a, b, c, d)).1, (whoS l (a, b, c, d)).2, ()) := by
  rw [f11.eq]
  refine (loop_l0 (fun i (_ : Unit) => (i, ())) l hl (fun x _ => if mayB l = true then (if lk x = (a, b, c, d) then some (.inr (x.2.2, true, ())) else some (.inl ())) else some (.inr (0, false, ()))) (fun _ => some (0, false, ())) (fun i hi _ => ?_) (fun _ => ?_) ()).trans ?_
  · have e2 : IntKind.i64.wrap ((i : Int) + 1) = ((i + 1 : Nat) : Int) := by rw [i64_wrap] <;> omega
    have a1 : (i : Int) < l.length := by omega
    have a2 : (0 : Int) ≤ i := by omega
    simp only [e2, Int.toNat_natCast, getD_at hi, a1, a2, decide_true, Bool.and_true, cond_true, ref_may l hl, Option.bind_some, beq_cmpB, tV_eq]
    cases mayB l with
    | false => simp
    | true =>
      simp only [cond_true, Option.bind_some, if_true]
      by_cases h1 : (l[i]).1 = a
      · by_cases h2 : (l[i]).2.1 = (b, c, d)
        · have : lk l[i] = (a, b, c, d) := by unfold lk; rw [h1, h2]
          simp only [h1, h2, decide_true, cond_true, if_pos this]
        · have : ¬ lk l[i] = (a, b, c, d) := fun e => h2 (congrArg Prod.snd e)
          simp only [h1, h2, decide_true, decide_false, cond_true, cond_false, if_neg this]
      · have : ¬ lk l[i] = (a, b, c, d) := fun e => h1 (congrArg Prod.fst e)
        simp only [h1, decide_false, cond_false, if_neg this]
  · simp
  · unfold whoS
    cases hm : mayB l with
    | false =>
      cases l with
      | nil => cases hm
      | cons x r => simp [foldS]
    | true =>
      simp only [if_true]
      clear hm hl
      unfold findK
      induction l with
      | nil => rfl
      | cons x r ih =>
        rw [foldS, List.find?_cons]
        by_cases h : lk x = (a, b, c, d)
        · simp [h]
        · simp only [h, decide_false, if_false]; exact ih

/-! ### The binary search -/
theorem i_bs (l : List tLT) (hl : l.length < 4611686018427387904) (a : ByteArray) (b c : Int) (d : ByteArray) (e : Int) : ∃ at_ : Nat, at_ ≤ l.length ∧
    f22.F (l, a, b, c, d, e, ()) = some ((at_ : Int), (if h : at_ < l.length then decide (cmpK (lk l[at_]) (a, b, c, d) = 0) else false), ()) ∧ (May l → ∀ k (hk : k < l.length), k < at_ ↔ cmpK (lk l[k]) (a, b, c, d) < 0) := by
  rw [f22.eq]
  refine (bs_bind l (fun x => cmpK (lk x) (a, b, c, d)) (fun i => (Sum.inl (i, ()) : (Int × Unit) ⊕ (Int × Bool × Unit))) (fun i j hj hi => ?_) (fun i j hj => ?_)).elim fun at_ ⟨k1, k2, k3⟩ => ⟨at_, k1, Eq.trans k2 ?_, fun hm => k3 fun p q hpq hq hc => ?_⟩
  · have a0 : (i : Int) < j := by omega
    have a1 : (0 : Int) ≤ ((i + j) / 2 : Nat) := by omega
    have a2 : (((i + j) / 2 : Nat) : Int) < l.length := by omega
    have a4 : (i + j) / 2 < l.length := by omega
    have a3 : ¬ ((1 : Int) < 0) := by decide
    have e2 : IntKind.i64.wrap ((((i + j) / 2 : Nat) : Int) + 1) = (((i + j) / 2 + 1 : Nat) : Int) := by rw [i64_wrap] <;> omega
    simp only [half_wrap (by omega : i + j < 9223372036854775808), e2, a0, a1, a2, a3, decide_true, decide_false, Bool.not_false, Bool.and_true, cond_true, Int.toNat_natCast, getD_at a4, i_cmpK, Option.bind_some, cond_dec]
    rfl
  · have a0 : ¬ (i : Int) < j := by omega
    simp only [a0, decide_false, cond_false]
  · by_cases h : at_ < l.length
    · have a1 : (at_ : Int) < l.length := by omega
      have a2 : (0 : Int) ≤ at_ := by omega
      simp only [Int.toNat_natCast, getD_at h, a1, a2, decide_true, Bool.and_true, cond_true, i_cmpK, Option.bind_some, dif_pos h]
      rfl
    · have a1 : ¬ (at_ : Int) < l.length := by omega
      simp only [a1, decide_false, cond_false, dif_neg h]
  · exact cmpK_3.trans _ _ _ (List.pairwise_iff_getElem.1 hm p q (by omega) hq hpq) hc

/-- where a key is, or isn't, in sorted locks -/
theorem find_at {l : List tLT} (hm : May l) {k : ByteArray × tVT} {at_ : Nat} (ha : ∀ j (hj : j < l.length), j < at_ ↔ cmpK (lk l[j]) k < 0) (hle : at_ ≤ l.length) :
    findK l k = if h : at_ < l.length then (if cmpK (lk l[at_]) k = 0 then some l[at_] else none) else none := by
  have hlo : ∀ j (hj : j < l.length), j < at_ → lk l[j] ≠ k := fun j hj h e => by
    have := (ha j hj).1 h
    rw [e, cmpK_3.refl] at this
    omega
  have hnone : (∀ j (hj : j < l.length), at_ ≤ j → lk l[j] ≠ k) → findK l k = none := fun h => by
    unfold findK
    rw [List.find?_eq_none]
    intro x hx
    obtain ⟨j, hj, rfl⟩ := List.mem_iff_getElem.1 hx
    simp only [decide_eq_true_eq]
    rcases Nat.lt_or_ge j at_ with h' | h'
    · exact hlo j hj h'
    · exact h j hj h'
  by_cases h : at_ < l.length
  · rw [dif_pos h]
    by_cases hc : cmpK (lk l[at_]) k = 0
    · rw [if_pos hc]
      unfold findK
      rw [List.find?_eq_some_iff_getElem]
      refine ⟨by simpa using (cmpK_3.eq _ _).1 hc, at_, h, rfl, fun j hj => ?_⟩
      simpa using hlo j (by omega) hj
    · rw [if_neg hc]
      refine hnone fun j hj hge e => ?_
      have h1 : ¬ cmpK (lk l[at_]) k < 0 := fun h' => by have := (ha at_ h).2 h'; omega
      by_cases he : j = at_
      · subst he; exact hc ((cmpK_3.eq _ _).2 e)
      · have := List.pairwise_iff_getElem.1 hm at_ j h hj (by omega)
        simp only [e] at this
        omega
  · rw [dif_neg h]
    exact hnone fun j hj hge => by omega
theorem i_who (l : List tLT) (hl : l.length < 4611686018427387904) (a : ByteArray) (b c : Int) (d : ByteArray) : f10.F (l, a, b, c, d, ()) = some ((whoS l (a, b, c, d)).1, (whoS l (a, b, c, d)).2, ()) := by
  obtain ⟨at_, k1, k2, k3⟩ := i_bs l hl a b c d 0
  rw [f10.eq]
  simp only [f10.B, k2, Option.bind_some, i_may l (by omega)]
  unfold whoS
  cases hm : mayB l with
  | false => by_cases h : at_ < l.length <;> simp [h]
  | true =>
    rw [find_at ((mayB_iff l).1 hm) (k3 ((mayB_iff l).1 hm)) k1]
    by_cases h : at_ < l.length
    · have a1 : (at_ : Int) < l.length := by omega
      have a2 : (0 : Int) ≤ at_ := by omega
      simp only [dif_pos h, a1, a2, decide_true, Bool.and_true, cond_true, Int.toNat_natCast, getD_at h, if_true, Bool.not_true, cond_false]
      by_cases hc : cmpK (lk l[at_]) (a, b, c, d) = 0
      · simp [hc]
      · simp [hc]
    · simp [dif_neg h]

/-! ### put, Take -/
def putS : List tLT → tLT → List tLT
  | [], x => [x]
  | y :: r, x => if cmpK (lk y) (lk x) < 0 then y :: putS r x else x :: (y :: r).filter fun z => decide (cmpK (lk z) (lk x) ≠ 0)
theorem ref_put (l : List tLT) (hl : l.length < 2513169434915) (x : tLT) : f26.F (l, x.1, x.2.1.1, x.2.1.2.1, x.2.1.2.2, x.2.2, ()) = some (putS l x, ()) := by
  rw [f26.eq]
  have hb : ∀ {n : Nat}, n + 1 ≤ l.length + 1 → Nat.ble (n + [x].length) 2513169434916 = true := fun h => Nat.ble_eq_true_of_le (by simp only [List.length_singleton]; omega)
  refine (loop_TB (fun i (st : Bool × List tLT) => (st.1, i, st.2, ())) l (fun i st => st.2.length ≤ i + (if st.1 = true then 1 else 0)) (fun y st =>
    .inl (st.1 || !decide (cmpK (lk y) (lk x) < 0), (if st.1 = true then st.2 else if cmpK (lk y) (lk x) < 0 then st.2 else st.2 ++ [x]) ++ (if cmpK (lk y) (lk x) ≠ 0 then [y] else [])))
    (fun st => (.inl (st.1, st.2, ()) : (Bool × List tLT × Unit) ⊕ (List tLT × Unit))) (fun i hi st hI => ⟨?_, fun st' h => ?_⟩) (fun st hI => ?_) (false, []) (Nat.zero_le _)).trans ?_
  · obtain ⟨b, o⟩ := st
    have a1 : (i : Int) < l.length := by omega
    have a2 : (0 : Int) ≤ i := by omega
    have a3 : ∀ y : tLT, Nat.ble (o.length + [y].length) 2513169434916 = true := fun y => Nat.ble_eq_true_of_le (by simp only [List.length_singleton]; simp only at hI; split at hI <;> omega)
    have a4 : b = false → ∀ y z : tLT, Nat.ble ((o ++ [z]).length + [y].length) 2513169434916 = true := fun hb y z => Nat.ble_eq_true_of_le (by subst hb; simp at hI ⊢; omega)
    simp only [wrap_s hi (by omega), Int.toNat_natCast, getD_at hi, a1, a2, decide_true, Bool.and_true, cond_true, ref_cmpK, Option.bind_some, a3]
    have e : ∀ y : tLT, (y.1, y.2.1.1, y.2.1.2.1, y.2.1.2.2) = lk y := fun _ => rfl
    simp only [e]
    by_cases h1 : cmpK (lk l[i]) (lk x) < 0
    · have h2 : ¬ cmpK (lk l[i]) (lk x) ≥ 0 := by omega
      have h3 : cmpK (lk l[i]) (lk x) ≠ 0 := by omega
      have a3 := a3 l[i]
      cases b <;> simp [Bool.cond_eq_ite, h1, h2, h3] at a3 ⊢ <;> simp [a3]
    · have h2 : cmpK (lk l[i]) (lk x) ≥ 0 := by omega
      have a6 := a3 l[i]
      have a7 := a3 x
      cases b with
      | true => by_cases h3 : cmpK (lk l[i]) (lk x) = 0 <;> simp [Bool.cond_eq_ite, h1, h2, h3] at a6 ⊢ <;> simp [a6]
      | false =>
        have a5 := a4 rfl l[i] x
        by_cases h3 : cmpK (lk l[i]) (lk x) = 0 <;> simp [Bool.cond_eq_ite, h1, h2, h3] at a5 a7 ⊢ <;> simp [a5, a7] <;> rfl
  · cases h
    obtain ⟨b, o⟩ := st
    cases b <;> by_cases h1 : cmpK (lk l[i]) (lk x) < 0 <;> by_cases h3 : cmpK (lk l[i]) (lk x) = 0 <;> simp [h1, h3] at hI ⊢ <;> omega
  · simp
  · have ht : ∀ (r o : List tLT), foldT (R := (Bool × List tLT × Unit) ⊕ (List tLT × Unit)) (fun y (st : Bool × List tLT) => .inl (st.1 || !decide (cmpK (lk y) (lk x) < 0), (if st.1 = true then st.2 else if cmpK (lk y) (lk x) < 0 then st.2 else st.2 ++ [x]) ++ (if cmpK (lk y) (lk x) ≠ 0 then [y] else []))) (fun st => .inl (st.1, st.2, ())) r (true, o) =
        .inl (true, o ++ r.filter fun z => decide (cmpK (lk z) (lk x) ≠ 0), ()) := by
      intro r
      induction r with
      | nil => intro o; simp [foldT]
      | cons y r ih =>
        intro o
        simp only [foldT, Bool.true_or, if_true]
        rw [ih]
        by_cases h3 : cmpK (lk y) (lk x) = 0 <;> simp [h3]
    have hf : ∀ (r o : List tLT), ∃ b o', foldT (R := (Bool × List tLT × Unit) ⊕ (List tLT × Unit)) (fun y (st : Bool × List tLT) => .inl (st.1 || !decide (cmpK (lk y) (lk x) < 0), (if st.1 = true then st.2 else if cmpK (lk y) (lk x) < 0 then st.2 else st.2 ++ [x]) ++ (if cmpK (lk y) (lk x) ≠ 0 then [y] else []))) (fun st => .inl (st.1, st.2, ())) r (false, o) =
        .inl (b, o', ()) ∧ (if b = true then o' = o ++ putS r x else o' = o ++ r ∧ putS r x = r ++ [x]) := by
      intro r
      induction r with
      | nil => intro o; exact ⟨false, o, rfl, by simp [putS]⟩
      | cons y r ih =>
        intro o
        simp only [foldT, Bool.false_or, Bool.false_eq_true, if_false]
        by_cases h1 : cmpK (lk y) (lk x) < 0
        · have h3 : cmpK (lk y) (lk x) ≠ 0 := by omega
          obtain ⟨b, o', k1, k2⟩ := ih (o ++ [y])
          refine ⟨b, o', by simpa [h1, h3] using k1, ?_⟩
          cases b <;> simp [putS, h1] at k2 ⊢ <;> simp [k2]
        · refine ⟨true, o ++ putS (y :: r) x, ?_, by simp⟩
          simp only [h1, decide_false, Bool.not_false, if_false]
          rw [ht]
          by_cases h3 : cmpK (lk y) (lk x) = 0 <;> simp [putS, h1, h3]
    obtain ⟨b, o', k1, k2⟩ := hf l []
    rw [k1]
    cases b with
    | true =>
      simp at k2
      simp [k2]
    | false =>
      simp at k2
      have : Nat.ble (l.length + 1) 2513169434916 = true := Nat.ble_eq_true_of_le (by omega)
      simp [k2, this]
/-! ### Take -/
def takeS (l : List tLT) (x : tLT) : List tLT × Bool := if mayB l = true then (match findK l (lk x) with
    | some y => if y.2.2 = x.2.2 then (l, true) else ([], false)
    | none => (putS l x, true)) else ([], false)
theorem ref_take (l : List tLT) (hl : l.length < 2513169434915) (x : tLT) : f13.F (l, x.1, x.2.1.1, x.2.1.2.1, x.2.1.2.2, x.2.2, ()) = some ((takeS l x).1, (takeS l x).2, ()) := by
  rw [f13.eq]
  simp only [f13.B, ref_may l (by omega), ref_who l (by omega), ref_put l hl x, Option.bind_some]
  unfold takeS whoS
  have e : (x.1, x.2.1.1, x.2.1.2.1, x.2.1.2.2) = lk x := rfl
  rw [e]
  cases hm : mayB l with
  | false => simp
  | true =>
    cases hf : findK l (lk x) with
    | none => simp
    | some y =>
      by_cases h : y.2.2 = x.2.2 <;> simp [h, Bool.cond_eq_ite]
theorem i_clone (l : List tLT) (hl : l.length < 2513169434916) : f25.F (l, ()) = some (l, ()) := by
  rw [f25.eq]
  have hb : Nat.ble l.length 2513169434916 = true := Nat.ble_eq_true_of_le (by omega)
  cases l with
  | nil => simp [f25.B, both, Bool.cond_eq_ite]
  | cons a r => simp at hb; simp [f25.B, hb, Bool.cond_eq_ite]
theorem i_ins (i : Nat) (l : List tLT) (x : tLT) (hi : i ≤ l.length) (hl : l.length < 2513169434916) : h24.F ((i : Int), l, [x], ()) = some (l.take i ++ [x] ++ l.drop i, ()) := by
  rw [h24.eq]
  have := insL_some (cap := 2513169434916) (i := (i : Int)) (s := l) (v := [x]) (by omega) (by simpa using hi) (by simp) (by simp; omega)
  rw [Int.toNat_natCast] at this
  exact this
theorem ins_put {l : List tLT} (hm : May l) {x : tLT} {at_ : Nat} (ha : ∀ j (hj : j < l.length), j < at_ ↔ cmpK (lk l[j]) (lk x) < 0) (hle : at_ ≤ l.length) (hn : findK l (lk x) = none) : l.take at_ ++ [x] ++ l.drop at_ = putS l x := by
  induction l generalizing at_ with
  | nil => simp at hle; subst hle; rfl
  | cons y r ih =>
    have h0 := ha 0 (by simp)
    simp only [List.getElem_cons_zero] at h0
    rw [putS]
    by_cases h1 : cmpK (lk y) (lk x) < 0
    · have hp := h0.2 h1
      obtain ⟨m, rfl⟩ : ∃ m, at_ = m + 1 := ⟨at_ - 1, by omega⟩
      rw [if_pos h1]
      have hn' : findK r (lk x) = none := by
        unfold findK at hn ⊢
        rw [List.find?_cons] at hn
        split at hn
        · cases hn
        · exact hn
      have := ih (List.pairwise_cons.1 hm).2 (at_ := m) (fun j hj => by have := ha (j + 1) (by simpa using hj); simpa using this) (by simpa using hle) hn'
      simp only [List.take_succ_cons, List.drop_succ_cons, List.cons_append, this]
    · have hp : at_ = 0 := by
        rcases Nat.eq_zero_or_pos at_ with h | h
        · exact h
        · exact absurd (h0.1 h) h1
      subst hp
      rw [if_neg h1]
      have : (y :: r).filter (fun z => decide (cmpK (lk z) (lk x) ≠ 0)) = y :: r := by
        rw [List.filter_eq_self]
        intro z hz
        unfold findK at hn
        have := List.find?_eq_none.1 hn z hz
        simp only [decide_eq_true_eq] at this ⊢
        exact fun e => this ((cmpK_3.eq _ _).1 e)
      rw [this]; rfl
theorem i_take (l : List tLT) (hl : l.length < 2513169434915) (x : tLT) : f12.F (l, x.1, x.2.1.1, x.2.1.2.1, x.2.1.2.2, x.2.2, ()) = some ((takeS l x).2, (takeS l x).1, ()) := by
  rw [f12.eq]
  obtain ⟨at_, k1, k2, k3⟩ := i_bs l (by omega) x.1 x.2.1.1 x.2.1.2.1 x.2.1.2.2 x.2.2
  simp only [f12.B, i_may l (by omega), k2, Option.bind_some, i_clone l (by omega)]
  unfold takeS
  have e : (x.1, x.2.1.1, x.2.1.2.1, x.2.1.2.2) = lk x := rfl
  rw [e] at k2 k3 ⊢
  cases hm : mayB l with
  | false => simp
  | true =>
    have hM := (mayB_iff l).1 hm
    have hf := find_at hM (k3 hM) k1
    by_cases h : at_ < l.length
    · have a1 : (at_ : Int) < l.length := by omega
      have a2 : (0 : Int) ≤ at_ := by omega
      by_cases hc : cmpK (lk l[at_]) (lk x) = 0
      · rw [dif_pos h, if_pos hc] at hf
        simp only [hf, dif_pos h, hc, a1, a2, decide_true, Bool.and_true, cond_true, Int.toNat_natCast, getD_at h, if_true, Bool.not_true, cond_false]
        by_cases ho : (l[at_]).2.2 = x.2.2 <;> simp [ho, Bool.cond_eq_ite]
      · rw [dif_pos h, if_neg hc] at hf
        simp only [hf, dif_pos h, hc, decide_false, Bool.not_false, cond_true, Bool.not_true, cond_false, if_true]
        rw [← ins_put hM (k3 hM) k1 hf]
        exact congrArg (fun z => Option.bind z fun y4 : List tLT × Unit => some (true, y4.1, ())) (i_ins at_ l x k1 (by omega))
    · rw [dif_neg h] at hf
      simp only [hf, dif_neg h, Bool.not_false, cond_true, Bool.not_true, cond_false, if_true]
      rw [← ins_put hM (k3 hM) k1 hf]
      exact congrArg (fun z => Option.bind z fun y4 : List tLT × Unit => some (true, y4.1, ())) (i_ins at_ l x k1 (by omega))
end Go.Proofs.Ytmpoopidlojdbaa
