import Derived.Test.YtmpoopidlojdbaaP3
set_option linter.all false
set_option linter.unusedVariables false
set_option linter.unusedSimpArgs false
set_option linter.unusedSectionVars false
namespace Go.Proofs.Ytmpoopidlojdbaa
open Go Lv Go.Proofs Go.RowKit

def wkey (w : tWT) : Option tLT := match w.2.2 with | [] => none | v :: _ => some (w.1, v, 0)
def keysL (w : List tWT) : List tLT := w.filterMap wkey
def putAll (l : List tLT) : List tLT := l.foldl putS []
theorem wkey_nil {w : tWT} (h : w.2.2 = []) : wkey w = none := by unfold wkey; rw [h]
theorem wkey_some {w : tWT} (h : 0 < w.2.2.length) : wkey w = some (w.1, w.2.2[0], 0) := by
  unfold wkey
  match hw : w.2.2, h with
  | v :: r, _ => simp
theorem putS_len (x : tLT) : ∀ l : List tLT, (putS l x).length ≤ l.length + 1
  | [] => by simp [putS]
  | y :: r => by
    rw [putS]
    split
    · have := putS_len x r; simp; omega
    · have := List.length_filter_le (fun z => decide (cmpK (lk z) (lk x) ≠ 0)) (y :: r)
      simp only [List.length_cons] at this ⊢; omega
theorem ref_keys (w : List tWT) (hl : w.length < 2513169434915) : f20.F (w, ()) = some (putAll (keysL w), ()) := by
  rw [f20.eq]
  refine (loop_T (fun i (st : List tLT) => (i, st, ())) w (fun i st => st.length ≤ i) (fun x st => .inl (match wkey x with | some k => putS st k | none => st)) (fun st => (st, ())) (fun i hi st hI => ⟨?_, fun st' h => ?_⟩) (fun st _ => ?_) [] (Nat.zero_le _)).trans ?_
  · have a1 : (i : Int) < w.length := by omega
    have a2 : (0 : Int) ≤ i := by omega
    have a0 : (0 : Int) ≤ 0 := Int.le_refl _
    simp only [wrap_s hi (by omega), Int.toNat_natCast, getD_at hi, a1, a2, a0, decide_true, Bool.and_true, Bool.true_and, cond_true]
    by_cases h : 0 < (w[i]).2.2.length
    · have h1 : (((w[i]).2.2.length : Nat) : Int) > 0 := by omega
      have h2 : (0 : Int) < (((w[i]).2.2.length : Nat) : Int) := by omega
      simp only [h1, h2, decide_true, cond_true, getD_at h, wkey_some h]
      rw [ref_put st (by omega) ((w[i]).1, (w[i]).2.2[0], 0)]
      rfl
    · have h1 : ¬ (((w[i]).2.2.length : Nat) : Int) > 0 := by omega
      have h2 : (w[i]).2.2 = [] := List.eq_nil_of_length_eq_zero (by omega)
      simp only [h1, decide_false, cond_false, wkey_nil h2]
  · cases h
    cases wkey w[i] with
    | none => simp only; omega
    | some k => have := putS_len k st; simp only; omega
  · simp
  · congr 1
    unfold putAll keysL
    generalize ([] : List tLT) = o
    clear hl
    induction w generalizing o with
    | nil => rfl
    | cons x r ih =>
      rw [foldT, List.filterMap_cons]
      cases hk : wkey x with
      | none => exact ih o
      | some k => rw [List.foldl_cons]; exact ih _

theorem may_put {l : List tLT} (hm : May l) (x : tLT) : May (putS l x) ∧ ∀ z, z ∈ putS l x ↔ z = x ∨ (z ∈ l ∧ cmpK (lk z) (lk x) ≠ 0) := by
  induction l with
  | nil => exact ⟨by simp [putS, May], fun z => by simp [putS]⟩
  | cons y r ih =>
    obtain ⟨h1, h2⟩ := List.pairwise_cons.1 hm
    obtain ⟨i1, i2⟩ := ih h2
    rw [putS]
    by_cases h : cmpK (lk y) (lk x) < 0
    · rw [if_pos h]
      refine ⟨List.pairwise_cons.2 ⟨fun z hz => ?_, i1⟩, fun z => ?_⟩
      · rcases (i2 z).1 hz with rfl | ⟨hz', _⟩
        · exact h
        · exact h1 z hz'
      · rw [List.mem_cons, i2, List.mem_cons]
        constructor
        · rintro (rfl | rfl | ⟨a, b⟩)
          · exact .inr ⟨.inl rfl, by omega⟩
          · exact .inl rfl
          · exact .inr ⟨.inr a, b⟩
        · rintro (rfl | ⟨rfl | a, b⟩)
          · exact .inr (.inl rfl)
          · exact .inl rfl
          · exact .inr (.inr ⟨a, b⟩)
    · rw [if_neg h]
      refine ⟨List.pairwise_cons.2 ⟨fun z hz => ?_, List.Pairwise.filter _ hm⟩, fun z => ?_⟩
      · obtain ⟨a, b⟩ := List.mem_filter.1 hz
        have b := of_decide_eq_true b
        have c := cmpK_3.anti (lk x) (lk z)
        by_cases hc : cmpK (lk z) (lk x) < 0
        · exfalso
          rcases List.mem_cons.1 a with rfl | a
          · exact h hc
          · have := cmpK_3.trans _ _ _ (h1 z a) hc
            exact h this
        · omega
      · rw [List.mem_cons, List.mem_filter, decide_eq_true_eq]
def Own0 (l : List tLT) : Prop := ∀ x ∈ l, x.2.2 = 0
theorem key_eq {x y : tLT} (hx : x.2.2 = 0) (hy : y.2.2 = 0) (h : cmpK (lk x) (lk y) = 0) : x = y := by
  have e := (cmpK_3.eq _ _).1 h
  obtain ⟨a, b, c⟩ := x
  obtain ⟨a', b', c'⟩ := y
  simp only [lk, Prod.mk.injEq] at e
  simp only at hx hy
  rw [e.1, e.2, hx, hy]
theorem putAll_ok (l : List tLT) (h0 : Own0 l) : May (putAll l) ∧ ∀ z, z ∈ putAll l ↔ z ∈ l := by
  unfold putAll
  have : ∀ (l o : List tLT), Own0 l → Own0 o → May o → May (l.foldl putS o) ∧ ∀ z, z ∈ l.foldl putS o ↔ z ∈ o ∨ z ∈ l := by
    intro l
    induction l with
    | nil => intro o _ _ hm; exact ⟨hm, fun z => by simp⟩
    | cons x r ih =>
      intro o hl ho hm
      obtain ⟨a, b⟩ := may_put hm x
      have hx := hl x List.mem_cons_self
      have hr : Own0 r := fun y hy => hl y (List.mem_cons_of_mem _ hy)
      have ho' : Own0 (putS o x) := fun y hy => by
        rcases (b y).1 hy with rfl | ⟨h, _⟩
        · exact hx
        · exact ho y h
      obtain ⟨c, d⟩ := ih (putS o x) hr ho' a
      refine ⟨c, fun z => ?_⟩
      rw [List.foldl_cons, d, b, List.mem_cons]
      constructor
      · rintro ((rfl | ⟨h, _⟩) | h)
        · exact .inr (.inl rfl)
        · exact .inl h
        · exact .inr (.inr h)
      · rintro (h | rfl | h)
        · by_cases hc : cmpK (lk z) (lk x) = 0
          · exact .inl (.inl (key_eq (ho z h) hx hc))
          · exact .inl (.inr ⟨h, hc⟩)
        · exact .inl (.inl rfl)
        · exact .inr h
  obtain ⟨a, b⟩ := this l [] h0 (fun _ h => by cases h) List.Pairwise.nil
  exact ⟨a, fun z => by rw [b]; simp⟩
theorem may_ext : ∀ {a b : List tLT}, May a → May b → (∀ z, z ∈ a ↔ z ∈ b) → a = b
  | [], [], _, _, _ => rfl
  | [], y :: b, _, _, h => by have := (h y).2 List.mem_cons_self; cases this
  | x :: a, [], _, _, h => by have := (h x).1 List.mem_cons_self; cases this
  | x :: a, y :: b, ha, hb, h => by
    obtain ⟨a1, a2⟩ := List.pairwise_cons.1 ha
    obtain ⟨b1, b2⟩ := List.pairwise_cons.1 hb
    have irr : ∀ z : tLT, ¬ cmpK (lk z) (lk z) < 0 := fun z => by rw [cmpK_3.refl]; omega
    have hxy : x = y := by
      rcases List.mem_cons.1 ((h x).1 List.mem_cons_self) with e | hx
      · exact e
      · rcases List.mem_cons.1 ((h y).2 List.mem_cons_self) with e | hy
        · exact e.symm
        · exact absurd (cmpK_3.trans _ _ _ (a1 y hy) (b1 x hx)) (irr x)
    subst hxy
    rw [may_ext a2 b2 fun z => ?_]
    constructor
    · intro hz
      rcases List.mem_cons.1 ((h z).1 (List.mem_cons_of_mem _ hz)) with rfl | h'
      · exact absurd (a1 z hz) (irr z)
      · exact h'
    · intro hz
      rcases List.mem_cons.1 ((h z).2 (List.mem_cons_of_mem _ hz)) with rfl | h'
      · exact absurd (b1 z hz) (irr z)
      · exact h'
theorem dropSame_ok : ∀ {a : tLT} {l : List tLT}, (a :: l).Pairwise (fun x y => cmpK (lk x) (lk y) ≤ 0) → Own0 (a :: l) → May (a :: dropSame eqL a l) ∧ ∀ z, z ∈ a :: dropSame eqL a l ↔ z ∈ a :: l
  | a, [], _, _ => ⟨by simp [May, dropSame], fun z => by simp [dropSame]⟩
  | a, b :: r, h, h0 => by
    obtain ⟨h1, h2⟩ := List.pairwise_cons.1 h
    obtain ⟨h3, h4⟩ := List.pairwise_cons.1 h2
    have ha := h0 a List.mem_cons_self
    have hb := h0 b (List.mem_cons_of_mem _ List.mem_cons_self)
    have hr : Own0 (b :: r) := fun y hy => h0 y (List.mem_cons_of_mem _ hy)
    rw [dropSame]
    by_cases he : b = a
    · subst he
      rw [if_pos (show eqL b b = true from decide_eq_true rfl)]
      obtain ⟨p, q⟩ := dropSame_ok h2 hr
      exact ⟨p, fun z => by rw [q]; simp⟩
    · rw [if_neg (show ¬ eqL b a = true from fun e => he (of_decide_eq_true e))]
      obtain ⟨p, q⟩ := dropSame_ok h2 hr
      have hlt : cmpK (lk a) (lk b) < 0 := by
        have := h1 b List.mem_cons_self
        have : cmpK (lk a) (lk b) ≠ 0 := fun e => he (key_eq ha hb e).symm
        omega
      refine ⟨List.pairwise_cons.2 ⟨fun z hz => ?_, p⟩, fun z => ?_⟩
      · rcases List.mem_cons.1 ((q z).1 hz) with rfl | hz'
        · exact hlt
        · by_cases h5 : cmpK (lk b) (lk z) = 0
          · rw [← (cmpK_3.eq _ _).1 h5]; exact hlt
          · exact cmpK_3.trans _ _ _ hlt (by have := h3 z hz'; omega)
      · rw [List.mem_cons, q, List.mem_cons (a := z) (b := a)]
theorem own0_keys (w : List tWT) : Own0 (keysL w) := fun x hx => by
  obtain ⟨y, _, hy⟩ := List.mem_filterMap.1 hx
  unfold wkey at hy
  split at hy <;> cases hy
  rfl
theorem cmp_of (x y : tLT) : cmpOf tL f23.F x y = some (cmpK (lk x) (lk y)) := by
  unfold cmpOf
  have := i_cmpK x.1 x.2.1.1 x.2.1.2.1 x.2.1.2.2 x.2.2 y.1 y.2.1.1 y.2.1.2.1 y.2.1.2.2 y.2.2
  exact congrArg (Option.map fun p : Int × Unit => p.1) this
theorem i_keys (w : List tWT) (hl : w.length < 2513169434915) : f19.F (w, ()) = some (putAll (keysL w), ()) := by
  rw [f19.eq]
  have hkl : (keysL w).length ≤ w.length := List.length_filterMap_le _ _
  refine (loop_TB (fun i (st : List tLT) => (i, st, ())) w (fun i st => st.length ≤ i) (fun x st => .inl (st ++ (wkey x).toList)) (fun st => (.inl (st, ()) : (List tLT × Unit) ⊕ (List tLT × Unit))) (fun i hi st hI => ⟨?_, fun st' h => ?_⟩) (fun st _ => ?_) [] (Nat.zero_le _)).trans ?_
  · have a1 : (i : Int) < w.length := by omega
    have a2 : (0 : Int) ≤ i := by omega
    have a0 : (0 : Int) ≤ 0 := Int.le_refl _
    have a3 : Nat.ble (st.length + 1) 2513169434916 = true := Nat.ble_eq_true_of_le (by omega)
    simp only [wrap_s hi (by omega), Int.toNat_natCast, getD_at hi, a1, a2, a0, decide_true, Bool.and_true, Bool.true_and, cond_true]
    by_cases h : 0 < (w[i]).2.2.length
    · have h1 : (((w[i]).2.2.length : Nat) : Int) > 0 := by omega
      have h2 : (0 : Int) < (((w[i]).2.2.length : Nat) : Int) := by omega
      simp only [h1, h2, decide_true, cond_true, getD_at h, wkey_some h, List.length_singleton, a3]
      rfl
    · have h1 : ¬ (((w[i]).2.2.length : Nat) : Int) > 0 := by omega
      have h2 : (w[i]).2.2 = [] := List.eq_nil_of_length_eq_zero (by omega)
      simp only [h1, decide_false, cond_false, wkey_nil h2, Option.toList_none, List.append_nil]
  · cases h
    cases wkey w[i] <;> simp <;> omega
  · simp
  · have : ∀ (r : List tWT) (o : List tLT), foldT (R := (List tLT × Unit) ⊕ (List tLT × Unit)) (fun x st => .inl (st ++ (wkey x).toList)) (fun st => .inl (st, ())) r o = .inl (o ++ keysL r, ()) := by
      intro r
      induction r with
      | nil => intro o; simp [foldT, keysL]
      | cons x r ih =>
        intro o
        rw [foldT]
        refine (ih _).trans ?_
        unfold keysL
        rw [List.filterMap_cons]
        cases wkey x <;> simp
    rw [this]
    simp only [List.nil_append]
    have h0 := own0_keys w
    generalize keysL w = l at h0 hkl
    let le : tLT → tLT → Bool := fun x y => decide (cmpK (lk x) (lk y) ≤ 0)
    have hp : (l.mergeSort le).Perm l := List.mergeSort_perm l le
    have hs : (l.mergeSort le).Pairwise (fun x y => cmpK (lk x) (lk y) ≤ 0) := by
      have := List.pairwise_mergeSort (le := le) (fun a b c h1 h2 => decide_eq_true (cmpK_3.le_trans (of_decide_eq_true h1) (of_decide_eq_true h2))) (fun a b => by
        have := cmpK_3.anti (lk a) (lk b)
        simp only [le, Bool.or_eq_true, decide_eq_true_eq]
        omega) l
      exact this.imp fun h => of_decide_eq_true h
    have hsort : h30.F (l, ()) = some (l.mergeSort le, ()) := by
      rw [h30.eq]
      refine sortL_some (T := tLT) ⟨by omega, fun x y => cmpK (lk x) (lk y), fun x _ y _ => cmp_of x y, fun x _ h => by have := cmpK_3.refl (lk x); simp only at h; omega, fun x _ y _ z _ => cmpK_3.trans _ _ _, fun x _ y _ z _ h1 h2 h3 => ?_, fun x hx y hy h1 h2 => key_eq (h0 x hx) (h0 y hy) ?_, hp, hs.imp fun {a b} h h' => ?_⟩
      · simp only at h1 h2 h3
        have a1 := cmpK_3.anti (lk x) (lk y)
        have a2 := cmpK_3.anti (lk y) (lk z)
        have a3 := cmpK_3.anti (lk x) (lk z)
        have := cmpK_3.le_trans (a := lk z) (b := lk y) (d := lk x) (by omega) (by omega)
        omega
      · simp only at h1 h2; have := cmpK_3.anti (lk x) (lk y); omega
      · simp only at h'; have := cmpK_3.anti (lk a) (lk b); omega
    have hml : (l.mergeSort le).length = l.length := List.length_mergeSort l
    refine (congrArg (fun z => Option.bind z fun y6 : List tLT × Unit => Option.bind (f31.F (y6.1, ())) fun y7 => some (y7.1, ())) hsort).trans ?_
    refine (congrArg (fun z => Option.bind z fun y7 : List tLT × Unit => some (y7.1, ())) (i_compact _ (show (l.mergeSort le).length < 2513169434915 by omega))).trans ?_
    refine congrArg (fun z => some (z, ())) ?_
    obtain ⟨p, q⟩ := putAll_ok l h0
    have h0' : Own0 (l.mergeSort le) := fun x hx => h0 x (hp.subset hx)
    generalize l.mergeSort le = m at hp hs h0'
    cases m with
    | nil =>
      rw [List.nil_perm.1 hp]; rfl
    | cons a r =>
      obtain ⟨c, d⟩ := dropSame_ok hs h0'
      exact may_ext c p fun z => (d z).trans (hp.mem_iff.trans (q z).symm)
end Go.Proofs.Ytmpoopidlojdbaa
