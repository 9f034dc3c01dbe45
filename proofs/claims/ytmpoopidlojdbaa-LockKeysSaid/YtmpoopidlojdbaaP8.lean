import Derived.Test.YtmpoopidlojdbaaP7
set_option linter.all false
set_option linter.unusedVariables false
set_option linter.unusedSimpArgs false
set_option linter.unusedSectionVars false
namespace Go.Proofs.Ytmpoopidlojdbaa
open Go Lv Go.Proofs Go.RowKit

def setO (o : Int) (x : tLT) : tLT := (x.1, x.2.1, o)
theorem put_end {x : tLT} : ∀ {l : List tLT}, (∀ z ∈ l, cmpK (lk z) (lk x) < 0) → putS l x = l ++ [x]
  | [], _ => rfl
  | y :: r, h => by
    rw [putS, if_pos (h y List.mem_cons_self), put_end fun z hz => h z (List.mem_cons_of_mem _ hz)]
    rfl
theorem map_may {l : List tLT} (hm : May l) (o : Int) : May (l.map (setO o)) := by
  unfold May
  rw [List.pairwise_map]
  exact hm
theorem take_succ {α : Type} {l : List α} {i : Nat} (hi : i < l.length) : l.take (i + 1) = l.take i ++ [l[i]] := by rw [List.take_add_one, List.getElem?_eq_getElem hi]; rfl
theorem take_end {k : List tLT} (hm : May k) (o : Int) {i : Nat} (hi : i < k.length) : takeS ((k.take i).map (setO o)) (setO o k[i]) = ((k.take (i + 1)).map (setO o), true) := by
  have hlt : ∀ z ∈ (k.take i).map (setO o), cmpK (lk z) (lk (setO o k[i])) < 0 := by
    intro z hz
    obtain ⟨y, hy, rfl⟩ := List.mem_map.1 hz
    obtain ⟨j, hj, rfl⟩ := List.mem_iff_getElem.1 hy
    have hj' : j < i := by rw [List.length_take] at hj; omega
    rw [List.getElem_take]
    exact List.pairwise_iff_getElem.1 hm j i (by omega) hi hj'
  unfold takeS
  rw [if_pos ((mayB_iff _).2 (map_may (List.Pairwise.take hm) o)), find_not fun z hz e => by
    have := hlt z hz
    rw [e, cmpK_3.refl] at this; omega]
  simp only [put_end hlt]
  rw [take_succ hi, List.map_append]
  rfl
theorem keys_s (w : List tWT) (owner : Int) (hw : w.length < 9223372036854775807) : f5.F (w, owner, ()) = some (true, ()) := by
  rw [f5.eq]
  simp only [f5.B, Option.bind_some, fixed_s, Bool.not_true, cond_false]
  by_cases h6 : w.length > 60
  · have : ((w.length : Nat) : Int) > 60 := by omega
    simp [this]
  · have h6' : ¬ ((w.length : Nat) : Int) > 60 := by omega
    have hkl : (keysL w).length ≤ w.length := List.length_filterMap_le _ _
    have hpl := putAll_len (keysL w)
    obtain ⟨km, ki⟩ := putAll_ok (keysL w) (own0_keys w)
    have k0 : ∀ z ∈ putAll (keysL w), z.2.2 = 0 := fun z hz => own0_keys w z ((ki z).1 hz)
    have kin : ∀ z, z ∈ putAll (keysL w) ↔ ∃ y ∈ w, wkey y = some z := fun z => by rw [ki]; unfold keysL; exact List.mem_filterMap
    simp only [h6', decide_false, cond_false, Option.bind_some, i_keys w (by omega)]
    generalize putAll (keysL w) = k at km k0 kin hpl
    refine (loop_TB (fun i (st : List tLT) => (i, st, ())) k (fun i st => st = (k.take i).map (setO owner)) (fun x st => .inl (st ++ [setO owner x])) (fun st => (.inl (st, ()) : (List tLT × Unit) ⊕ (Bool × Unit))) (fun i hi st hI => ⟨?_, fun st' h => ?_⟩) (fun st hI => ?_) [] (by simp)).trans ?_
    · have a1 : (i : Int) < k.length := by omega
      have a2 : (0 : Int) ≤ i := by omega
      simp only [a1, a2, decide_true, Bool.and_true, cond_true, Int.toNat_natCast, getD_at hi]
      refine (congrArg (fun z => Option.bind z _) ?_ : _ = Option.bind (some (.inl (st ++ [setO owner k[i]], ()))) _).trans (by simp only [Option.bind_some, wrap_s hi (by omega)])
      refine (congrArg (fun z => Option.bind z _) ?_ : _ = Option.bind (some (.inl (true, ()))) _).trans ?_
      · refine (loop_T (fun j (b : Bool) => (b, j, ())) w (fun _ _ => True) (fun y b => .inl (b || (match wkey y with | some z => decide (lk z = lk k[i]) | none => false))) (fun b => (.inl (b, ()) : (Bool × Unit) ⊕ _)) (fun j hj b _ => ⟨?_, fun _ _ => trivial⟩) (fun b _ => ?_) false trivial).trans ?_
        · have b1 : (j : Int) < w.length := by omega
          have b2 : (0 : Int) ≤ j := by omega
          have b0 : (0 : Int) ≤ 0 := Int.le_refl _
          simp only [wrap_s hj (by omega), b1, b2, b0, Int.toNat_natCast, decide_true, Bool.and_true, Bool.true_and, cond_true, getD_at hj]
          cases b with
          | true => rfl
          | false =>
            simp only [cond_false, Bool.false_or]
            by_cases h : 0 < (w[j]).2.2.length
            · have h1 : (((w[j]).2.2.length : Nat) : Int) > 0 := by omega
              have h2 : (0 : Int) < (((w[j]).2.2.length : Nat) : Int) := by omega
              simp only [h1, h2, decide_true, cond_true, getD_at h, wkey_some h, beq_cmpB, tV_eq, lk]
              by_cases c1 : (w[j]).1 = (k[i]).1
              · simp [c1]
              · simp [c1]
            · have h1 : ¬ (((w[j]).2.2.length : Nat) : Int) > 0 := by omega
              have h2 : (w[j]).2.2 = [] := List.eq_nil_of_length_eq_zero (by omega)
              simp only [h1, decide_false, cond_false, wkey_nil h2, Option.bind_some]
        · simp
        · congr 1
          obtain ⟨y, hy, hyk⟩ := (kin k[i]).1 (List.getElem_mem hi)
          have tt : ∀ {R : Type} (r : List tWT), foldT (R := (Bool × Unit) ⊕ R) (fun y b => .inl (b || (match wkey y with | some z => decide (lk z = lk k[i]) | none => false))) (fun b => .inl (b, ())) r true = .inl (true, ()) := by
            intro R r
            induction r with
            | nil => rfl
            | cons a r ih => rw [foldT]; exact ih
          have : ∀ {R : Type} (r : List tWT) (b : Bool), y ∈ r → foldT (R := (Bool × Unit) ⊕ R) (fun y b => .inl (b || (match wkey y with | some z => decide (lk z = lk k[i]) | none => false))) (fun b => .inl (b, ())) r b = .inl (true, ()) := by
            intro R r
            induction r with
            | nil => intro b h; cases h
            | cons a r ih =>
              intro b h
              rw [foldT]
              rcases List.mem_cons.1 h with rfl | h
              · rw [hyk]
                simp only [decide_true, Bool.or_true]
                exact tt r
              · exact ih _ h
          exact this w false hy
      · have e1 := take_end km owner hi
        rw [← hI] at e1
        have hst : st.length = i := by rw [hI]; simp; omega
        have e2 : f12.F (st, (k[i]).1, (k[i]).2.1.1, (k[i]).2.1.2.1, (k[i]).2.1.2.2, owner, ()) = some (true, (k.take (i + 1)).map (setO owner), ()) := by
          refine (i_take st (by omega) (setO owner k[i])).trans ?_
          rw [e1]
        have e3 : (k.take (i + 1)).map (setO owner) = st ++ [setO owner k[i]] := by
          rw [hI, take_succ hi, List.map_append]; rfl
        have e4 : (k[i]).2.2 = 0 := k0 _ (List.getElem_mem hi)
        simp only [Option.bind_some, e2, Bool.not_true, cond_false, e4, bne_self_eq_false, e3]
    · cases h
      rw [hI, take_succ hi, List.map_append]; rfl
    · simp
    · have hfold : ∀ (r o : List tLT), foldT (R := (List tLT × Unit) ⊕ (Bool × Unit)) (fun x st => .inl (st ++ [setO owner x])) (fun st => .inl (st, ())) r o = .inl (o ++ r.map (setO owner), ()) := by
        intro r
        induction r with
        | nil => intro o; simp [foldT]
        | cons x r ih =>
          intro o
          rw [foldT]
          refine (ih _).trans ?_
          simp
      rw [hfold]
      simp only [List.nil_append]
      have lm := map_may km owner
      refine (loop_TB (fun i (_ : Unit) => (k.map (setO owner), i, ())) w (fun _ _ => True) (fun _ _ => .inl ()) (fun _ => (.inl (k.map (setO owner), ()) : (List tLT × Unit) ⊕ (Bool × Unit))) (fun i hi _ _ => ⟨?_, fun _ _ => trivial⟩) (fun _ _ => ?_) () trivial).trans ?_
      · have a1 : (i : Int) < w.length := by omega
        have a2 : (0 : Int) ≤ i := by omega
        have b0 : (0 : Int) ≤ 0 := Int.le_refl _
        simp only [wrap_s hi (by omega), a1, a2, b0, decide_true, Bool.and_true, Bool.true_and, cond_true, Int.toNat_natCast, getD_at hi]
        by_cases h : 0 < (w[i]).2.2.length
        · have h1 : ((((w[i]).2.2.length : Nat) : Int) == 0) = false := by rw [beq_eq_false_iff_ne]; omega
          have h2 : (0 : Int) < (((w[i]).2.2.length : Nat) : Int) := by omega
          have hz : ((w[i]).1, (w[i]).2.2[0], (0 : Int)) ∈ k := (kin _).2 ⟨w[i], List.getElem_mem hi, wkey_some h⟩
          have hz' : setO owner ((w[i]).1, (w[i]).2.2[0], (0 : Int)) ∈ k.map (setO owner) := List.mem_map.2 ⟨_, hz, rfl⟩
          have w1 := i_who (k.map (setO owner)) (by simp; omega) (w[i]).1 ((w[i]).2.2[0]).1 ((w[i]).2.2[0]).2.1 ((w[i]).2.2[0]).2.2
          have w2 := who_of lm hz'
          have w3 : ((w[i]).1, ((w[i]).2.2[0]).1, ((w[i]).2.2[0]).2.1, ((w[i]).2.2[0]).2.2) = lk (setO owner ((w[i]).1, (w[i]).2.2[0], (0 : Int))) := rfl
          rw [w3, w2] at w1
          simp only [h1, h2, decide_true, cond_true, cond_false, getD_at h, w1, Option.bind_some, Bool.not_true, setO, bne_self_eq_false]
        · have h1 : ((((w[i]).2.2.length : Nat) : Int) == 0) = true := by rw [beq_iff_eq]; omega
          simp only [h1, cond_true]
      · simp
      · have : ∀ r : List tWT, foldT (R := (List tLT × Unit) ⊕ (Bool × Unit)) (fun (_ : tWT) (_ : Unit) => .inl ()) (fun _ => .inl (k.map (setO owner), ())) r () = .inl (k.map (setO owner), ()) := by
          intro r
          induction r with
          | nil => rfl
          | cons a r ih => rw [foldT]; exact ih
        rw [this]
        have fa : freeS (k.map (setO owner)) owner = [] := by
          unfold freeS
          rw [if_pos ((mayB_iff _).2 lm), List.filter_eq_nil_iff]
          intro z hz
          obtain ⟨y, _, rfl⟩ := List.mem_map.1 hz
          simp [setO]
        simp only [i_may k (by omega), (mayB_iff _).2 km, Option.bind_some, cond_true, List.length_map, i_free _ (show (k.map (setO owner)).length < 2513169434915 by simp; omega), fa, beq_self_eq_true]
        rfl
theorem pure5 (x : ArgT [(.sl 42 tW, false), (.int .i64, false)]) (h : argIn PP _ x) : f5.F (argX 0 _ x) = some (true, ()) :=
  keys_s x.1 x.2.1 (len_of (b := 48) (by kernel_rfl) (by decide) h.1.1)
end Go.Proofs.Ytmpoopidlojdbaa
