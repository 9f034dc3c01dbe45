import Derived.Test.YtmpoopidlojdbaaP4
set_option linter.all false
set_option linter.unusedVariables false
set_option linter.unusedSimpArgs false
set_option linter.unusedSectionVars false
namespace Go.Proofs.Ytmpoopidlojdbaa
open Go Lv Go.Proofs Go.RowKit

theorem int_s (n : Int) : f21.F (n, ()) = some (2, n, (⟨#[]⟩ : ByteArray), ()) := by rw [f21.eq]; rfl
def fxX : tLT := ((⟨#[116]⟩ : ByteArray), ((2, 1, (⟨#[]⟩ : ByteArray)), 1))
def fxY : tLT := ((⟨#[116]⟩ : ByteArray), ((2, 1, (⟨#[]⟩ : ByteArray)), 2))
def fxW : List tWT := [((⟨#[116]⟩ : ByteArray), (false, [(2, 2, (⟨#[]⟩ : ByteArray))])), ((⟨#[116]⟩ : ByteArray), (false, [(2, 1, (⟨#[]⟩ : ByteArray))])), ((⟨#[116]⟩ : ByteArray), (false, [(2, 2, (⟨#[]⟩ : ByteArray))]))]
theorem fixed_s : f9.F () = some (true, ()) := by
  rw [f9.eq]
  have t1 : f12.F (([] : List tLT), (⟨#[116]⟩ : ByteArray), 2, 1, (⟨#[]⟩ : ByteArray), 1, ()) = some (true, [fxX], ()) := by
    exact (i_take [] (by simp) fxX).trans (by kernel_rfl)
  have t2 : f12.F ([fxX], (⟨#[116]⟩ : ByteArray), 2, 1, (⟨#[]⟩ : ByteArray), 2, ()) = some (false, [], ()) := by
    exact (i_take [fxX] (by simp) fxY).trans (by kernel_rfl)
  have t3 : f17.F ([fxX], 1, ()) = some ([], ()) := by rw [i_free _ (by simp)]; kernel_rfl
  have t4 : f12.F (([] : List tLT), (⟨#[116]⟩ : ByteArray), 2, 1, (⟨#[]⟩ : ByteArray), 2, ()) = some (true, [fxY], ()) := by
    exact (i_take [] (by simp) fxY).trans (by kernel_rfl)
  have t5 : f10.F ([fxY], (⟨#[116]⟩ : ByteArray), 2, 1, (⟨#[]⟩ : ByteArray), ()) = some (2, true, ()) := by
    rw [i_who _ (by simp)]; kernel_rfl
  have t6 : f19.F (fxW, ()) = some ([((⟨#[116]⟩ : ByteArray), ((2, 1, (⟨#[]⟩ : ByteArray)), 0)), ((⟨#[116]⟩ : ByteArray), ((2, 2, (⟨#[]⟩ : ByteArray)), 0))], ()) := by
    rw [i_keys _ (by simp [fxW])]; kernel_rfl
  have t7 : f14.F ([fxX], ()) = some (true, ()) := by rw [i_may _ (by simp)]; kernel_rfl
  have t8 : f14.F ([fxX, fxY], ()) = some (false, ()) := by rw [i_may _ (by simp)]; kernel_rfl
  have e : f9.B () = f9.B () := rfl
  simp only [f9.B, int_s, Option.bind_some, t1, t2, t3, t4, t5]
  erw [t6]
  simp only [Option.bind_some, cond_true, cond_false, Bool.not_false, Bool.not_true, t7, t8]
  exact Eq.trans (b := Option.bind (f14.F ([fxX, fxY], ())) fun y16 => some (!y16.1, ())) rfl (by rw [t8]; rfl)

theorem same_refl (a : List tLT) (ha : a.length < 9223372036854775807) : f16.F (a, a, ()) = some (true, ()) := by rw [same_s a a ha ha]; simp
theorem small_len {l : List tLT} (h : smallS l = true) : l.length ≤ 100 := by
  unfold smallS at h
  rw [Bool.and_eq_true] at h
  exact of_decide_eq_true h.2
theorem len_of {t : Nat} {b : Nat} {n : Nat} (hb : PP.bytesOf t = b) (h0 : 0 < b) (h : n * PP.bytesOf t ≤ reachBytes) : n < 9223372036854775807 := by
  rw [hb] at h
  have : n ≤ n * b := Nat.le_mul_of_pos_right n h0
  unfold reachBytes at h
  omega
theorem takeS_len {l : List tLT} {x : tLT} (h : l.length ≤ 100) : (takeS l x).1.length ≤ 101 := by
  unfold takeS
  split
  · cases findK l (lk x) with
    | none => exact Nat.le_trans (putS_len x l) (by omega)
    | some y => simp only; split <;> simp <;> omega
  · simp
theorem freeS_len {l : List tLT} {o : Int} : (freeS l o).length ≤ l.length := by
  unfold freeS
  split
  · exact List.length_filter_le _ _
  · simp
theorem putAll_len (k : List tLT) : (putAll k).length ≤ k.length := by
  unfold putAll
  have : ∀ (l o : List tLT), (l.foldl putS o).length ≤ o.length + l.length := by
    intro l
    induction l with
    | nil => intro o; simp
    | cons x r ih => intro o; have := ih (putS o x); have := putS_len x o; simp only [List.foldl_cons, List.length_cons]; omega
  simpa using this k []
theorem pure3 (x : ArgT [(.sl 26 tL, false), (tL, true), (.sl 42 tW, false)]) (h : argIn PP _ x) : f3.F (argX 0 _ x) = some (true, ()) := by
  obtain ⟨l, x, w, u⟩ := x
  obtain ⟨⟨hl, _⟩, _, ⟨hw, _⟩, _⟩ := h
  have hl : l.length < 9223372036854775807 := len_of (b := 56) (by kernel_rfl) (by decide) hl
  have hw : w.length < 9223372036854775807 := len_of (b := 48) (by kernel_rfl) (by decide) hw
  show f3.F (l, x.1, x.2.1.1, x.2.1.2.1, x.2.1.2.2, x.2.2, w, ()) = _
  rw [f3.eq]
  simp only [f3.B, small_s l hl, Option.bind_some, fixed_s]
  cases hs : smallS l with
  | false => rfl
  | true =>
    have hll := small_len hs
    by_cases hww : w.length > 100
    · have : ((w.length : Nat) : Int) > 100 := by omega
      simp [this]
    · have : ¬ ((w.length : Nat) : Int) > 100 := by omega
      have hk : (keysL w).length ≤ 100 := Nat.le_trans (List.length_filterMap_le _ _) (by omega)
      have hp := putAll_len (keysL w)
      have ht := takeS_len (l := l) (x := x) hll
      have hf := freeS_len (l := l) (o := x.2.2)
      simp only [Bool.not_true, cond_false, this, decide_false, Option.bind_some, i_who l (by omega), ref_who l hl, i_take l (by omega) x, ref_take l (by omega) x, cond_true, i_may l hl, ref_may l hl, i_free l (by omega), ref_free l (by omega), i_keys w (by omega), ref_keys w (by omega),
        same_refl _ (show (takeS l x).1.length < 9223372036854775807 by omega), same_refl _ (show (freeS l x.2.2).length < 9223372036854775807 by omega), same_refl _ (show (putAll (keysL w)).length < 9223372036854775807 by omega), beq_self_eq_true]
end Go.Proofs.Ytmpoopidlojdbaa
