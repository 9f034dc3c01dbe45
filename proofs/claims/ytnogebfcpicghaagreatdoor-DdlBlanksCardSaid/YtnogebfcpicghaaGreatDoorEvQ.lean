import Derived.Test.YtnogebfcpicghaaGreatDoorEvP
set_option linter.all false
set_option linter.unusedVariables false
set_option linter.unusedSimpArgs false
set_option linter.unusedSectionVars false
namespace Lv
variable [HasG]
open Go Go.RowKit

/-! ## Masks -/
theorem maskOf_bit {acc : List Nat} {i : Nat} : ∀ {es : List Edge}, (maskOf acc es).testBit i = true → ∃ e ∈ es, Region.binds .any e = true ∧ (e.on = i ∨ (acc.getD e.on 0).testBit i = true)
  | [], h => by simp [maskOf] at h
  | e :: r, h => by
    simp only [maskOf] at h
    cases hb : Region.binds .any e with
    | false =>
      rw [hb] at h
      obtain ⟨e', h1, h2⟩ := maskOf_bit (es := r) h
      exact ⟨e', List.mem_cons_of_mem _ h1, h2⟩
    | true =>
      rw [hb] at h
      have h : ((2 ^ e.on ||| acc.getD e.on 0) ||| maskOf acc r).testBit i = true := h
      rw [Nat.testBit_or, Nat.testBit_or, Nat.testBit_two_pow] at h
      simp only [Bool.or_eq_true, decide_eq_true_eq] at h
      rcases h with (h | h) | h
      · exact ⟨e, List.mem_cons_self, hb, .inl h⟩
      · exact ⟨e, List.mem_cons_self, hb, .inr h⟩
      · obtain ⟨e', h1, h2⟩ := maskOf_bit (es := r) h
        exact ⟨e', List.mem_cons_of_mem _ h1, h2⟩
theorem forceN_eq {α : Type} (n : Nat) (k : Nat → α) : forceN n k = k n := by cases n <;> rfl
theorem befGo_old : ∀ (l : List Oper) (acc : List Nat) (j : Nat), j < acc.length → (befGo l acc).getD j 0 = acc.getD j 0
  | [], acc, j, h => rfl
  | o :: r, acc, j, h => by
    rw [befGo, forceN_eq, befGo_old r _ j (by simp; omega)]
    simp [List.getElem?_append_left h]
theorem befGo_at : ∀ (l : List Oper) (acc : List Nat) (k : Nat) (o : Oper), l[k]? = some o → ∃ acc' : List Nat, (∀ m, m < acc.length + k → acc'.getD m 0 = (befGo l acc).getD m 0) ∧ (∀ m, acc.length + k ≤ m → acc'.getD m 0 = 0) ∧
    (befGo l acc).getD (acc.length + k) 0 = maskOf acc' o.after.toList
  | [], _, k, o, h => by simp at h
  | p :: r, acc, 0, o, h => by
    simp at h; subst h
    refine ⟨acc, fun m hm => ?_, fun m hm => ?_, ?_⟩
    · exact (befGo_old (p :: r) acc m (by omega)).symm
    · simp only [List.getD_eq_getElem?_getD]
      rw [List.getElem?_eq_none (by omega)]; rfl
    · rw [befGo, forceN_eq, befGo_old r _ _ (by simp)]
      simp
  | p :: r, acc, k + 1, o, h => by
    rw [befGo, forceN_eq]
    obtain ⟨acc', h1, h2, h3⟩ := befGo_at r (acc ++ [maskOf acc p.after.toList]) k o (by simpa using h)
    simp only [List.length_append, List.length_singleton] at h1 h2 h3
    exact ⟨acc', fun m hm => h1 m (by omega), fun m hm => h2 m (by omega), by rw [← h3]; congr 1; omega⟩
/-- a bit stands for a way back -/
theorem bef_bit {ops : Array Oper} {i j : Nat} {o : Oper} (ho : ops[j]? = some o) (h : ((befGo ops.toList []).getD j 0).testBit i = true) :
    ∃ e ∈ o.after, Region.binds .any e = true ∧ (e.on = i ∨ (e.on < j ∧ ((befGo ops.toList []).getD e.on 0).testBit i = true)) := by
  obtain ⟨acc, h1, h2, h3⟩ := befGo_at ops.toList [] j o (by simpa using ho)
  simp only [List.length_nil, Nat.zero_add] at h1 h2 h3
  rw [h3] at h
  obtain ⟨e, g1, g2, g3⟩ := maskOf_bit h
  refine ⟨e, by simpa using g1, g2, g3.imp id fun g => ?_⟩
  by_cases hlt : e.on < j
  · exact ⟨hlt, by rw [← h1 e.on hlt]; exact g⟩
  · rw [h2 e.on (by omega)] at g; simp at g

theorem backEdges_spec : ∀ {l : List Oper} {i : Nat}, backEdges i l = true → ∀ (k : Nat) (o : Oper), l[k]? = some o → ∀ e ∈ o.after, Region.binds .any e = true → e.on < i + k
  | [], i, _, k, o, h, _, _, _ => by simp at h
  | p :: r, i, hb, k, o, h, e, he, hbd => by
    obtain ⟨h1, h2⟩ := Bool.and_eq_true_iff.1 hb
    cases k with
    | zero =>
      simp at h; subst h
      have := List.all_eq_true.1 h1 e (by simpa using he)
      rw [hbd] at this
      simpa [Nat.blt_eq] using this
    | succ k =>
      have := backEdges_spec h2 k o (by simpa using h) e he hbd
      omega
theorem free1_spec {ops : Array Oper} {bs : List Nat} {i : Nat} {o : Oper} {t : Tr} : ∀ {l : List (Oper × Tr)} {j : Nat}, free1 ops bs i o t j l = true → ∀ (k : Nat) (p : Oper) (u : Tr), l[k]? = some (p, u) →
    (bs.getD (j + k) 0).testBit i = true ∨ free2 ops o p t u = true
  | [], j, _, k, p, u, h => by simp at h
  | (q, v) :: r, j, hb, k, p, u, h => by
    obtain ⟨h1, h2⟩ := Bool.and_eq_true_iff.1 hb
    cases k with
    | zero => simp at h; obtain ⟨rfl, rfl⟩ := h; exact Bool.or_eq_true_iff.1 h1
    | succ k =>
      have := free1_spec h2 k p u (by simpa using h)
      rwa [show j + 1 + k = j + (k + 1) by omega] at this
theorem freeAll_spec {ops : Array Oper} {bs : List Nat} : ∀ {l : List (Oper × Tr)} {i0 : Nat}, freeAll ops bs i0 l = true → ∀ (i j : Nat) (o p : Oper) (t u : Tr), i < j → l[i]? = some (o, t) → l[j]? = some (p, u) →
    (bs.getD (i0 + j) 0).testBit (i0 + i) = true ∨ free2 ops o p t u = true
  | [], i0, _, i, j, o, p, t, u, _, h, _ => by simp at h
  | (q, v) :: r, i0, hb, i, j, o, p, t, u, hij, h, k => by
    obtain ⟨h1, h2⟩ := Bool.and_eq_true_iff.1 hb
    obtain ⟨j, rfl⟩ : ∃ j', j = j' + 1 := ⟨j - 1, by omega⟩
    have k : r[j]? = some (p, u) := by simpa using k
    cases i with
    | zero =>
      simp at h; obtain ⟨rfl, rfl⟩ := h
      have := free1_spec h1 j p u k
      rwa [show i0 + 1 + j = i0 + (j + 1) by omega] at this
    | succ i =>
      have := freeAll_spec h2 i j o p t u (by omega) (by simpa using h) k
      rwa [show i0 + 1 + j = i0 + (j + 1) by omega, show i0 + 1 + i = i0 + (i + 1) by omega] at this

/-! ## Runs -/
theorem goAll_snoc (st : St) : ∀ (l : List E) (e : E), goAll st (l ++ [e]) = e.go (goAll st l)
  | [], e => rfl
  | a :: r, e => goAll_snoc (a.go st) r e
theorem goAll_succ {st : St} {es : List E} {i : Nat} {e : E} (h : es[i]? = some e) : goAll st (es.take (i + 1)) = e.go (goAll st (es.take i)) := by
  rw [← goAll_snoc]
  congr 1
  rw [List.take_add_one, h]
  rfl
theorem goAll_dt (st : St) : ∀ (es : List E), ∃ D, (goAll st es).dt = D ++ st.dt ∧ ∀ e ∈ es, ∀ l ∈ names e.t.up, l ∈ D
  | [] => ⟨[], rfl, fun e he => by cases he⟩
  | e :: r => by
    obtain ⟨D, h1, h2⟩ := goAll_dt (e.go st) r
    refine ⟨D ++ names e.t.up, by rw [goAll, h1]; simp [E.go], fun x hx l hl => ?_⟩
    rcases List.mem_cons.1 hx with rfl | hx
    · exact List.mem_append_right _ hl
    · exact List.mem_append_left _ (h2 x hx l hl)
theorem upNames_mem : ∀ {u : Ups} {l : Nat} {o : Option Ob} {m : Nat}, (l, o) ∈ u → m ∈ ob1Names o → m ∈ upNames u
  | (a, b) :: r, l, o, m, h, hm => by
    rcases List.mem_cons.1 h with h | h
    · cases h; exact List.mem_append_left _ hm
    · exact List.mem_append_right _ (upNames_mem h hm)

theorem RepH.heap {ρ : Nat → Value} {ok : Nat → Prop} {w w' : World} {hp : Heap} {nx : Nat} (h : RepH ρ ok w hp nx) (e : w'.heap = w.heap) : RepH ρ ok w' hp nx :=
  have hS : Same ok ok w w' := fun b hb => ⟨hb, by rw [e]⟩
  ⟨fun l o ho => ⟨(h.ob l o ho).1, (h.ob l o ho).2.move hS (fun _ _ => rfl) (Nat.le_refl _) rfl fun _ _ _ => by rw [e]⟩, fun b hb => by rw [e]; exact h.okl b hb, h.sep, h.dis, h.gl.move hS⟩
theorem RepE.heap {ρ : Nat → Value} {ok : Nat → Prop} {w w' : World} {env : Env} {tmps : Array Value} {nx : Nat} (h : RepE ρ ok w nx env tmps) (e : w'.heap = w.heap) : RepE ρ ok w' nx env tmps :=
  fun t s hs => let ⟨v, h1, h2⟩ := h t s hs
  ⟨v, h1, h2.move (fun b hb => ⟨hb, by rw [e]⟩) (fun _ _ => rfl) (Nat.le_refl _)⟩
theorem Goes.mono {ρ ok w hp nx D D' ρ' ok' w' hp' nx'} (h : Goes ρ ok w hp nx D ρ' ok' w' hp' nx') (hD : ∀ l, l ∈ D → l ∈ D') : Goes ρ ok w hp nx D' ρ' ok' w' hp' nx' :=
  ⟨h.os, h.tape, h.output, h.size, h.nxl, fun b hb hn => h.same b hb fun l hl => hn l (hD l hl), h.rho, h.okm,
   fun b hb => (h.okn b hb).imp id (Or.imp id fun ⟨l, hl, r⟩ => ⟨l, hD l hl, r⟩), fun l hl hn => h.hps l hl fun hm => hn (hD l hm), h.stay,
   fun l o b h1 h2 h3 h4 => (h.nb l o b h1 h2 h3 h4).imp id fun ⟨m, hm, r⟩ => ⟨m, hD m hm, r⟩⟩

/-- a list's marks that are not set -/
theorem count_set : ∀ (l : List Bool) (i : Nat), l[i]? = some false → (l.set i true).countP (! ·) + 1 = l.countP (! ·)
  | [], i, h => by simp at h
  | b :: r, 0, h => by simp at h; subst h; simp
  | b :: r, i + 1, h => by
    have := count_set r i (by simpa using h)
    simp only [List.set_cons_succ, List.countP_cons]
    omega
theorem count_none : ∀ (l : List Bool), l.countP (! ·) = 0 → ∀ i, i < l.length → l[i]? = some true
  | [], _, i, h => by simp at h
  | b :: r, h, i, hi => by
    simp only [List.countP_cons] at h
    cases b with
    | false => simp at h
    | true =>
      cases i with
      | zero => rfl
      | succ i => simpa using count_none r (by simpa using h) i (by simpa using hi)
theorem least_false (l : Array Bool) : (∀ i, i < l.size → l.getD i false = true) ∨ ∃ i, i < l.size ∧ l.getD i false = false ∧ ∀ j, j < i → l.getD j false = true := by
  by_cases h : ∃ i, i < l.size ∧ l.getD i false = false
  · obtain ⟨i, ⟨h1, h2⟩, h3⟩ := least_ex h
    refine .inr ⟨i, h1, h2, fun j hj => ?_⟩
    cases hl : l.getD j false with
    | true => rfl
    | false => have := h3 j ⟨by omega, hl⟩; omega
  · refine .inl fun i hi => ?_
    cases hl : l.getD i false with
    | true => rfl
    | false => exact absurd ⟨i, hi, hl⟩ h
end Lv
