import Derived.Test.YtnogebfcpicghaaGreatDoorEvO
set_option linter.all false
set_option linter.unusedVariables false
set_option linter.unusedSimpArgs false
set_option linter.unusedSectionVars false
namespace Lv
variable [HasG]
open Go Go.RowKit

/-- what one operation of a region does in its own surroundings -/
def LocOk (P : Program) (o : Oper) (st : St) (s : Option Slot) (t : Tr) : Prop := ∀ ρ ok w (a : Act), RepH ρ ok w (onlyN t.looks st.hp) st.nx → RepE ρ ok w st.nx (onlyE (opTmps o) st.env) a.tmps → (∀ d ∈ dstOf o, d < a.tmps.size) →
  ∀ Q : Exit → Act → World → Prop, o.wp P a w (fun a' w' => ∃ v ρ' ok', a' = a.put o.dst v ∧ Eff ρ ok w (onlyN t.looks st.hp) st.nx t.up t.nw ρ' ok' w' ∧ ∀ x, s = some x → SlotR ρ' ok' w' (st.nx + t.nw) x v) Q

structure E where
  o : Oper
  yes : Bool
  s : Option Slot
  t : Tr
def E.go (e : E) (st : St) : St := ⟨setDst st.env e.o.dst e.s, ups st.hp e.t.up, st.nx + e.t.nw, names e.t.up ++ st.dt⟩
def goAll (st : St) : List E → St
  | [] => st
  | e :: r => goAll (e.go st) r

structure CondOk (P : Program) (ops : Array Oper) (st : St) (e : E) : Prop where
  nm : e.t.nm = st.nx
  guard : match e.o.guard with
    | none => e.yes = true
    | some (g, want) => ∃ t, (ops[g]?).bind (·.dst) = some t ∧ ((∃ b, st.env t = some (.v false [.bool b]) ∧ e.yes = (b == want)) ∨ (st.env t = some (.tup []) ∧ e.yes = false))
  no : e.yes = false → e.s = some (.tup []) ∧ e.t.up = [] ∧ e.t.nw = 0
  says : ∀ l, l ∈ slotNames e.s ∨ l ∈ upNames e.t.up → l ∈ e.t.says
  looks : e.yes = true → (∀ t ∈ opTmps e.o, ∀ l ∈ slotNames (st.env t), l ∈ e.t.looks) ∧ (∀ l ∈ e.t.looks, l < st.nx) ∧ (∀ l ∈ e.t.looks, ∀ m ∈ ob1Names (st.hp l), m < st.nx)
  loc : e.yes = true → LocOk P e.o st e.s e.t

theorem allBlt_iff {nx : Nat} : ∀ {l : List Nat}, allBlt nx l = true ↔ ∀ x ∈ l, x < nx
  | [] => by simp [allBlt]
  | x :: r => by
    simp only [allBlt, Bool.and_eq_true, allBlt_iff (l := r), List.mem_cons, forall_eq_or_imp]
    refine and_congr ?_ Iff.rfl
    exact ⟨fun h => Nat.le_of_ble_eq_true h, fun h => Nat.ble_eq_true_of_le h⟩

theorem slotsNames_mem : ∀ {l : List (Option Slot)} {s : Option Slot} {n : Nat}, s ∈ l → n ∈ slotNames s → n ∈ slotsNames l
  | s :: r, t, n, h, hn => by
    rcases List.mem_cons.1 h with rfl | h
    · exact List.mem_append_left _ hn
    · exact List.mem_append_right _ (slotsNames_mem h hn)

theorem opTmps_mem {o : Oper} {t : Nat} : t ∈ opTmps o ↔ Operand.tmp t ∈ o.op.operands.toList := by
  unfold opTmps
  rw [List.mem_filterMap]
  constructor
  · rintro ⟨x, hx, h⟩
    cases x <;> simp at h
    subst h; exact hx
  · intro h
    exact ⟨_, h, rfl⟩

theorem lkOk_spec {st : St} {o : Oper} (h : lkOk st (lkOf st o) = true) :
    (∀ t ∈ opTmps o, ∀ l ∈ slotNames (st.env t), l ∈ lkOf st o) ∧ (∀ l ∈ lkOf st o, l < st.nx) ∧ (∀ l ∈ lkOf st o, ∀ m ∈ ob1Names (st.hp l), m < st.nx) := by
  obtain ⟨h1, h2⟩ := Bool.and_eq_true_iff.1 h
  refine ⟨fun t ht l hl => ?_, allBlt_iff.1 h1, fun l hl m hm => allBlt_iff.1 h2 m (List.mem_flatMap.2 ⟨l, hl, hm⟩)⟩
  refine List.mem_append_left _ (slotsNames_mem (s := st.env t) (List.mem_map.2 ⟨.tmp t, opTmps_mem.1 ht, ?_⟩) hl)
  show onlyE (opTmps o) st.env t = _
  unfold onlyE
  rw [if_pos (memN_iff.2 ht)]

theorem onlyN_sub (l : List Nat) (hp : Heap) : ∀ n o, onlyN l hp n = some o → hp n = some o := fun n o h => by
  unfold onlyN at h
  split at h
  · exact h
  · cases h
theorem onlyN_mem {l : List Nat} {hp : Heap} {n : Nat} {o : Ob} (h : onlyN l hp n = some o) : n ∈ l := by
  unfold onlyN at h
  split at h
  · rename_i hm; exact memN_iff.1 hm
  · cases h

section
variable {P : Program} {cx : Cx} {R : Type}

theorem stepD_run (hcx : CxOk P cx) {o : Oper} {st : St} {κ : St → Tr → Option R} {r : R} (h : stepD cx o st κ = some r) :
    ∃ s t, κ ⟨setDst st.env o.dst s, ups st.hp t.up, st.nx + t.nw, names t.up ++ st.dt⟩ t = some r ∧ t.nm = st.nx ∧ (∀ l, l ∈ slotNames s ∨ l ∈ upNames t.up → l ∈ t.says) ∧ t.looks = lkOf st o ∧ lkOk st (lkOf st o) = true ∧ LocOk P o st s t := by
  unfold stepD at h
  split at h <;> try (cases h; done)
  rename_i hlk
  have plain : (match evOp cx st.nx o.op (opd (onlyE (opTmps o) st.env)) (onlyN (lkOf st o) st.hp) with
      | some r => bif r.c then κ ⟨setDst st.env o.dst r.s, ups st.hp r.up, st.nx + r.nw, names r.up ++ st.dt⟩
          ⟨r.up, lkOf st o, slotNames r.s ++ upNames r.up, st.nx, r.nw⟩ else none
      | none => none) = some r → ∃ s t, κ ⟨setDst st.env o.dst s, ups st.hp t.up, st.nx + t.nw, names t.up ++ st.dt⟩ t = some r ∧ t.nm = st.nx ∧ (∀ l, l ∈ slotNames s ∨ l ∈ upNames t.up → l ∈ t.says) ∧ t.looks = lkOf st o ∧ lkOk st (lkOf st o) = true ∧ LocOk P o st s t := by
    intro h
    split at h <;> try (cases h; done)
    rename_i res hres
    cases hc : res.c with
    | false => rw [hc] at h; cases h
    | true =>
      rw [hc] at h
      refine ⟨res.s, ⟨res.up, lkOf st o, slotNames res.s ++ upNames res.up, st.nx, res.nw⟩, h, rfl, fun l hl => List.mem_append.2 hl, rfl, hlk, ?_⟩
      intro ρ ok w a hH hE hd Q
      have hN : Now P ρ ok w ⟨onlyE (opTmps o) st.env, onlyN (lkOf st o) st.hp, st.nx, []⟩ a (onlyN (lkOf st o) st.hp) := ⟨hH, hE, fun _ _ h => h⟩
      obtain ⟨n, w', ρ', ok', h1, h2, h3⟩ := evOp_ok cx hcx.tab hcx.eqs hN hres hc
      unfold Oper.wp
      rw [h1]
      rcases h3 with ⟨v, rfl, hs⟩ | ⟨rfl, hs⟩
      · exact ⟨v, ρ', ok', rfl, h2, hs⟩
      · exact ⟨undef, ρ', ok', rfl, h2, fun x hx => by rw [hs] at hx; cases hx⟩
  split at h
  · rename_i f args ts ho
    split at h <;> try (cases h; done)
    rename_i g as hg
    split at h <;> try (cases h; done)
    rename_i sp hsp
    obtain ⟨hent, hspec⟩ := hcx.spec g _ _ sp hsp
    split at h <;> try (cases h; done)
    rename_i cr hcr
    unfold evCall at hcr
    split at hcr <;> try (cases hcr; done)
    rename_i hn
    split at hcr <;> try (cases hcr; done)
    rename_i hchk
    simp only [Bool.and_eq_true] at hchk
    obtain ⟨c1, c2, c3, c4⟩ := hchk
    split at hcr <;> try (cases hcr; done)
    rename_i x hx
    cases hcr
    obtain ⟨y, hy, hκ⟩ := Option.bind_eq_some_iff.1 h
    refine ⟨_, ⟨_, lkOf st o, _, st.nx, _⟩, hκ, rfl, fun l hl => List.mem_append.2 hl, rfl, hlk, ?_⟩
    intro ρ ok w a hH hE hd Q
    have hN : Now P ρ ok w ⟨onlyE (opTmps o) st.env, onlyN (lkOf st o) st.hp, st.nx, []⟩ a (onlyN (lkOf st o) st.hp) := ⟨hH, hE, fun _ _ h => h⟩
    obtain ⟨vals, hsz, hv, hrun⟩ := callee_ok hN ho hg
    obtain ⟨ρi, oki, i1, i2, i3⟩ := call_eff hH (fun _ _ h => h) hv c1 (Nat.le_of_ble_eq_true c2) c3 c4 hx
    unfold Oper.wp
    rw [hrun hent]
    rw [Oper.upon_enter]
    refine (hspec x y hy ρi oki w vals (by rw [hsz]; exact Nat.eq_of_beq_eq_true hn) i1 i2).mono ?_
    rintro e w' ⟨v, ρ', ok', rfl, e1, e2, e3⟩
    obtain ⟨ρ2, e4, e5⟩ := i3 y v w' ρ' ok' e1 e2 e3
    exact ⟨v, ρ2, ok', rfl, e4, e5⟩
  · exact plain h

theorem put_idle {env : Env} {t : Nat} {s : Option Slot} (h : env t = s) : Lv.put env t s = env := by
  funext i
  simp only [Lv.put]
  split
  · rename_i hi; rw [Nat.eq_of_beq_eq_true hi, h]
  · rfl

theorem drawn_runs (hcx : CxOk P cx) (ops : Array Oper) : ∀ (l : List Oper) (st : St) (tr : List Tr) (κ : St → List Tr → Option R) (r : R), evDrawn cx ops l st tr κ = some r →
    ∃ es : List E, es.map (·.o) = l ∧ κ (goAll st es) (tr ++ es.map (·.t)) = some r ∧ ∀ i e, es[i]? = some e → CondOk P ops (goAll st (es.take i)) e
  | [], st, tr, κ, r, h => ⟨[], rfl, by simpa [evDrawn, goAll] using h, fun i e he => by simp at he⟩
  | o :: l, st, tr, κ, r, h => by
    have add : ∀ (e : E), e.o = o → CondOk P ops st e → evDrawn cx ops l (e.go st) (tr ++ [e.t]) κ = some r →
        ∃ es : List E, es.map (·.o) = o :: l ∧ κ (goAll st es) (tr ++ es.map (·.t)) = some r ∧ ∀ i e, es[i]? = some e → CondOk P ops (goAll st (es.take i)) e := by
      intro e he hc h
      obtain ⟨es, h1, h2, h3⟩ := drawn_runs hcx ops l (e.go st) (tr ++ [e.t]) κ r h
      refine ⟨e :: es, by simp [he, h1], by simpa [goAll] using h2, fun i x hx => ?_⟩
      cases i with
      | zero => simp at hx; subst hx; exact hc
      | succ i => exact h3 i x (by simpa using hx)
    have doIt : stepD cx o st (fun st t => evDrawn cx ops l st (tr ++ [t]) κ) = some r →
        (match o.guard with
          | none => True
          | some (g, want) => ∃ t, (ops[g]?).bind (·.dst) = some t ∧ ((∃ b, st.env t = some (.v false [.bool b]) ∧ true = (b == want)) ∨ (st.env t = some (.tup []) ∧ true = false))) →
        ∃ es : List E, es.map (·.o) = o :: l ∧ κ (goAll st es) (tr ++ es.map (·.t)) = some r ∧ ∀ i e, es[i]? = some e → CondOk P ops (goAll st (es.take i)) e := by
      intro hs hg
      obtain ⟨s, t, h1, h2, h3, h4, h5, h6⟩ := stepD_run hcx hs
      refine add ⟨o, true, s, t⟩ rfl ⟨h2, ?_, (fun h => by cases h), h3, (fun _ => ?_), fun _ => h6⟩ h1
      · simp only
        revert hg
        cases o.guard with
        | none => exact fun _ => trivial
        | some p => exact id
      · simp only [h4]; exact lkOk_spec h5
    have skipIt : evDrawn cx ops l ⟨setDst st.env o.dst (some (.tup [])), st.hp, st.nx, st.dt⟩ (tr ++ [⟨[], [], [], st.nx, 0⟩]) κ = some r →
        (∃ g want, o.guard = some (g, want) ∧ ∃ t, (ops[g]?).bind (·.dst) = some t ∧ ((∃ b, st.env t = some (.v false [.bool b]) ∧ false = (b == want)) ∨ (st.env t = some (.tup []) ∧ false = false))) →
        ∃ es : List E, es.map (·.o) = o :: l ∧ κ (goAll st es) (tr ++ es.map (·.t)) = some r ∧ ∀ i e, es[i]? = some e → CondOk P ops (goAll st (es.take i)) e := by
      rintro hs ⟨g, want, hg, ht⟩
      refine add ⟨o, false, some (.tup []), ⟨[], [], [], st.nx, 0⟩⟩ rfl ⟨rfl, ?_, (fun _ => ⟨rfl, rfl, rfl⟩), ?_, (fun h => by cases h), (fun h => by cases h)⟩ hs
      · simp only [hg]; simpa using ht
      · rintro l (hl | hl) <;> cases hl
    simp only [evDrawn] at h
    split at h
    · rename_i hg
      exact doIt h (by rw [hg]; trivial)
    · rename_i g want hg
      split at h <;> try (cases h; done)
      rename_i t ht
      split at h
      case h_2 =>
        split at h <;> try (cases h; done)
        rename_i hu
        exact skipIt h ⟨g, want, hg, t, ht, .inr ⟨hu, rfl⟩⟩
      rename_i b hb
      have hb := cells1_some hb
      cases b with
      | true =>
        rw [put_idle hb] at h
        simp only [cond_true] at h
        cases want with
        | true => exact doIt h (by rw [hg]; exact ⟨t, ht, .inl ⟨true, hb, rfl⟩⟩)
        | false => exact skipIt h ⟨g, false, hg, t, ht, .inl ⟨true, hb, rfl⟩⟩
      | false =>
        rw [put_idle hb] at h
        simp only [cond_false] at h
        cases want with
        | false => exact doIt h (by rw [hg]; exact ⟨t, ht, .inl ⟨false, hb, rfl⟩⟩)
        | true => exact skipIt h ⟨g, true, hg, t, ht, .inl ⟨false, hb, rfl⟩⟩
end

/-! ## Memory whose writers come in another order -/
section
variable {α : Type} {n : Nat} {val : Nat → Nat → α} {wr : Nat → Nat → Option α} {rd : Nat → Nat → Prop} {ord : Nat → Nat → Prop}

/-- canonical memory: what stands at a key before each writer -/
structure Canon (n : Nat) (val : Nat → Nat → α) (wr : Nat → Nat → Option α) (rd : Nat → Nat → Prop) (ord : Nat → Nat → Prop) : Prop where
  step : ∀ i, i < n → ∀ k, val (i + 1) k = (wr i k).getD (val i k)
  free : ∀ i j, i < j → j < n → ¬ ord i j → ∀ k, (wr i k ≠ none → ¬ rd j k ∧ wr j k = none) ∧ (wr j k ≠ none → ¬ rd i k)
/-- what stands there now, when 'ls' have come up -/
def Seen (n : Nat) (val : Nat → Nat → α) (wr : Nat → Nat → Option α) (rd : Nat → Nat → Prop) (ls : Nat → Prop) (cur : Nat → α) : Prop :=
  ∀ k, (k = n ∨ (k < n ∧ ¬ ls k)) → ∀ key, (k = n ∨ rd k key) → (∀ j, j < k → ¬ ls j → wr j key = none) → cur key = val k key

theorem Canon.keep (h : Canon n val wr rd ord) {i k : Nat} (hik : i ≤ k) (hk : k ≤ n) {key : Nat} (hn : ∀ j, i ≤ j → j < k → wr j key = none) : val k key = val i key := by
  induction k with
  | zero => cases Nat.le_zero.1 hik; rfl
  | succ k ih =>
    by_cases hk' : i = k + 1
    · subst hk'; rfl
    · rw [h.step k (by omega), hn k (by omega) (by omega), Option.getD_none]
      exact ih (by omega) (by omega) fun j h1 h2 => hn j h1 (by omega)
theorem Canon.start (h : Canon n val wr rd ord) : Seen n val wr rd (fun _ => False) (val 0) := fun k hk key _ hn =>
  (h.keep (Nat.zero_le k) (by omega) fun j _ hj => hn j hj id).symm
/-- a reader that may come up sees what it must -/
theorem Canon.reads (h : Canon n val wr rd ord) {ls : Nat → Prop} {cur : Nat → α} (hs : Seen n val wr rd ls cur) {i : Nat} (hi : i < n) (hn : ¬ ls i) (hr : ∀ j, ord j i → ls j) {key : Nat} (hk : rd i key) : cur key = val i key := by
  refine hs i (.inr ⟨hi, hn⟩) key (.inr hk) fun j hj hjn => ?_
  cases hw : wr j key with
  | none => rfl
  | some x => exact absurd hk ((h.free j i hj hi fun ho => hjn (hr j ho)) key |>.1 (by rw [hw]; simp)).1
theorem Canon.next (h : Canon n val wr rd ord) {ls : Nat → Prop} {cur : Nat → α} (hs : Seen n val wr rd ls cur) {i : Nat} (hi : i < n) (hn : ¬ ls i) (hr : ∀ j, ord j i → ls j) (hdown : ∀ j, j < n → ls j → ∀ m, ord m j → ls m)
    {cur' : Nat → α} (hc : ∀ key, cur' key = (wr i key).getD (cur key)) : Seen n val wr rd (fun j => ls j ∨ j = i) cur' := by
  intro k hk key hkr hnw
  have hk2 : k = n ∨ (k < n ∧ ¬ ls k) := hk.imp id fun ⟨a, b⟩ => ⟨a, fun hl => b (.inl hl)⟩
  rw [hc]
  cases hw : wr i key with
  | none =>
    rw [Option.getD_none]
    refine hs k hk2 key hkr fun j hj hjn => ?_
    by_cases hji : j = i
    · subst hji; exact hw
    · exact hnw j hj fun hx => hx.elim hjn hji
  | some v =>
    rw [Option.getD_some]
    have hik : i < k := by
      rcases hk with rfl | ⟨hk1, hk2⟩
      · exact hi
      · rcases hkr with rfl | hkr
        · exact hi
        · rcases Nat.lt_trichotomy i k with hlt | heq | hgt
          · exact hlt
          · exact absurd (.inr heq.symm) hk2
          · exact absurd hkr ((h.free k i hgt hi fun ho => hk2 (.inl (hr k ho))) key |>.2 (by rw [hw]; simp))
    have hkn : k ≤ n := by omega
    rw [h.keep (i := i + 1) hik hkn fun j hj1 hj2 => ?_, h.step i hi, hw, Option.getD_some]
    by_cases hjl : ls j
    · exact ((h.free i j hj1 (by omega) fun ho => hn (hdown j (by omega) hjl i ho)) key |>.1 (by rw [hw]; simp)).2
    · exact hnw j hj2 fun hx => hx.elim hjl (by omega)
theorem Canon.last (h : Canon n val wr rd ord) {ls : Nat → Prop} {cur : Nat → α} (hs : Seen n val wr rd ls cur) (hall : ∀ i, i < n → ls i) (key : Nat) : cur key = val n key :=
  hs n (.inl rfl) key (.inl rfl) fun j hj hn => absurd (hall j hj) hn
end
end Lv
