import Derived.Test.YtnogebfcpicghaaGreatDoorEvK
set_option linter.all false
set_option linter.unusedVariables false
set_option linter.unusedSimpArgs false
set_option linter.unusedSectionVars false
namespace Lv
variable [HasG]
open Go Go.RowKit

/-! ## A contract, and a call by it -/
structure Exits (hin : Heap) (ρ : Nat → Value) (ok : Nat → Prop) (w : World) (hout : Heap) (ρ' : Nat → Value) (ok' : Nat → Prop) (w' : World) : Prop where
  os : w'.os = w.os
  tape : w'.tape = w.tape
  output : Quiet w w'
  size : w.heap.size ≤ w'.heap.size
  same : ∀ b, b < w.heap.size → (∀ l o, hin l = some o → o.own = true → blk (ρ l) ≠ some b) → w'.heap[b]? = w.heap[b]?
  okm : ∀ b, ok b → ok' b
  okn : ∀ b, ok' b → ok b ∨ w.heap.size ≤ b ∨ ∃ l o, hin l = some o ∧ o.own = true ∧ blk (ρ l) = some b
  inn : ∀ l o, hout l = some o → l < 1000 → ρ' l = ρ l ∧ ∃ p, hin l = some p ∧ (o.own = true → p.own = true)
  new : ∀ l o b, hout l = some o → 1000 ≤ l → o.own = true → blk (ρ' l) = some b → w.heap.size ≤ b ∨ ∃ m p, hin m = some p ∧ p.own = true ∧ blk (ρ m) = some b

def SpecOk (P : Program) (g : FuncId) (sp : Spec) : Prop := ∀ x y, sp.F x = some y → ∀ ρ ok w args, args.size = sp.n → RepH ρ ok w (hpOut sp.si id x) 1000 → RepE ρ ok w 1000 (envOut sp.si id x) args →
  Calls P g args w fun e w' => ∃ v ρ' ok', e = .returned v ∧ RepH ρ' ok' w' (hpOut sp.so id y) sp.so.nn ∧ RepE ρ' ok' w' sp.so.nn (envOut sp.so id y) #[v] ∧ Exits (hpOut sp.si id x) ρ ok w (hpOut sp.so id y) ρ' ok' w'

/-- what a panic leaves: all that was there and is no own object of what came in -/
structure PanW (ρ : Nat → Value) (w : World) (hin : Heap) (w' : World) : Prop where
  os : w'.os = w.os
  tape : w'.tape = w.tape
  output : Quiet w w'
  size : w.heap.size ≤ w'.heap.size
  same : ∀ b, b < w.heap.size → (∀ l o, hin l = some o → o.own = true → blk (ρ l) ≠ some b) → w'.heap[b]? = w.heap[b]?
theorem PanW.refl (ρ : Nat → Value) (w : World) (hin : Heap) : PanW ρ w hin w := ⟨rfl, rfl, Quiet.rfl, Nat.le_refl _, fun _ _ _ => rfl⟩
theorem Goes.pan {ρ ok w hp nx D ρ1 ok1 w1 hp1 nx1} (h : Goes ρ ok w hp nx D ρ1 ok1 w1 hp1 nx1) {w' : World} (k : PanW ρ1 w1 hp1 w') : PanW ρ w hp w' := by
  refine ⟨k.os.trans h.os, k.tape.trans h.tape, k.output.trans h.output, Nat.le_trans h.size k.size, fun b hb hne => ?_⟩
  refine (k.same b (Nat.lt_of_lt_of_le hb h.size) fun l o ho hw hbl => ?_).trans (h.same b hb fun l _ _ o ho hw => hne l o ho hw)
  by_cases hl : l < nx
  · obtain ⟨p, h1, h2⟩ := h.stay l hl o ho
    rw [h.rho l hl] at hbl
    exact hne l p h1 (h2 hw) hbl
  · rcases h.nb l o b (by omega) ho hw hbl with g | ⟨m, _, _, p, g1, g2, g3⟩
    · omega
    · exact hne m p g1 g2 g3
def panE (t : Nat) (n : Int) : List PanicEntry := [{ v := bpan t n, recovered := false }]
def SpecPOk (P : Program) (g : FuncId) (pan : Nat) (sp : SpecP) : Prop := ∀ x z, sp.F x = some z → ∀ ρ ok w args, args.size = sp.n → RepH ρ ok w (hpOut sp.si id x) 1000 → RepE ρ ok w 1000 (envOut sp.si id x) args →
  Calls P g args w fun e w' => match z with
    | .inl y => ∃ v ρ' ok', e = .returned v ∧ RepH ρ' ok' w' (hpOut sp.so id y) sp.so.nn ∧ RepE ρ' ok' w' sp.so.nn (envOut sp.so id y) #[v] ∧ Exits (hpOut sp.si id x) ρ ok w (hpOut sp.so id y) ρ' ok' w'
    | .inr n => e = .panicked (panE pan n) ∧ PanW ρ w (hpOut sp.si id x) w'

theorem RepH.sub {ρ ok w hp nx} (h : RepH ρ ok w hp nx) {hp' : Heap} (hs : ∀ l o, hp' l = some o → hp l = some o) : RepH ρ ok w hp' nx :=
  ⟨fun l o ho => h.ob l o (hs l o ho), h.okl, fun l o b ho => h.sep l o b (hs l o ho), fun l m o p b ho hp => h.dis l m o p b (hs l o ho) (hs m p hp), h.gl⟩
theorem RepH.more {ρ ok w hp nx nx'} (h : RepH ρ ok w hp nx) (hn : nx ≤ nx') : RepH ρ ok w hp nx' :=
  ⟨fun l o ho => ⟨by have := (h.ob l o ho).1; omega, (h.ob l o ho).2.move (Same.refl _ _) (fun _ _ => rfl) hn rfl fun _ _ _ => rfl⟩, h.okl, h.sep, h.dis, h.gl⟩
theorem RepE.more {ρ ok w nx nx' env tmps} (h : RepE ρ ok w nx env tmps) (hn : nx ≤ nx') : RepE ρ ok w nx' env tmps := fun t s hs =>
  let ⟨v, h1, h2⟩ := h t s hs
  ⟨v, h1, h2.move (Same.refl _ _) (fun _ _ => rfl) hn⟩

section
variable {ρ ρ' : Nat → Value} {ok : Nat → Prop} {w : World} {nn nx : Nat} {f : Nat → Nat} {obs : List Nat}

/-- a renaming that keeps what names stand for -/
def RenOk (ρ ρ' : Nat → Value) (nn nx : Nat) (obs : List Nat) (f : Nat → Nat) : Prop := ∀ l, l < nn → (1000 ≤ l ∨ l ∈ obs) → f l < nx ∧ ρ' (f l) = ρ l

theorem ofC_ren (hf : RenOk ρ ρ' nn nx obs f) : ∀ {τ : Type} (cs : List CSh) (y : TL cs τ) (vs : List Value), cshIn obs cs = true → All2 (CellR ρ ok w nn) (ofC id cs y).1 vs →
    All2 (CellR ρ' ok w nx) (ofC f cs y).1 vs ∧ (ofC f cs y).2 = (ofC id cs y).2
  | τ, [], y, vs, _, h => by cases h; exact ⟨.nil, rfl⟩
  | τ, .int k :: r, y, vs, hi, h => by cases h with | cons h t => exact ⟨.cons h (ofC_ren hf r _ _ hi t).1, (ofC_ren hf r _ _ hi t).2⟩
  | τ, .bool :: r, y, vs, hi, h => by cases h with | cons h t => exact ⟨.cons h (ofC_ren hf r _ _ hi t).1, (ofC_ren hf r _ _ hi t).2⟩
  | τ, .str :: r, y, vs, hi, h => by cases h with | cons h t => exact ⟨.cons h (ofC_ren hf r _ _ hi t).1, (ofC_ren hf r _ _ hi t).2⟩
  | τ, .val :: r, y, vs, hi, h => by cases h with | cons h t => exact ⟨.cons h (ofC_ren hf r _ _ hi t).1, (ofC_ren hf r _ _ hi t).2⟩
  | τ, .sl e t' :: r, y, vs, hi, h => by cases h with | cons h t => exact ⟨.cons h (ofC_ren hf r _ _ hi t).1, (ofC_ren hf r _ _ hi t).2⟩
  | τ, .fn g :: r, y, vs, hi, h => by cases h with | cons h t => exact ⟨.cons h (ofC_ren hf r _ _ hi t).1, (ofC_ren hf r _ _ hi t).2⟩
  | τ, .ref l :: r, y, vs, hi, h => by
    obtain ⟨h1, h2⟩ := Bool.and_eq_true_iff.1 hi
    cases h with
    | cons h t =>
      have hl : 1000 ≤ l ∨ l ∈ obs := (Bool.or_eq_true_iff.1 h1).imp Nat.le_of_ble_eq_true memN_iff.1
      obtain ⟨g1, g2⟩ := hf l h.1 hl
      exact ⟨.cons ⟨g1, h.2.1.trans g2.symm, h.2.2⟩ (ofC_ren hf r _ _ h2 t).1, (ofC_ren hf r _ _ h2 t).2⟩
  | τ, .ptr l o :: r, y, vs, hi, h => by
    obtain ⟨h1, h2⟩ := Bool.and_eq_true_iff.1 hi
    cases h with
    | cons h t =>
      have hl : 1000 ≤ l ∨ l ∈ obs := (Bool.or_eq_true_iff.1 h1).imp Nat.le_of_ble_eq_true memN_iff.1
      obtain ⟨g0, b, e1, e2⟩ := h
      obtain ⟨g1, g2⟩ := hf l g0 hl
      exact ⟨.cons ⟨g1, b, g2.trans e1, e2⟩ (ofC_ren hf r _ _ h2 t).1, (ofC_ren hf r _ _ h2 t).2⟩
  | τ, .ifc :: r, y, vs, hi, h => by cases h with | cons h t => exact ⟨.cons h (ofC_ren hf r _ _ hi t).1, (ofC_ren hf r _ _ hi t).2⟩
  | τ, .np l :: r, y, vs, hi, h => by
    obtain ⟨h1, h2⟩ := Bool.and_eq_true_iff.1 hi
    cases h with
    | cons h t =>
      have hl : 1000 ≤ l ∨ l ∈ obs := (Bool.or_eq_true_iff.1 h1).imp Nat.le_of_ble_eq_true memN_iff.1
      obtain ⟨g0, e⟩ := h
      obtain ⟨g1, g2⟩ := hf l g0 hl
      exact ⟨.cons ⟨g1, e.imp (fun h => h) fun ⟨b, e1, e2⟩ => ⟨b, g2.trans e1, e2⟩⟩ (ofC_ren hf r _ _ h2 t).1, (ofC_ren hf r _ _ h2 t).2⟩

theorem ofC_snd (f g : Nat → Nat) : ∀ {τ : Type} (cs : List CSh) (y : TL cs τ), (ofC f cs y).2 = (ofC g cs y).2
  | τ, [], y => rfl
  | τ, .int k :: r, y => ofC_snd f g r _
  | τ, .bool :: r, y => ofC_snd f g r _
  | τ, .str :: r, y => ofC_snd f g r _
  | τ, .val :: r, y => ofC_snd f g r _
  | τ, .sl e t' :: r, y => ofC_snd f g r _
  | τ, .fn _ :: r, y => ofC_snd f g r _
  | τ, .ref l :: r, y => ofC_snd f g r _
  | τ, .ptr l o :: r, y => ofC_snd f g r _
  | τ, .ifc :: r, y => ofC_snd f g r _
  | τ, .np l :: r, y => ofC_snd f g r _
theorem ofC_len (f : Nat → Nat) : ∀ {τ : Type} (cs : List CSh) (y : TL cs τ), (ofC f cs y).1.length = cs.length
  | τ, [], y => rfl
  | τ, .int k :: r, y => by simp [ofC, ofC_len f r]
  | τ, .bool :: r, y => by simp [ofC, ofC_len f r]
  | τ, .str :: r, y => by simp [ofC, ofC_len f r]
  | τ, .val :: r, y => by simp [ofC, ofC_len f r]
  | τ, .sl e t' :: r, y => by simp [ofC, ofC_len f r]
  | τ, .fn _ :: r, y => by simp [ofC, ofC_len f r]
  | τ, .ref l :: r, y => by simp [ofC, ofC_len f r]
  | τ, .ptr l o :: r, y => by simp [ofC, ofC_len f r]
  | τ, .ifc :: r, y => by simp [ofC, ofC_len f r]
  | τ, .np l :: r, y => by simp [ofC, ofC_len f r]
theorem ofCs_snd (f g : Nat → Nat) : ∀ {τ : Type} (cs : List (Bool × List CSh)) (y : TLs cs τ), (ofCs f cs y).2 = (ofCs g cs y).2
  | τ, [], y => rfl
  | τ, (a, cs) :: r, y => by
    simp only [ofCs]
    rw [ofC_snd f g cs y]
    exact ofCs_snd f g r _
theorem ofSl_snd (f g : Nat → Nat) (E F : Env) : ∀ {τ : Type} (l : List (Nat × SSh)) (y : TSl l τ), (ofSl f E l y).2 = (ofSl g F l y).2
  | τ, [], y => rfl
  | τ, (t, .v a cs) :: r, y => by
    simp only [ofSl]
    rw [ofC_snd f g cs y]
    exact ofSl_snd f g E F r _
  | τ, (t, .tup cs) :: r, y => by
    simp only [ofSl]
    rw [ofCs_snd f g cs y]
    exact ofSl_snd f g E F r _

theorem VR_ren (hf : RenOk ρ ρ' nn nx obs f) {τ : Type} {cs : List CSh} {y : TL cs τ} {v : Value} {g : Bool} (hi : cshIn obs cs = true) (h : VR ρ ok w nn g (ofC id cs y).1 v) : VR ρ' ok w nx g (ofC f cs y).1 v := by
  cases g with
  | true =>
    obtain ⟨us, e, hus⟩ := h
    exact ⟨us, e, (ofC_ren hf cs y us hi hus).1⟩
  | false =>
    obtain ⟨c, e, hc⟩ := h
    have hus : All2 (CellR ρ ok w nn) (ofC id cs y).1 [v] := by rw [e]; exact .cons hc .nil
    have h2 := (ofC_ren hf cs y _ hi hus).1
    have hl := h2.len
    match hm' : (ofC f cs y).1, hl with
    | [c'], _ =>
      rw [hm'] at h2
      obtain ⟨v2, e2, hv2⟩ := h2.one
      cases e2
      exact ⟨c', rfl, hv2⟩
theorem VRs_ren (hf : RenOk ρ ρ' nn nx obs f) : ∀ {τ : Type} (cs : List (Bool × List CSh)) (y : TLs cs τ) (vs : List Value), cshsIn obs cs = true → All2 (fun (p : Bool × List Cell) u => VR ρ ok w nn p.1 p.2 u) (ofCs id cs y).1 vs →
    All2 (fun (p : Bool × List Cell) u => VR ρ' ok w nx p.1 p.2 u) (ofCs f cs y).1 vs
  | τ, [], y, vs, _, h => by cases h; exact .nil
  | τ, (g, cs) :: r, y, vs, hi, h => by
    obtain ⟨h1, h2⟩ := Bool.and_eq_true_iff.1 hi
    cases h with
    | cons h t =>
      refine .cons (VR_ren hf h1 h) ?_
      show All2 _ (ofCs f r (ofC f cs y).2).1 _
      rw [ofC_snd f id cs y]
      exact VRs_ren hf r _ _ h2 t
theorem ofSl_ren (hf : RenOk ρ ρ' nn nx obs f) : ∀ {τ : Type} (l : List (Nat × SSh)) (y : TSl l τ), slIn obs l = true → ∀ u s, (ofSl f (fun _ => none) l y).1 u = some s → ∃ s', (ofSl id (fun _ => none) l y).1 u = some s' ∧ ∀ v, SlotR ρ ok w nn s' v → SlotR ρ' ok w nx s v
  | τ, [], y, _, u, s, hs => by cases hs
  | τ, (t, .v g cs) :: r, y, hi, u, s, hs => by
    obtain ⟨h1, h2⟩ := Bool.and_eq_true_iff.1 hi
    simp only [ofSl, put] at hs ⊢
    split at hs
    · rename_i he
      cases hs
      exact ⟨.v g (ofC id cs y).1, by rw [if_pos he], fun v hv => VR_ren hf h1 hv⟩
    · rename_i he
      rw [ofC_snd f id cs y] at hs
      obtain ⟨s', h3, h4⟩ := ofSl_ren hf r _ h2 u s hs
      exact ⟨s', by rw [if_neg he]; exact h3, h4⟩
  | τ, (t, .tup l) :: r, y, hi, u, s, hs => by
    obtain ⟨h1, h2⟩ := Bool.and_eq_true_iff.1 hi
    simp only [ofSl, put] at hs ⊢
    split at hs
    · rename_i he
      cases hs
      exact ⟨.tup (ofCs id l y).1, by rw [if_pos he], fun v ⟨us, e, hv⟩ => ⟨us, e, VRs_ren hf l y us h1 hv⟩⟩
    · rename_i he
      rw [ofCs_snd f id l y] at hs
      obtain ⟨s', h3, h4⟩ := ofSl_ren hf r _ h2 u s hs
      exact ⟨s', by rw [if_neg he]; exact h3, h4⟩

theorem ofO_ren (hf : RenOk ρ ρ' nn nx obs f) : ∀ (l : List (Nat × Bool × OSh)) (y : TO l), obIn obs l = true → ∀ q o, ofO f (fun _ => none) l y q = some o →
    ∃ p ∈ l, q = f p.1 ∧ ∃ o', ofO id (fun _ => none) l y p.1 = some o' ∧ o'.own = o.own ∧ (p.1 < nn → (1000 ≤ p.1 ∨ p.1 ∈ obs) → ObR ρ ok w nn p.1 o' → ObR ρ' ok w nx q o)
  | [], y, _, q, o, h => by cases h
  | (l, k, .box e cs) :: r, y, hi, q, o, h => by
    obtain ⟨h1, h2⟩ := Bool.and_eq_true_iff.1 hi
    simp only [ofO] at h ⊢
    by_cases hq : q = f l
    · subst hq
      rw [put_same] at h
      cases h
      refine ⟨_, List.mem_cons_self, rfl, _, put_same _ _ _, rfl, fun hl ho hr => ?_⟩
      obtain ⟨b, vs, g1, g2, g3⟩ := hr
      exact ⟨b, vs, (hf l hl ho).2.trans g1, g2, (ofC_ren hf cs y vs h1 g3).1⟩
    · rw [put_ne _ _ hq, ofC_snd f id cs y] at h
      obtain ⟨p, hp, e1, o', h3, h4, h5⟩ := ofO_ren hf r _ h2 q o h
      refine ⟨p, List.mem_cons_of_mem _ hp, e1, o', ?_, h4, h5⟩
      have : p.1 ≠ l := fun e => hq (by rw [e1, e])
      exact (put_ne _ _ this).trans h3
  | (l, k, .arr e t) :: r, y, hi, q, o, h => by
    simp only [ofO] at h ⊢
    by_cases hq : q = f l
    · subst hq
      rw [put_same] at h
      cases h
      refine ⟨_, List.mem_cons_self, rfl, _, put_same _ _ _, rfl, fun hl ho hr => ?_⟩
      obtain ⟨inner, g1, g2⟩ := hr
      exact ⟨inner, by rw [(hf l hl ho).2]; exact g1, g2⟩
    · rw [put_ne _ _ hq] at h
      obtain ⟨p, hp, e1, o', h3, h4, h5⟩ := ofO_ren hf r _ hi q o h
      refine ⟨p, List.mem_cons_of_mem _ hp, e1, o', ?_, h4, h5⟩
      have : p.1 ≠ l := fun e => hq (by rw [e1, e])
      exact (put_ne _ _ this).trans h3
  | (l, k, .mp e t) :: r, y, hi, q, o, h => by
    simp only [ofO] at h ⊢
    by_cases hq : q = f l
    · subst hq
      rw [put_same] at h
      cases h
      refine ⟨_, List.mem_cons_self, rfl, _, put_same _ _ _, rfl, fun hl ho hr => ?_⟩
      obtain ⟨rr, es, clock, g1, g2, g3, g4⟩ := hr
      exact ⟨rr, es, clock, by rw [(hf l hl ho).2]; exact g1, g2, g3, g4⟩
    · rw [put_ne _ _ hq] at h
      obtain ⟨p, hp, e1, o', h3, h4, h5⟩ := ofO_ren hf r _ hi q o h
      refine ⟨p, List.mem_cons_of_mem _ hp, e1, o', ?_, h4, h5⟩
      have : p.1 ≠ l := fun e => hq (by rw [e1, e])
      exact (put_ne _ _ this).trans h3
end

theorem ofO_there (f : Nat → Nat) (H0 : Heap) : ∀ (l : List (Nat × Bool × OSh)) (y : TO l) (p : Nat × Bool × OSh), p ∈ l → ∃ o, ofO f H0 l y (f p.1) = some o
  | (l, k, .box e cs) :: r, y, p, hp => by
    simp only [ofO]
    by_cases h : f p.1 = f l
    · rw [h]; exact ⟨_, put_same _ _ _⟩
    · rw [put_ne _ _ h]
      rcases List.mem_cons.1 hp with rfl | hp
      · exact absurd rfl h
      · exact ofO_there f H0 r _ p hp
  | (l, k, .arr e t) :: r, y, p, hp => by
    simp only [ofO]
    by_cases h : f p.1 = f l
    · rw [h]; exact ⟨_, put_same _ _ _⟩
    · rw [put_ne _ _ h]
      rcases List.mem_cons.1 hp with rfl | hp
      · exact absurd rfl h
      · exact ofO_there f H0 r _ p hp
  | (l, k, .mp e t) :: r, y, p, hp => by
    simp only [ofO]
    by_cases h : f p.1 = f l
    · rw [h]; exact ⟨_, put_same _ _ _⟩
    · rw [put_ne _ _ h]
      rcases List.mem_cons.1 hp with rfl | hp
      · exact absurd rfl h
      · exact ofO_there f H0 r _ p hp

theorem obNames_mem : ∀ {l : List (Nat × Bool × OSh)} {p : Nat × Bool × OSh}, p ∈ l → p.1 ∈ obNames l
  | (k, r) :: l, p, h => by
    rcases List.mem_cons.1 h with rfl | h
    · exact List.mem_cons_self
    · exact List.mem_cons_of_mem _ (obNames_mem h)
theorem obNames_some : ∀ {l : List (Nat × Bool × OSh)} {n : Nat}, n ∈ obNames l → ∃ p ∈ l, p.1 = n
  | [], n, h => by cases h
  | (k, r) :: l, n, h => by
    rcases List.mem_cons.1 h with rfl | h
    · exact ⟨_, List.mem_cons_self, rfl⟩
    · obtain ⟨p, h1, h2⟩ := obNames_some h
      exact ⟨p, List.mem_cons_of_mem _ h1, h2⟩
theorem backOk_spec {ren : Ren} : ∀ {l : List (Nat × Bool × OSh)}, backOk ren l = true → ∀ p ∈ l, p.1 < 1000 → ∃ m, ren p.1 = some m
  | (k, r) :: l, h, p, hp, hlt => by
    simp only [backOk, Bool.and_eq_true] at h
    rcases List.mem_cons.1 hp with rfl | hp
    · have h1 := h.1
      rw [if_neg (fun e => by have := Nat.le_of_ble_eq_true e; omega)] at h1
      simp only at hlt
      cases hr : ren k with
      | some m => exact ⟨m, rfl⟩
      | none => rw [hr] at h1; cases h1
    · exact backOk_spec h.2 p hp hlt

theorem obUps_at (f : Nat → Nat) (H hp : Heap) : ∀ (l : List (Nat × Bool × OSh)) (q : Nat), (∀ p ∈ l, q ≠ f p.1) ∧ ups hp (obUps f H l) q = hp q ∨ (∃ p ∈ l, q = f p.1) ∧ ups hp (obUps f H l) q = H q
  | [], q => .inl ⟨fun p hp => (by cases hp), rfl⟩
  | (k, r) :: l, q => by
    rcases obUps_at f H (put hp (f k) (H (f k))) l q with ⟨h1, h2⟩ | ⟨⟨p, h1, h2⟩, h3⟩
    · by_cases e : q = f k
      · refine .inr ⟨⟨_, List.mem_cons_self, e⟩, ?_⟩
        show ups (put hp (f k) (H (f k))) (obUps f H l) q = _
        rw [h2, e, put_same]
      · refine .inl ⟨fun p hp => ?_, ?_⟩
        · rcases List.mem_cons.1 hp with rfl | hp
          · exact e
          · exact h1 p hp
        · show ups (put hp (f k) (H (f k))) (obUps f H l) q = _
          rw [h2, put_ne _ _ e]
    · exact .inr ⟨⟨p, List.mem_cons_of_mem _ h1, h2⟩, h3⟩
theorem obUps_names (f : Nat → Nat) (H : Heap) : ∀ (l : List (Nat × Bool × OSh)) (q : Nat), q ∈ names (obUps f H l) ↔ ∃ p ∈ l, q = f p.1
  | [], q => by simp [obUps, names]
  | (k, r) :: l, q => by
    have ih := obUps_names f H l q
    simp only [names] at ih
    simp only [obUps, names, List.map_cons, List.mem_cons, ih]
    constructor
    · rintro (h | ⟨p, h1, h2⟩)
      · exact ⟨_, .inl rfl, h⟩
      · exact ⟨p, .inr h1, h2⟩
    · rintro ⟨p, rfl | h1, h2⟩
      · exact .inl h2
      · exact .inr ⟨p, h1, h2⟩

/-- what is left behind a state was taken -/
theorem leave_at (sh : Sh) (env : Env) (hp hp' : Heap) (hs : ∀ l o, hp' l = some o → hp l = some o) (q : Nat) :
    (q ∉ names (leave sh env hp') ∧ ups hp (leave sh env hp') q = hp q) ∨
    (q ∈ names (goneO (renOf sh env hp') sh.ob) ∧ ups hp (leave sh env hp') q = none) ∨
    (q ∉ names (goneO (renOf sh env hp') sh.ob) ∧ q ∈ names (frzSh sh env hp') ∧ ∃ e t xs, hp q = some (.arr e t xs) ∧ ups hp (leave sh env hp') q = some (.frz e t xs)) := by
  have hF : FrzList hp (frzSh sh env hp') := (frzSh_list sh env hp').sub hs
  have e : ups hp (leave sh env hp') = ups (ups hp (frzSh sh env hp')) (goneO (renOf sh env hp') sh.ob) := by rw [← ups_app]; rfl
  by_cases hg : q ∈ names (goneO (renOf sh env hp') sh.ob)
  · refine .inr (.inl ⟨hg, ?_⟩)
    rw [e, ups_at]
    cases hl : lastU (goneO (renOf sh env hp') sh.ob) q with
    | none => exact absurd hg (lastU_none.1 hl)
    | some o => exact goneO_ups (lastU_mem hl)
  · have h1 : ups hp (leave sh env hp') q = ups hp (frzSh sh env hp') q := by rw [e, ups_at, lastU_none.2 hg]
    rcases frz_at hF q with ⟨h2, e', t, xs, h3, h4⟩ | ⟨h2, h3⟩
    · exact .inr (.inr ⟨hg, h2, e', t, xs, h3, h1.trans h4⟩)
    · exact .inl ⟨fun h => ((leave_names sh q).1 h).elim h2 hg, h1.trans h3⟩

section
variable {P : Program} {ρ : Nat → Value} {ok : Nat → Prop} {w : World} {hp : Heap} {nx : Nat}

def callρ (ρ : Nat → Value) (nx : Nat) (ρ' : Nat → Value) : Nat → Value := fun q => if q < nx then ρ q else ρ' (q - nx + 1000)

/-- what a call by a contract does to names and memory -/
theorem call_eff (hH : RepH ρ ok w hp nx) {hp' : Heap} (hs : ∀ l o, hp' l = some o → hp l = some o) {sp : Spec} {aenv : Env} {tmps : Array Value} (hE : RepE ρ ok w nx aenv tmps)
    (hbel : shBelow sp.si = true) (hnn : sp.si.nn ≤ 1000) (hso : soOk sp.so = true) (hbk : backOk (renOf sp.si aenv hp') sp.so.ob = true) {x : TS sp.si} (hx : toSt sp.si aenv hp' = some x) :
    ∃ ρi oki, RepH ρi oki w (hpOut sp.si id x) 1000 ∧ RepE ρi oki w 1000 (envOut sp.si id x) tmps ∧
      ∀ y v w' ρ' ok', RepH ρ' ok' w' (hpOut sp.so id y) sp.so.nn → RepE ρ' ok' w' sp.so.nn (envOut sp.so id y) #[v] → Exits (hpOut sp.si id x) ρi oki w (hpOut sp.so id y) ρ' ok' w' →
        ∃ ρ2, Eff ρ ok w hp nx (leave sp.si aenv hp' ++ obUps (backN (renOf sp.si aenv hp') nx) (hpOut sp.so (backN (renOf sp.si aenv hp') nx) y) sp.so.ob) (sp.so.nn - 1000) ρ2 ok' w' ∧
          ∀ s, envOut sp.so (backN (renOf sp.si aenv hp') nx) y 0 = some s → SlotR ρ2 ok' w' (nx + (sp.so.nn - 1000)) s v := by
  have hH' : RepH ρ ok w hp' nx := hH.sub hs
  have hF := frzSh_list sp.si aenv hp'
  have hf0 : NameF id 0 sp.si.nn (renOf sp.si aenv hp') := fun l _ => .inl (by simp)
  obtain ⟨t1, t2, t3⟩ := retake hH' hE hbel hx (f := id) (nx0 := 0) hf0 (H0 := fun _ => none) (fun q o h => by cases h) (E0 := fun _ => none) (fun t s h => by cases h)
  have htO : ∀ q o, hpOut sp.si id x q = some o → ∃ p ∈ sp.si.ob, q = p.1 ∧ p.1 < sp.si.nn ∧ Took ρ hp' (renOf sp.si aenv hp') p.1 o := fun q o h => by
    rcases t3 q o h with h | ⟨h, _⟩
    · exact h
    · cases h
  refine ⟨_, _, t1.more (by omega), t2.more (by omega), ?_⟩
  intro y v w' ρ' ok' hX hXE hEx
  have hρi : ∀ q, reρ ρ 0 (renOf sp.si aenv hp') q = match renOf sp.si aenv hp' q with | some m => ρ m | none => .slice none 0 0 := fun q => by unfold reρ; rw [if_neg (by omega)]; rfl
  -- the blocks that came in
  have inBlk : ∀ l o b, hpOut sp.si id x l = some o → o.own = true → blk (reρ ρ 0 (renOf sp.si aenv hp') l) = some b → ∃ m p, m ∈ names (goneO (renOf sp.si aenv hp') sp.si.ob) ∧ renOf sp.si aenv hp' l = some m ∧ hp m = some p ∧ p.own = true ∧ blk (ρ m) = some b := by
    intro l o b hl hw hb
    obtain ⟨p, h1, h2, h3, h4⟩ := htO l o hl
    subst h2
    rw [hρi] at hb
    rcases h4.src with ⟨m, r, g1, g2, g3⟩ | g1
    · rw [g1] at hb
      exact ⟨m, r, goneO_mem h1 g1, g1, hs _ _ g2, g3, hb⟩
    · rw [g1] at hb; cases hb
  have hap : ∀ q ∈ names (frzSh sp.si aenv hp'), q ∉ names (goneO (renOf sp.si aenv hp') sp.si.ob) := by
    unfold toSt at hx
    split at hx <;> try (cases hx; done)
    rename_i hinj
    exact apartN_iff.1 (Bool.and_eq_true_iff.1 hinj).2
  have hFf : FrzList hp (frzSh sp.si aenv hp') := hF.sub hs
  have e1 := eff_frz hH hFf
  -- what came in, by its name there
  have inn : ∀ l, l < 1000 → l ∈ obNames sp.so.ob → ∃ m r, renOf sp.si aenv hp' l = some m ∧ m ∈ names (goneO (renOf sp.si aenv hp') sp.si.ob) ∧ hp m = some r ∧ r.own = true ∧ m < nx ∧ ρ' l = ρ m := by
    intro l hl hm
    obtain ⟨p, h1, h2⟩ := obNames_some hm
    obtain ⟨o, ho⟩ := ofO_there id (fun _ => none) sp.so.ob (ofSl id (fun _ => none) sp.so.sl y).2 p h1
    subst h2
    obtain ⟨g1, p', g2, g3⟩ := hEx.inn p.1 o ho hl
    obtain ⟨r, k1, k2, k3, k4⟩ := htO _ _ g2
    obtain ⟨m, hm'⟩ := backOk_spec hbk p h1 hl
    rw [k2] at hm'
    rcases k4.src with ⟨m', r', j1, j2, j3⟩ | j1
    · refine ⟨m', r', by rw [k2]; exact j1, goneO_mem k1 j1, hs _ _ j2, j3, (hH.ob _ _ (hs _ _ j2)).1, ?_⟩
      rw [g1, hρi, k2, j1]
    · rw [j1] at hm'; cases hm'
  have bk : ∀ l, backN (renOf sp.si aenv hp') nx l = if 1000 ≤ l then nx + (l - 1000) else match renOf sp.si aenv hp' l with | some m => m | none => nx := by
    intro l
    unfold backN
    by_cases h : 1000 ≤ l
    · rw [if_pos h, if_pos (Nat.ble_eq_true_of_le h)]
    · rw [if_neg h, if_neg fun e => h (Nat.le_of_ble_eq_true e)]
      cases renOf sp.si aenv hp' l <;> rfl
  have hren : RenOk ρ' (callρ ρ nx ρ') sp.so.nn (nx + (sp.so.nn - 1000)) (obNames sp.so.ob) (backN (renOf sp.si aenv hp') nx) := by
    intro l hl hor
    rw [bk]
    by_cases h : 1000 ≤ l
    · rw [if_pos h]
      refine ⟨by omega, ?_⟩
      unfold callρ
      rw [if_neg (by omega)]
      congr 1
      omega
    · rw [if_neg h]
      obtain ⟨m, r, g1, g2, g3, g4, g5, g6⟩ := inn l (by omega) (hor.resolve_left h)
      simp only [g1]
      refine ⟨Nat.lt_of_lt_of_le g5 (Nat.le_add_right _ _), ?_⟩
      unfold callρ
      rw [if_pos g5, g6]
  obtain ⟨hso1, hso2⟩ := Bool.and_eq_true_iff.1 hso
  have hcρ : ∀ l, l < nx → callρ ρ nx ρ' l = ρ l := fun l hl => by simp [callρ, hl]
  have hS : Same (okWith ok ρ (names (frzSh sp.si aenv hp'))) ok' w w' := by
    intro b hb
    refine ⟨hEx.okm b hb, hEx.same b (e1.1.okl b hb) fun l o ho hw hbl => ?_⟩
    obtain ⟨m, p, h1, h2, h3, h4, h5⟩ := inBlk l o b ho hw hbl
    rcases hb with hb | ⟨l', hl', hb⟩
    · exact hH.sep m p b h3 h4 h5 hb
    · rcases frz_at hFf l' with ⟨_, e, t, xs, k1, _⟩ | ⟨k1, _⟩
      · have := hH.dis m l' p _ b h3 k1 h4 rfl h5 hb
        subst this
        exact hap m hl' h1
      · exact k1 hl'
  have hS0 : Same ok ok' w w' := fun b hb => hS b (.inl hb)
  -- an object now
  have now : ∀ q o, ups hp (leave sp.si aenv hp' ++ obUps (backN (renOf sp.si aenv hp') nx) (hpOut sp.so (backN (renOf sp.si aenv hp') nx) y) sp.so.ob) q = some o →
      (∃ p ∈ sp.so.ob, q = backN (renOf sp.si aenv hp') nx p.1 ∧ ∃ o', hpOut sp.so id y p.1 = some o' ∧ o'.own = o.own ∧ p.1 < sp.so.nn ∧ ObR (callρ ρ nx ρ') ok' w' (nx + (sp.so.nn - 1000)) q o ∧ callρ ρ nx ρ' q = ρ' p.1 ∧ q < nx + (sp.so.nn - 1000)) ∨
      ((∀ p ∈ sp.so.ob, q ≠ backN (renOf sp.si aenv hp') nx p.1) ∧ ((q ∉ names (leave sp.si aenv hp') ∧ hp q = some o) ∨ ∃ e t xs, hp q = some (.arr e t xs) ∧ o = .frz e t xs ∧ q ∈ names (frzSh sp.si aenv hp'))) := by
    intro q o hq
    rw [ups_app] at hq
    rcases obUps_at (backN (renOf sp.si aenv hp') nx) (hpOut sp.so (backN (renOf sp.si aenv hp') nx) y) (ups hp (leave sp.si aenv hp')) sp.so.ob q with ⟨h1, h2⟩ | ⟨_, h2⟩
    · rw [h2] at hq
      refine .inr ⟨h1, ?_⟩
      rcases leave_at sp.si aenv hp hp' hs q with ⟨g1, g2⟩ | ⟨g1, g2⟩ | ⟨_, g0, e, t, xs, g1, g2⟩
      · rw [g2] at hq; exact .inl ⟨g1, hq⟩
      · rw [g2] at hq; cases hq
      · rw [g2] at hq; cases hq; exact .inr ⟨e, t, xs, g1, rfl, g0⟩
    · rw [h2] at hq
      have hq' : ofO (backN (renOf sp.si aenv hp') nx) (fun _ => none) sp.so.ob (ofSl id (fun _ => none) sp.so.sl y).2 q = some o := by
        rw [← ofSl_snd (backN (renOf sp.si aenv hp') nx) id (fun _ => none) (fun _ => none) sp.so.sl y]; exact hq
      obtain ⟨p, k1, k2, o', k3, k4, k5⟩ := ofO_ren (ok := ok') (w := w') hren sp.so.ob _ hso2 q o hq'
      obtain ⟨k6, k7⟩ := hX.ob p.1 o' k3
      have hm := obNames_mem k1
      have h8 := hren p.1 k6 (.inr hm)
      exact .inl ⟨p, k1, k2, o', k3, k4, k6, k5 k6 (.inr hm) k7, by rw [k2]; exact h8.2, by rw [k2]; exact h8.1⟩
  -- a new object's block, against one that was there, and is not gone
  have cross : ∀ (p : Nat × Bool × OSh) o' b, p ∈ sp.so.ob → hpOut sp.so id y p.1 = some o' → o'.own = true → blk (ρ' p.1) = some b → w.heap.size ≤ b ∨ ∃ m r, m ∈ names (goneO (renOf sp.si aenv hp') sp.si.ob) ∧ hp m = some r ∧ r.own = true ∧ blk (ρ m) = some b := by
    intro p o' b hp1 ho hw hb
    by_cases h : p.1 < 1000
    · obtain ⟨m, r, g1, g2, g3, g4, g5, g6⟩ := inn p.1 h (obNames_mem hp1)
      rw [g6] at hb
      exact .inr ⟨m, r, g2, g3, g4, hb⟩
    · rcases hEx.new p.1 o' b ho (by omega) hw hb with h1 | ⟨l, q, h1, h2, h3⟩
      · exact .inl h1
      · obtain ⟨m, r, g1, _, g2, g3, g4⟩ := inBlk l q b h1 h2 h3
        exact .inr ⟨m, r, g1, g2, g3, g4⟩
  have inLeave : ∀ m, m ∈ names (goneO (renOf sp.si aenv hp') sp.si.ob) → m ∈ names (leave sp.si aenv hp') := fun m hm => (leave_names sp.si m).2 (.inr hm)
  have frzLeave : ∀ m, m ∈ names (frzSh sp.si aenv hp') → m ∈ names (leave sp.si aenv hp') := fun m hm => (leave_names sp.si m).2 (.inl hm)
  have namesD : ∀ m, m ∈ names (leave sp.si aenv hp') → m ∈ names (leave sp.si aenv hp' ++ obUps (backN (renOf sp.si aenv hp') nx) (hpOut sp.so (backN (renOf sp.si aenv hp') nx) y) sp.so.ob) := fun m hm => by
    simp only [names, List.map_append, List.mem_append] at hm ⊢
    exact .inl hm
  have namesD' : ∀ m, m ∈ names (leave sp.si aenv hp' ++ obUps (backN (renOf sp.si aenv hp') nx) (hpOut sp.so (backN (renOf sp.si aenv hp') nx) y) sp.so.ob) ↔ m ∈ names (leave sp.si aenv hp') ∨ ∃ p ∈ sp.so.ob, m = backN (renOf sp.si aenv hp') nx p.1 := fun m => by
    have := obUps_names (backN (renOf sp.si aenv hp') nx) (hpOut sp.so (backN (renOf sp.si aenv hp') nx) y) sp.so.ob m
    simp only [names] at this
    simp only [names, List.map_append, List.mem_append, this]
  refine ⟨callρ ρ nx ρ', ⟨⟨?_, hX.okl, ?_, ?_, hX.gl⟩, ⟨hEx.os, hEx.tape, hEx.output, hEx.size, by omega, ?_, hcρ, fun b hb => hEx.okm b (.inl hb), ?_, ?_, ?_, ?_⟩⟩, ?_⟩
  · intro q o hq
    rcases now q o hq with ⟨p, h1, h2, o', h3, h4, h5, h6, h7, h8⟩ | ⟨h1, ⟨h2, h3⟩ | ⟨e, t, xs, h2, rfl, h3⟩⟩
    · exact ⟨h8, h6⟩
    · obtain ⟨g1, g2⟩ := hH.ob q o h3
      refine ⟨by omega, g2.move hS0 hcρ (by omega) (hcρ q g1) fun hw b hb => ?_⟩
      refine hEx.same b (hH.lt h3 hw hb) fun l p hl hpw hbl => ?_
      obtain ⟨m, r, k1, _, k2, k3, k4⟩ := inBlk l p b hl hpw hbl
      have := hH.dis m q r o b k2 h3 k3 hw k4 hb
      subst this
      exact h2 (inLeave m k1)
    · have g := hH.ob q _ h2
      have k : ups hp (frzSh sp.si aenv hp') q = some (.frz e t xs) := by
        rcases frz_at hFf q with ⟨_, e', t', xs', k1, k2⟩ | ⟨k1, _⟩
        · rw [h2] at k1; cases k1; exact k2
        · exact absurd h3 k1
      have k2 := (e1.1.ob q _ k).2
      exact ⟨by omega, k2.move hS (fun l hl => hcρ l (by omega)) (by omega) (hcρ q g.1) fun h => by cases h⟩
  · intro q o b hq hw hb hok
    rcases now q o hq with ⟨p, h1, h2, o', h3, h4, h5, h6, h7, h8⟩ | ⟨h1, ⟨h2, h3⟩ | ⟨e, t, xs, h2, rfl, h3⟩⟩
    · rw [h7] at hb
      exact hX.sep p.1 o' b h3 (h4.trans hw) hb hok
    · rw [hcρ q (hH.ob q o h3).1] at hb
      rcases hEx.okn b hok with (h | ⟨l', hl', hbl⟩) | h | ⟨l, r, hl, hrw, hbl⟩
      · exact hH.sep q o b h3 hw hb h
      · rcases frz_at hFf l' with ⟨_, e, t, xs, k1, _⟩ | ⟨k1, _⟩
        · have := hH.dis q l' o _ b h3 k1 hw rfl hb hbl
          subst this
          exact h2 (frzLeave q hl')
        · exact k1 hl'
      · have := hH.lt h3 hw hb; omega
      · obtain ⟨m, r', k1, _, k2, k3, k4⟩ := inBlk l r b hl hrw hbl
        have := hH.dis m q r' o b k2 h3 k3 hw k4 hb
        subst this
        exact h2 (inLeave m k1)
    · cases hw
  · have AB : ∀ (q : Nat) (o : Ob) (q' : Nat) (o' : Ob) (b : Nat), (∃ p ∈ sp.so.ob, q = backN (renOf sp.si aenv hp') nx p.1 ∧ ∃ o', hpOut sp.so id y p.1 = some o' ∧ o'.own = o.own ∧ callρ ρ nx ρ' q = ρ' p.1) → q' ∉ names (leave sp.si aenv hp') → hp q' = some o' → o.own = true → o'.own = true →
        blk (callρ ρ nx ρ' q) = some b → blk (ρ q') = some b → False := by
      rintro q o q' o' b ⟨p, h1, h2, o'', h3, h4, h7⟩ g2 g3 hw hw' hb hb'
      rw [h7] at hb
      rcases cross p o'' b h1 h3 (h4.trans hw) hb with h | ⟨m, r, k1, k2, k3, k4⟩
      · have := hH.lt g3 hw' hb'; omega
      · have := hH.dis m q' r o' b k2 g3 k3 hw' k4 hb'
        subst this
        exact g2 (inLeave m k1)
    intro q q' o o' b hq hq' hw hw' hb hb'
    rcases now q o hq with ⟨p, h1, h2, o2, h3, h4, h5, h6, h7, h8⟩ | ⟨h1, ⟨h2, h3⟩ | ⟨e, t, xs, h2, rfl, h3⟩⟩
    · rcases now q' o' hq' with ⟨p', g1, g2, o3, g3, g4, g5, g6, g7, g8⟩ | ⟨g1, ⟨g2, g3⟩ | ⟨e, t, xs, g2, rfl, g3⟩⟩
      · rw [h7] at hb; rw [g7] at hb'
        rw [h2, g2, hX.dis p.1 p'.1 o2 o3 b h3 g3 (h4.trans hw) (g4.trans hw') hb hb']
      · rw [hcρ q' (hH.ob q' o' g3).1] at hb'
        exact (AB q o q' o' b ⟨p, h1, h2, o2, h3, h4, h7⟩ g2 g3 hw hw' hb hb').elim
      · cases hw'
    · rw [hcρ q (hH.ob q o h3).1] at hb
      rcases now q' o' hq' with ⟨p', g1, g2, o3, g3, g4, g5, g6, g7, g8⟩ | ⟨g1, ⟨g2, g3⟩ | ⟨e, t, xs, g2, rfl, g3⟩⟩
      · exact (AB q' o' q o b ⟨p', g1, g2, o3, g3, g4, g7⟩ h2 h3 hw' hw hb' hb).elim
      · rw [hcρ q' (hH.ob q' o' g3).1] at hb'
        exact hH.dis q q' o o' b h3 g3 hw hw' hb hb'
      · cases hw'
    · cases hw
  · intro b hb hne
    refine hEx.same b hb fun l o ho hw hbl => ?_
    obtain ⟨m, r, k1, _, k2, k3, k4⟩ := inBlk l o b ho hw hbl
    exact hne m (namesD m (inLeave m k1)) (hH.ob m r k2).1 r k2 k3 k4
  · intro b hb
    rcases hEx.okn b hb with (h | ⟨l', hl', hbl⟩) | h | ⟨l, r, hl, hrw, hbl⟩
    · exact .inl h
    · rcases frz_at hFf l' with ⟨_, e, t, xs, k1, _⟩ | ⟨k1, _⟩
      · exact .inr (.inr ⟨l', namesD l' (frzLeave l' hl'), (hH.ob l' _ k1).1, _, k1, rfl, hbl⟩)
      · exact absurd hl' k1
    · exact .inr (.inl h)
    · obtain ⟨m, r', k1, _, k2, k3, k4⟩ := inBlk l r b hl hrw hbl
      exact .inr (.inr ⟨m, namesD m (inLeave m k1), (hH.ob m r' k2).1, r', k2, k3, k4⟩)
  · intro l hl hn
    have hn' := fun h => hn ((namesD' l).2 h)
    rw [ups_app]
    rcases obUps_at (backN (renOf sp.si aenv hp') nx) (hpOut sp.so (backN (renOf sp.si aenv hp') nx) y) (ups hp (leave sp.si aenv hp')) sp.so.ob l with ⟨h1, h2⟩ | ⟨h1, _⟩
    · rw [h2, ups_at, lastU_none.2 fun h => hn' (.inl h)]
    · exact absurd (.inr h1) hn'
  · intro l hl o ho
    rcases now l o ho with ⟨p, h1, h2, o', h3, h4, h5, h6, h7, h8⟩ | ⟨h1, ⟨h2, h3⟩ | ⟨e, t, xs, h2, rfl, h3⟩⟩
    · rw [bk] at h2
      by_cases h : 1000 ≤ p.1
      · rw [if_pos h] at h2; omega
      · obtain ⟨m, r, g1, g2, g3, g4, g5, g6⟩ := inn p.1 (by omega) (obNames_mem h1)
        rw [if_neg h, g1] at h2
        exact ⟨r, by rw [h2]; exact g3, fun _ => g4⟩
    · exact ⟨o, h3, id⟩
    · exact ⟨_, h2, fun h => by cases h⟩
  · intro l o b hl ho hw hb
    rcases now l o ho with ⟨p, h1, h2, o', h3, h4, h5, h6, h7, h8⟩ | ⟨h1, ⟨h2, h3⟩ | ⟨e, t, xs, h2, rfl, h3⟩⟩
    · rw [h7] at hb
      rcases cross p o' b h1 h3 (h4.trans hw) hb with h | ⟨m, r, k1, k2, k3, k4⟩
      · exact .inl h
      · exact .inr ⟨m, namesD m (inLeave m k1), (hH.ob m r k2).1, r, k2, k3, k4⟩
    · exact absurd (hH.ob l o h3).1 (by omega)
    · cases hw
  · intro s hs'
    obtain ⟨s', h1, h2⟩ := ofSl_ren (ok := ok') (w := w') hren sp.so.sl y hso1 0 s hs'
    obtain ⟨v0, h3, h4⟩ := hXE 0 s' h1
    have : v0 = v := by simpa using h3.symm
    rw [← this]
    exact h2 v0 h4

/-- a call that panics: what came in is gone -/
theorem call_pan (hH : RepH ρ ok w hp nx) {hp' : Heap} (hs : ∀ l o, hp' l = some o → hp l = some o) {si : Sh} {aenv : Env} {tmps : Array Value} (hE : RepE ρ ok w nx aenv tmps)
    (hbel : shBelow si = true) (hnn : si.nn ≤ 1000) {x : TS si} (hx : toSt si aenv hp' = some x) :
    ∃ ρi oki, RepH ρi oki w (hpOut si id x) 1000 ∧ RepE ρi oki w 1000 (envOut si id x) tmps ∧ ∀ w', PanW ρi w (hpOut si id x) w' → ∃ ρ2 ok2, Eff ρ ok w hp nx (leave si aenv hp') 0 ρ2 ok2 w' := by
  obtain ⟨ρi, oki, i1, i2, i3⟩ := call_eff (sp := ⟨0, si, ⟨[], [], [], 1000, []⟩, fun _ => none⟩) hH hs hE hbel hnn rfl rfl hx
  refine ⟨ρi, oki, i1, i2, fun w' hp2 => ?_⟩
  have hS : Same oki oki w w' := fun b hb => ⟨hb, hp2.same b (i1.okl b hb) fun l o ho hw hbl => i1.sep l o b ho hw hbl hb⟩
  obtain ⟨ρ2, e, _⟩ := i3 () undef w' ρi oki ⟨fun l o h => (by cases h), fun b hb => Nat.lt_of_lt_of_le (i1.okl b hb) hp2.size, fun l o b h => (by cases h), fun l m o p b h => (by cases h), i1.gl.move hS⟩
    (fun t s h => by cases h) ⟨hp2.os, hp2.tape, hp2.output, hp2.size, hp2.same, fun _ h => h, fun _ h => .inl h, fun l o h => (by cases h), fun l o b h => (by cases h)⟩
  refine ⟨ρ2, oki, ?_⟩
  simpa [obUps] using e
end
end Lv
