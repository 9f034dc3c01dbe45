import Derived.Test.YtnogebfcpicghaaGreatDoorEvI
set_option linter.all false
set_option linter.unusedVariables false
set_option linter.unusedSimpArgs false
set_option linter.unusedSectionVars false
namespace Lv
variable [HasG]
open Go Go.RowKit

/-! ## To take a state as a shape's -/
section
variable {ρ : Nat → Value} {ok : Nat → Prop} {w : World} {hp : Heap} {nx : Nat}

/-- what the new names stand for -/
def reρ (ρ : Nat → Value) (nx0 : Nat) (ren : Ren) : Nat → Value := fun q => if q < nx0 then ρ q else match ren (q - nx0) with | some m => ρ m | none => .slice none 0 0

/-- names: kept, or new from nx0 on -/
def NameF (f : Nat → Nat) (nx0 nn : Nat) (ren : Ren) : Prop := ∀ l, l < nn → f l = nx0 + l ∨ (ren l = some (f l) ∧ f l < nx0)
theorem NameF.lt {f nx0 nn ren} (h : NameF f nx0 nn ren) {l : Nat} (hl : l < nn) : f l < nx0 + nn := by rcases h l hl with h | h <;> omega
theorem NameF.at {f nx0 nn ren} (h : NameF f nx0 nn ren) {l : Nat} (hl : l < nn) : reρ ρ nx0 ren (f l) = match ren l with | some m => ρ m | none => .slice none 0 0 := by
  unfold reρ
  rcases h l hl with e | ⟨e1, e2⟩
  · rw [if_neg (by omega), e, Nat.add_sub_cancel_left]
  · rw [if_pos e2, e1]

theorem hdInt_some {k : IntKind} {c d : List Cell} {i : Int} (h : hdInt k c = some (i, d)) : c = .int k i :: d := by
  unfold hdInt at h
  split at h <;> try (cases h; done)
  split at h <;> try (cases h; done)
  rename_i hk
  cases h
  rw [kb_eq hk]
theorem hdBool_some {c d : List Cell} {i : Bool} (h : hdBool c = some (i, d)) : c = .bool i :: d := by
  unfold hdBool at h
  split at h <;> try (cases h; done)
  cases h; rfl
theorem hdStr_some {c d : List Cell} {i : ByteArray} (h : hdStr c = some (i, d)) : c = .str i :: d := by
  unfold hdStr at h
  split at h <;> try (cases h; done)
  cases h; rfl
theorem hdRaw_some {c d : List Cell} {i : Value} (h : hdRaw c = some (i, d)) : ∃ x, c = x :: d ∧ x.raw = some i := by
  unfold hdRaw at h
  split at h <;> try (cases h; done)
  split at h <;> try (cases h; done)
  rename_i hr
  cases h
  exact ⟨_, rfl, hr⟩
theorem hdSl_some {e : Nat} {t : Ty} {c d : List Cell} {i : List t.T} (h : hdSl hp e t c = some (i, d)) : ∃ x, c = x :: d ∧ coSl e t hp x = some i := by
  unfold hdSl at h
  split at h <;> try (cases h; done)
  split at h <;> try (cases h; done)
  rename_i hr
  cases h
  exact ⟨_, rfl, hr⟩
theorem hdFn_some {f : Nat} {c d : List Cell} (h : hdFn f c = some d) : c = .val (.func (.func f) #[] #[]) :: d := by
  unfold hdFn at h
  split at h <;> try (cases h; done)
  split at h <;> try (cases h; done)
  rename_i hk
  cases h
  rw [Nat.eq_of_beq_eq_true hk]
theorem hdRef_some {ren : Ren} {l : Nat} {c d : List Cell} (h : hdRef ren l c = some d) : (∃ m, c = .ref m :: d ∧ ren l = some m) ∨ (c = .val (.slice none 0 0) :: d ∧ ren l = none) := by
  unfold hdRef at h
  split at h <;> try (cases h; done)
  · split at h <;> try (cases h; done)
    rename_i hr
    split at h <;> try (cases h; done)
    rename_i hk
    cases h
    exact .inl ⟨_, rfl, by rw [hr, Nat.eq_of_beq_eq_true hk]⟩
  · split at h <;> try (cases h; done)
    rename_i hr
    cases h
    exact .inr ⟨rfl, hr⟩
theorem hdPtr_some {ren : Ren} {l o : Nat} {c d : List Cell} (h : hdPtr ren l o c = some d) : ∃ m, c = .ptr m o :: d ∧ ren l = some m := by
  unfold hdPtr at h
  split at h <;> try (cases h; done)
  split at h <;> try (cases h; done)
  rename_i hr
  split at h <;> try (cases h; done)
  rename_i hk
  cases h
  have := Bool.and_eq_true_iff.1 hk
  exact ⟨_, by rw [Nat.eq_of_beq_eq_true this.2], by rw [hr, Nat.eq_of_beq_eq_true this.1]⟩

theorem hdIfc_some {ρ : Nat → Value} {ok : Nat → Prop} {w : World} {nx : Nat} {c d : List Cell} {b : Bool} (h : hdIfc c = some (b, d)) : ∃ x, c = x :: d ∧ ∀ v, CellR ρ ok w nx x v → CellR ρ ok w nx (.ifc b) v := by
  unfold hdIfc at h
  split at h <;> try (cases h; done)
  · cases h; exact ⟨_, rfl, fun v hv => hv⟩
  · cases h; exact ⟨_, rfl, fun v hv => .inl ⟨rfl, hv.1⟩⟩
  · cases h; exact ⟨_, rfl, fun v hv => .inr ⟨rfl, _, _, hv.1⟩⟩
theorem hdNp_some {ρ : Nat → Value} {ok : Nat → Prop} {w : World} {nx : Nat} {ren : Ren} {l : Nat} {c d : List Cell} (h : hdNp ren l c = some d) :
    ∃ x m, c = x :: d ∧ ren l = some m ∧ ∀ v, CellR ρ ok w nx x v → v = .pointer none ∨ ∃ b, ρ m = .pointer (some ⟨b, 0, none⟩) ∧ v = .pointer (some ⟨b, 0, none⟩) := by
  unfold hdNp at h
  split at h <;> try (cases h; done)
  · split at h <;> try (cases h; done)
    rename_i hr
    split at h <;> try (cases h; done)
    rename_i hk
    cases h
    have := Nat.eq_of_beq_eq_true hk
    subst this
    exact ⟨_, _, rfl, hr, fun v hv => hv.2⟩
  · split at h <;> try (cases h; done)
    rename_i hr
    split at h <;> try (cases h; done)
    rename_i hk
    cases h
    have := Nat.eq_of_beq_eq_true hk
    subst this
    exact ⟨_, _, rfl, hr, fun v hv => .inr hv.2⟩
  · split at h <;> try (cases h; done)
    rename_i hr
    cases h
    exact ⟨_, _, rfl, hr, fun v hv => .inl hv.1⟩

/-- cells as a shape's cells -/
theorem toC_ok (hH : RepH ρ ok w hp nx) {ok' : Nat → Prop} (hm : ∀ b, ok b → ok' b) {ren : Ren} {f : Nat → Nat} {nx0 nn : Nat} (hf : NameF f nx0 nn ren) :
    ∀ {τ : Type} (cs : List CSh) (ds : List Cell) (vs : List Value) (q : Option τ) (y : TL cs τ), All2 (CellR ρ ok w nx) ds vs → cshBelow nn cs = true →
      (∀ p ∈ frzC hp cs ds, ∀ b, blk (ρ p.1) = some b → ok' b) → toC hp ren cs ds q = some y →
      q = some (ofC f cs y).2 ∧ All2 (CellR (reρ ρ nx0 ren) ok' w (nx0 + nn)) (ofC f cs y).1 vs
  | τ, [], ds, vs, q, y, hd, _, _, h => by
    simp only [toC] at h
    split at h <;> try (cases h; done)
    rename_i hn
    cases ds with
    | nil => cases hd; exact ⟨h, .nil⟩
    | cons _ _ => cases hn
  | τ, .int k :: r, ds, vs, q, y, hd, hb, hz, h => by
    simp only [toC] at h
    split at h <;> try (cases h; done)
    rename_i i d hi
    obtain rfl := hdInt_some hi
    split at h <;> try (cases h; done)
    rename_i z hq
    cases h
    cases hd with
    | cons hv ht =>
      obtain ⟨h1, h2⟩ := toC_ok hH hm hf r d _ q z ht hb (fun p hp => hz p hp) hq
      exact ⟨h1, .cons hv h2⟩
  | τ, .bool :: r, ds, vs, q, y, hd, hb, hz, h => by
    simp only [toC] at h
    split at h <;> try (cases h; done)
    rename_i i d hi
    obtain rfl := hdBool_some hi
    split at h <;> try (cases h; done)
    rename_i z hq
    cases h
    cases hd with
    | cons hv ht =>
      obtain ⟨h1, h2⟩ := toC_ok hH hm hf r d _ q z ht hb (fun p hp => hz p hp) hq
      exact ⟨h1, .cons hv h2⟩
  | τ, .str :: r, ds, vs, q, y, hd, hb, hz, h => by
    simp only [toC] at h
    split at h <;> try (cases h; done)
    rename_i i d hi
    obtain rfl := hdStr_some hi
    split at h <;> try (cases h; done)
    rename_i z hq
    cases h
    cases hd with
    | cons hv ht =>
      obtain ⟨h1, h2⟩ := toC_ok hH hm hf r d _ q z ht hb (fun p hp => hz p hp) hq
      exact ⟨h1, .cons hv h2⟩
  | τ, .val :: r, ds, vs, q, y, hd, hb, hz, h => by
    simp only [toC] at h
    split at h <;> try (cases h; done)
    rename_i i d hi
    obtain ⟨x, rfl, hx⟩ := hdRaw_some hi
    split at h <;> try (cases h; done)
    rename_i z hq
    cases h
    cases hd with
    | cons hv ht =>
      obtain ⟨h1, h2⟩ := toC_ok hH hm hf r d _ q z ht hb (fun p hp => hz p hp) hq
      exact ⟨h1, .cons (raw_ok hv hx) h2⟩
  | τ, .sl e t :: r, ds, vs, q, y, hd, hb, hz, h => by
    simp only [toC] at h
    split at h <;> try (cases h; done)
    rename_i i d hi
    obtain ⟨x, rfl, hx⟩ := hdSl_some hi
    split at h <;> try (cases h; done)
    rename_i z hq
    cases h
    cases hd with
    | cons hv ht =>
      have hz1 : ∀ p ∈ frzs hp [x], ∀ b, blk (ρ p.1) = some b → ok' b := fun p hp => hz p (List.mem_append_left _ hp)
      obtain ⟨h1, h2⟩ := toC_ok hH hm hf r d _ q z ht hb (fun p hp => hz p (List.mem_append_right _ hp)) hq
      refine ⟨h1, .cons ?_ h2⟩
      exact coSl_ok hH (fun _ _ h => h) hm hv (fun l g u ys hl hc b hbl => by
        have : l ∈ names (frzs hp [x]) := frzs_cov hp [x] l g u ys hl (hc.imp (fun e => by simp [e]) fun ⟨n, lo, len, e⟩ => ⟨n, lo, len, by simp [e]⟩)
        obtain ⟨p, hp1, hp2⟩ := List.mem_map.1 this
        exact hz1 p hp1 b (by rw [hp2]; exact hbl)) hx
  | τ, .fn g :: r, ds, vs, q, y, hd, hb, hz, h => by
    simp only [toC] at h
    split at h <;> try (cases h; done)
    rename_i d hi
    obtain rfl := hdFn_some hi
    cases hd with
    | cons hv ht =>
      obtain ⟨h1, h2⟩ := toC_ok hH hm hf r d _ q y ht hb (fun p hp => hz p hp) h
      exact ⟨h1, .cons hv h2⟩
  | τ, .ref l :: r, ds, vs, q, y, hd, hb, hz, h => by
    simp only [toC] at h
    split at h <;> try (cases h; done)
    rename_i d hi
    obtain ⟨hb1, hb2⟩ := Bool.and_eq_true_iff.1 hb
    have hl : l < nn := Nat.le_of_ble_eq_true hb1
    rcases hdRef_some hi with ⟨m, rfl, hr⟩ | ⟨rfl, hr⟩
    · cases hd with
      | cons hv ht =>
        obtain ⟨h1, h2⟩ := toC_ok hH hm hf r d _ q y ht hb2 (fun p hp => hz p hp) h
        refine ⟨h1, .cons ⟨hf.lt hl, ?_, hv.2.2⟩ h2⟩
        rw [hf.at hl, hr]; exact hv.2.1
    · cases hd with
      | cons hv ht =>
        obtain ⟨h1, h2⟩ := toC_ok hH hm hf r d _ q y ht hb2 (fun p hp => hz p hp) h
        refine ⟨h1, .cons ⟨hf.lt hl, ?_, by rw [hv.1]; rfl⟩ h2⟩
        rw [hf.at hl, hr]; exact hv.1
  | τ, .ptr l o :: r, ds, vs, q, y, hd, hb, hz, h => by
    simp only [toC] at h
    split at h <;> try (cases h; done)
    rename_i d hi
    obtain ⟨hb1, hb2⟩ := Bool.and_eq_true_iff.1 hb
    have hl : l < nn := Nat.le_of_ble_eq_true hb1
    obtain ⟨m, rfl, hr⟩ := hdPtr_some hi
    cases hd with
    | cons hv ht =>
      obtain ⟨h1, h2⟩ := toC_ok hH hm hf r d _ q y ht hb2 (fun p hp => hz p hp) h
      obtain ⟨_, b, e1, e2⟩ := hv
      refine ⟨h1, .cons ⟨hf.lt hl, b, ?_, e2⟩ h2⟩
      rw [hf.at hl, hr]; exact e1
  | τ, .ifc :: r, ds, vs, q, y, hd, hb, hz, h => by
    simp only [toC] at h
    split at h <;> try (cases h; done)
    rename_i i d hi
    split at h <;> try (cases h; done)
    rename_i z hq
    cases h
    obtain ⟨x, rfl, hx⟩ := hdIfc_some (ρ := ρ) (ok := ok) (w := w) (nx := nx) hi
    cases hd with
    | cons hv ht =>
      obtain ⟨h1, h2⟩ := toC_ok hH hm hf r d _ q z ht hb (fun p hp => hz p (by cases x <;> exact hp)) hq
      exact ⟨h1, .cons (hx _ hv) h2⟩
  | τ, .np l :: r, ds, vs, q, y, hd, hb, hz, h => by
    simp only [toC] at h
    split at h <;> try (cases h; done)
    rename_i d hi
    obtain ⟨hb1, hb2⟩ := Bool.and_eq_true_iff.1 hb
    have hl : l < nn := Nat.le_of_ble_eq_true hb1
    obtain ⟨x, m, rfl, hr, hx⟩ := hdNp_some (ρ := ρ) (ok := ok) (w := w) (nx := nx) hi
    cases hd with
    | cons hv ht =>
      obtain ⟨h1, h2⟩ := toC_ok hH hm hf r d _ q y ht hb2 (fun p hp => hz p hp) h
      refine ⟨h1, .cons ⟨hf.lt hl, (hx _ hv).imp (fun h => h) fun ⟨b, e1, e2⟩ => ⟨b, ?_, e2⟩⟩ h2⟩
      rw [hf.at hl, hr]; exact e1

theorem toCs_ok (hH : RepH ρ ok w hp nx) {ok' : Nat → Prop} (hm : ∀ b, ok b → ok' b) {ren : Ren} {f : Nat → Nat} {nx0 nn : Nat} (hf : NameF f nx0 nn ren) :
    ∀ {τ : Type} (cs : List (Bool × List CSh)) (ds : List (Bool × List Cell)) (vs : List Value) (q : Option τ) (y : TLs cs τ), All2 (fun (p : Bool × List Cell) u => VR ρ ok w nx p.1 p.2 u) ds vs → cshsBelow nn cs = true →
      (∀ p ∈ frzCs hp cs ds, ∀ b, blk (ρ p.1) = some b → ok' b) → toCs hp ren cs ds q = some y →
      q = some (ofCs f cs y).2 ∧ All2 (fun (p : Bool × List Cell) u => VR (reρ ρ nx0 ren) ok' w (nx0 + nn) p.1 p.2 u) (ofCs f cs y).1 vs
  | τ, [], ds, vs, q, y, hd, _, _, h => by
    cases ds with
    | nil => cases hd; exact ⟨h, .nil⟩
    | cons _ _ => cases h
  | τ, (g, cs) :: r, ds, vs, q, y, hd, hb, hz, h => by
    cases ds with
    | nil => cases h
    | cons d dr =>
      obtain ⟨g', es⟩ := d
      simp only [toCs] at h
      split at h <;> try (cases h; done)
      rename_i hg
      have hg := eq_of_beq hg
      subst hg
      obtain ⟨hb1, hb2⟩ := Bool.and_eq_true_iff.1 hb
      cases hd with
      | @cons _ v _ vr hv ht =>
        have key : ∀ us, All2 (CellR ρ ok w nx) es us → toCs hp ren r dr q = some (ofC f cs y).2 ∧ All2 (CellR (reρ ρ nx0 ren) ok' w (nx0 + nn)) (ofC f cs y).1 us :=
          fun us hus => toC_ok hH hm hf cs es us _ y hus hb1 (fun p hp => hz p (List.mem_append_left _ hp)) h
        have rest : ∀ us, All2 (CellR ρ ok w nx) es us → q = some (ofCs f r (ofC f cs y).2).2 ∧ All2 (fun (p : Bool × List Cell) u => VR (reρ ρ nx0 ren) ok' w (nx0 + nn) p.1 p.2 u) (ofCs f r (ofC f cs y).2).1 vr :=
          fun us hus => toCs_ok hH hm hf r dr vr q _ ht hb2 (fun p hp => hz p (List.mem_append_right _ hp)) (key us hus).1
        cases g with
        | true =>
          obtain ⟨us, e, hus⟩ := hv
          exact ⟨(rest us hus).1, .cons ⟨us, e, (key us hus).2⟩ (rest us hus).2⟩
        | false =>
          obtain ⟨c, e, hc⟩ := hv
          have e : es = [c] := e
          subst e
          have hus : All2 (CellR ρ ok w nx) [c] [v] := .cons hc .nil
          refine ⟨(rest _ hus).1, .cons ?_ (rest _ hus).2⟩
          have h2 := (key _ hus).2
          revert h2
          show All2 _ (ofC f cs y).1 [v] → _
          intro h2
          have hl := h2.len
          match hm' : (ofC f cs y).1, hl with
          | [c'], _ =>
            rw [hm'] at h2
            obtain ⟨v', e', hv'⟩ := h2.one
            cases e'
            exact ⟨c', rfl, hv'⟩

theorem toSl_ok (hH : RepH ρ ok w hp nx) {env : Env} {tmps : Array Value} (hE : RepE ρ ok w nx env tmps) {ok' : Nat → Prop} (hm : ∀ b, ok b → ok' b) {ren : Ren} {f : Nat → Nat} {nx0 nn : Nat} (hf : NameF f nx0 nn ren) {E0 : Env}
    (hE0 : RepE (reρ ρ nx0 ren) ok' w (nx0 + nn) E0 tmps) :
    ∀ {τ : Type} (l : List (Nat × SSh)) (q : Option τ) (y : TSl l τ), slBelow nn l = true → (∀ p ∈ frzSl env hp l, ∀ b, blk (ρ p.1) = some b → ok' b) → toSl env hp ren l q = some y →
      q = some (ofSl f E0 l y).2 ∧ RepE (reρ ρ nx0 ren) ok' w (nx0 + nn) (ofSl f E0 l y).1 tmps
  | τ, [], q, y, _, _, h => ⟨h, hE0⟩
  | τ, (t, .v g cs) :: r, q, y, hb, hz, h => by
    simp only [toSl] at h
    split at h <;> try (cases h; done)
    rename_i g' ds hd
    split at h <;> try (cases h; done)
    rename_i hg
    have hg := eq_of_beq hg
    subst hg
    obtain ⟨hb1, hb2⟩ := Bool.and_eq_true_iff.1 hb
    obtain ⟨v, hv1, hv2⟩ := hE t _ hd
    have hz1 : ∀ p ∈ frzC hp cs ds, ∀ b, blk (ρ p.1) = some b → ok' b := fun p hp => hz p (by simp only [frzSl, hd]; exact List.mem_append_left _ hp)
    have hz2 : ∀ p ∈ frzSl env hp r, ∀ b, blk (ρ p.1) = some b → ok' b := fun p hp => hz p (by simp only [frzSl]; exact List.mem_append_right _ hp)
    have fin : ∀ us, All2 (CellR ρ ok w nx) ds us → (∀ v', All2 (CellR (reρ ρ nx0 ren) ok' w (nx0 + nn)) (ofC f cs y).1 us → v' = v → VR (reρ ρ nx0 ren) ok' w (nx0 + nn) g (ofC f cs y).1 v') →
        q = some (ofSl f E0 ((t, .v g cs) :: r) y).2 ∧ RepE (reρ ρ nx0 ren) ok' w (nx0 + nn) (ofSl f E0 ((t, .v g cs) :: r) y).1 tmps := by
      intro us hus hvr
      obtain ⟨h1, h2⟩ := toC_ok hH hm hf cs ds us _ y hus hb1 hz1 h
      obtain ⟨h3, h4⟩ := toSl_ok hH hE hm hf hE0 r q _ hb2 hz2 h1
      refine ⟨h3, fun u s hs => ?_⟩
      simp only [ofSl, put] at hs
      split at hs
      · rename_i he
        cases hs
        rw [Nat.eq_of_beq_eq_true he]
        exact ⟨v, hv1, hvr v h2 rfl⟩
      · exact h4 u s hs
    cases g with
    | true =>
      obtain ⟨us, e, hus⟩ := hv2
      exact fin us hus fun v' hv' e' => ⟨us, e'.trans e, hv'⟩
    | false =>
      obtain ⟨c, e, hc⟩ := hv2
      have e : ds = [c] := e
      subst e
      refine fin [v] (.cons hc .nil) fun v' hv' e' => ?_
      subst e'
      have hl := hv'.len
      match hm' : (ofC f cs y).1, hl with
      | [c'], _ =>
        rw [hm'] at hv'
        obtain ⟨v2, e2, hv2⟩ := hv'.one
        cases e2
        exact ⟨c', rfl, hv2⟩
  | τ, (t, .tup l) :: r, q, y, hb, hz, h => by
    simp only [toSl] at h
    split at h <;> try (cases h; done)
    rename_i ds hd
    obtain ⟨hb1, hb2⟩ := Bool.and_eq_true_iff.1 hb
    obtain ⟨v, hv1, us, e, hv2⟩ := hE t _ hd
    have hz1 : ∀ p ∈ frzCs hp l ds, ∀ b, blk (ρ p.1) = some b → ok' b := fun p hp => hz p (by simp only [frzSl, hd]; exact List.mem_append_left _ hp)
    have hz2 : ∀ p ∈ frzSl env hp r, ∀ b, blk (ρ p.1) = some b → ok' b := fun p hp => hz p (by simp only [frzSl]; exact List.mem_append_right _ hp)
    obtain ⟨h1, h2⟩ := toCs_ok hH hm hf l ds us _ y hv2 hb1 hz1 h
    obtain ⟨h3, h4⟩ := toSl_ok hH hE hm hf hE0 r q _ hb2 hz2 h1
    refine ⟨h3, fun u s hs => ?_⟩
    simp only [ofSl, put] at hs
    split at hs
    · rename_i he
      cases hs
      rw [Nat.eq_of_beq_eq_true he]
      exact ⟨v, hv1, us, e, h2⟩
    · exact h4 u s hs

theorem sameMp_some {a b : Bool} {t u : Ty} {xs : List (ByteArray × u.T)} {ys : List (ByteArray × t.T)} (h : sameMp a b t u xs = some ys) : a = b ∧ ∃ e : t = u, xs = e ▸ ys := by
  unfold sameMp at h
  split at h <;> try (cases h; done)
  rename_i h1
  split at h <;> try (cases h; done)
  rename_i h2
  cases h
  obtain rfl := Ty.b_eq h2
  exact ⟨eq_of_beq h1, rfl, rfl⟩
/-- what lies behind a shape's name -/
structure Took (ρ : Nat → Value) (hp : Heap) (ren : Ren) (l : Nat) (o : Ob) : Prop where
  own : o.own = true
  src : (∃ m p, ren l = some m ∧ hp m = some p ∧ p.own = true) ∨ ren l = none

theorem toO_ok (hH : RepH ρ ok w hp nx) {ok' : Nat → Prop} (hm : ∀ b, ok b → ok' b) {ren : Ren} {f : Nat → Nat} {nx0 nn : Nat} (hf : NameF f nx0 nn ren) {H0 : Heap} :
    ∀ (l : List (Nat × Bool × OSh)) (y : TO l), obBelow nn l = true → (∀ p ∈ frzO hp ren l, ∀ b, blk (ρ p.1) = some b → ok' b) → toO hp ren l = some y →
      ∀ q o, ofO f H0 l y q = some o → (∃ p ∈ l, q = f p.1 ∧ p.1 < nn ∧ ObR (reρ ρ nx0 ren) ok' w (nx0 + nn) q o ∧ Took ρ hp ren p.1 o) ∨ (H0 q = some o ∧ ∀ p ∈ l, q ≠ f p.1)
  | [], y, _, _, _, q, o, h => .inr ⟨h, fun p hp => by cases hp⟩
  | (l, k, .box e cs) :: r, y, hb, hz, hq, q, o, h => by
    simp only [toO] at hq
    split at hq <;> try (cases hq; done)
    rename_i m hr
    split at hq <;> try (cases hq; done)
    rename_i g ds hd
    split at hq <;> try (cases hq; done)
    rename_i he
    have he := Nat.eq_of_beq_eq_true he
    subst he
    simp only [obBelow, Bool.and_eq_true] at hb
    obtain ⟨hb0, hb1, hb2⟩ := hb
    have hl : l < nn := Nat.le_of_ble_eq_true hb0
    obtain ⟨_, b, vs, h1, h2, h3⟩ := hH.ob m _ hd
    have hz1 : ∀ p ∈ frzC hp cs ds, ∀ b, blk (ρ p.1) = some b → ok' b := fun p hp => hz p (by simp only [frzO, hr, hd]; exact List.mem_append_left _ hp)
    have hz2 : ∀ p ∈ frzO hp ren r, ∀ b, blk (ρ p.1) = some b → ok' b := fun p hp => hz p (by simp only [frzO]; exact List.mem_append_right _ hp)
    obtain ⟨h4, h5⟩ := toC_ok hH hm hf cs ds vs _ y h3 hb1 hz1 hq
    simp only [ofO, put] at h
    split at h
    · rename_i hq
      cases h
      have hq := Nat.eq_of_beq_eq_true hq
      refine .inl ⟨_, List.mem_cons_self, hq, hl, ⟨b, vs, ?_, h2, h5⟩, rfl, .inl ⟨m, _, hr, hd, rfl⟩⟩
      rw [hq, hf.at hl, hr]; exact h1
    · rename_i hq
      rcases toO_ok hH hm hf r _ hb2 hz2 h4 q o h with ⟨p, hp1, hp2⟩ | ⟨hp1, hp2⟩
      · exact .inl ⟨p, List.mem_cons_of_mem _ hp1, hp2⟩
      · refine .inr ⟨hp1, fun p hp => ?_⟩
        rcases List.mem_cons.1 hp with rfl | hp
        · exact fun e => hq (by rw [e]; exact Nat.beq_refl _)
        · exact hp2 p hp
  | (l, k, .arr e t) :: r, y, hb, hz, hq, q, o, h => by
    simp only [obBelow, Bool.and_eq_true] at hb
    obtain ⟨hb0, hb2⟩ := hb
    have hl : l < nn := Nat.le_of_ble_eq_true hb0
    have hz2 : ∀ p ∈ frzO hp ren r, ∀ b, blk (ρ p.1) = some b → ok' b := fun p hp => hz p (by simp only [frzO]; exact hp)
    have rest : ∀ z : TO r, toO hp ren r = some z → put (ofO f H0 r z) (f l) (some (.arr e t y.1)) q = some o → ObR (reρ ρ nx0 ren) ok' w (nx0 + nn) (f l) (.arr e t y.1) → Took ρ hp ren l (.arr e t y.1) →
        (∃ p ∈ (l, k, OSh.arr e t) :: r, q = f p.1 ∧ p.1 < nn ∧ ObR (reρ ρ nx0 ren) ok' w (nx0 + nn) q o ∧ Took ρ hp ren p.1 o) ∨ (H0 q = some o ∧ ∀ p ∈ (l, k, OSh.arr e t) :: r, q ≠ f p.1) := by
      intro z hz' hput hob htk
      simp only [put] at hput
      split at hput
      · rename_i hq
        cases hput
        have hq := Nat.eq_of_beq_eq_true hq
        exact .inl ⟨_, List.mem_cons_self, hq, hl, by rw [hq]; exact hob, htk⟩
      · rename_i hq
        rcases toO_ok hH hm hf r z hb2 hz2 hz' q o hput with ⟨p, hp1, hp2⟩ | ⟨hp1, hp2⟩
        · exact .inl ⟨p, List.mem_cons_of_mem _ hp1, hp2⟩
        · refine .inr ⟨hp1, fun p hp => ?_⟩
          rcases List.mem_cons.1 hp with rfl | hp
          · exact fun e => hq (by rw [e]; exact Nat.beq_refl _)
          · exact hp2 p hp
    simp only [toO] at hq
    split at hq
    · rename_i m hr
      split at hq <;> try (cases hq; done)
      rename_i g u xs hd
      split at hq <;> try (cases hq; done)
      rename_i ys hys
      split at hq <;> try (cases hq; done)
      rename_i z hzz
      cases hq
      obtain ⟨rfl, rfl, hys⟩ := sameSl_some hys
      cases hys
      obtain ⟨_, inner, h1, h2⟩ := hH.ob m _ hd
      refine rest z hzz h ⟨inner, ?_, h2.move fun b hb => ⟨hm b hb, rfl⟩⟩ ⟨rfl, .inl ⟨m, _, hr, hd, rfl⟩⟩
      rw [hf.at hl, hr]; exact h1
    · rename_i hr
      split at hq <;> try (cases hq; done)
      rename_i z hzz
      cases hq
      refine rest z hzz h ⟨[], ?_, ⟨[], rfl, .nil⟩⟩ ⟨rfl, .inr hr⟩
      rw [hf.at hl, hr]; exact World.ownsRow_nil w 0 e t.n
  | (l, k, .mp g t) :: r, y, hb, hz, hq, q, o, h => by
    simp only [obBelow, Bool.and_eq_true] at hb
    obtain ⟨hb0, hb2⟩ := hb
    have hl : l < nn := Nat.le_of_ble_eq_true hb0
    have hz2 : ∀ p ∈ frzO hp ren r, ∀ b, blk (ρ p.1) = some b → ok' b := fun p hp => hz p (by simp only [frzO]; exact hp)
    simp only [toO] at hq
    split at hq <;> try (cases hq; done)
    rename_i m hr
    split at hq <;> try (cases hq; done)
    rename_i f' u xs hd
    split at hq <;> try (cases hq; done)
    rename_i ys hys
    split at hq <;> try (cases hq; done)
    rename_i z hzz
    cases hq
    obtain ⟨rfl, rfl, hys⟩ := sameMp_some hys
    cases hys
    obtain ⟨_, rr, es, clock, h1, h2, h3, h4⟩ := hH.ob m _ hd
    simp only [ofO, put] at h
    split at h
    · rename_i hq
      cases h
      have hq := Nat.eq_of_beq_eq_true hq
      refine .inl ⟨_, List.mem_cons_self, hq, hl, ?_, rfl, .inl ⟨m, _, hr, hd, rfl⟩⟩
      rw [hq]
      refine ⟨rr, es, clock, ?_, h2, h3.imp fun _ _ => EntR.move fun b hb => ⟨hm b hb, rfl⟩, h4⟩
      rw [hf.at hl, hr]; exact h1
    · rename_i hq
      rcases toO_ok hH hm hf r z hb2 hz2 hzz q o h with ⟨p, hp1, hp2⟩ | ⟨hp1, hp2⟩
      · exact .inl ⟨p, List.mem_cons_of_mem _ hp1, hp2⟩
      · refine .inr ⟨hp1, fun p hp => ?_⟩
        rcases List.mem_cons.1 hp with rfl | hp
        · exact fun e => hq (by rw [e]; exact Nat.beq_refl _)
        · exact hp2 p hp
end
end Lv
