import Derived.Test.YtnogebfcpicghaaGreatDoorEvB
set_option linter.all false
set_option linter.unusedVariables false
set_option linter.unusedSimpArgs false
set_option linter.unusedSectionVars false
namespace Lv
variable [HasG]
open Go

/-! ## Effects -/
def Eff (ρ : Nat → Value) (ok : Nat → Prop) (w : World) (hp : Heap) (nx : Nat) (up : Ups) (nw : Nat) (ρ' : Nat → Value) (ok' : Nat → Prop) (w' : World) : Prop :=
  RepH ρ' ok' w' (ups hp up) (nx + nw) ∧ Goes ρ ok w hp nx (names up) ρ' ok' w' (ups hp up) (nx + nw)

theorem Eff.refl {ρ ok w hp nx} (h : RepH ρ ok w hp nx) : Eff ρ ok w hp nx [] 0 ρ ok w := ⟨h, Goes.refl fun l o ho => (h.ob l o ho).1⟩

theorem ups_app (hp : Heap) : ∀ (u v : Ups), ups hp (u ++ v) = ups (ups hp u) v
  | [], _ => rfl
  | (l, o) :: r, v => ups_app (put hp l o) r v

theorem Goes.perm {ρ ok w hp nx D D' ρ' ok' w' hp' nx'} (h : Goes ρ ok w hp nx D ρ' ok' w' hp' nx') (hD : ∀ l, l ∈ D ↔ l ∈ D') : Goes ρ ok w hp nx D' ρ' ok' w' hp' nx' :=
  ⟨h.os, h.tape, h.output, h.size, h.nxl, fun b hb hn => h.same b hb fun l hl => hn l ((hD l).1 hl), h.rho, h.okm,
   fun b hb => (h.okn b hb).imp id (Or.imp id fun ⟨l, hl, r⟩ => ⟨l, (hD l).1 hl, r⟩), fun l hl hn => h.hps l hl fun hm => hn ((hD l).1 hm), h.stay,
   fun l o b h1 h2 h3 h4 => (h.nb l o b h1 h2 h3 h4).imp id fun ⟨m, hm, r⟩ => ⟨m, (hD m).1 hm, r⟩⟩

theorem Eff.trans {ρ ok w hp nx u n ρ1 ok1 w1 v m ρ2 ok2 w2} (h : Eff ρ ok w hp nx u n ρ1 ok1 w1) (k : Eff ρ1 ok1 w1 (ups hp u) (nx + n) v m ρ2 ok2 w2) :
    Eff ρ ok w hp nx (u ++ v) (n + m) ρ2 ok2 w2 := by
  refine ⟨by rw [ups_app, ← Nat.add_assoc]; exact k.1, ?_⟩
  have := h.2.trans k.2
  rw [ups_app, ← Nat.add_assoc]
  exact this.perm fun l => by simp [names, List.mem_append, or_comm]

/-! what an update list comes to at a name -/
def lastU : Ups → Nat → Option (Option Ob)
  | [], _ => none
  | (m, o) :: r, l => match lastU r l with
    | some x => some x
    | none => if m = l then some o else none
theorem lastU_cons (m : Nat) (o : Option Ob) (r : Ups) (l : Nat) : lastU ((m, o) :: r) l = match lastU r l with
    | some x => some x
    | none => if m = l then some o else none := rfl
theorem ups_at : ∀ (u : Ups) (hp : Heap) (l : Nat), ups hp u l = match lastU u l with | some o => o | none => hp l
  | [], _, _ => rfl
  | (m, o) :: r, hp, l => by
    show ups (put hp m o) r l = _
    rw [ups_at r, lastU_cons]
    cases lastU r l with
    | some x => rfl
    | none =>
      simp only [put]
      by_cases h : m = l
      · subst h; simp
      · rw [if_neg (fun e => h (Nat.eq_of_beq_eq_true e).symm), if_neg h]
theorem lastU_mem : ∀ {u : Ups} {l : Nat} {o : Option Ob}, lastU u l = some o → (l, o) ∈ u
  | [], _, _, h => by cases h
  | (m, p) :: r, l, o, h => by
    rw [lastU_cons] at h
    cases hr : lastU r l with
    | some x => rw [hr] at h; cases h; exact List.mem_cons_of_mem _ (lastU_mem hr)
    | none =>
      rw [hr] at h
      by_cases e : m = l
      · subst e; rw [if_pos rfl] at h; cases h; exact List.mem_cons_self
      · rw [if_neg e] at h; cases h
theorem lastU_none : ∀ {u : Ups} {l : Nat}, lastU u l = none ↔ l ∉ names u
  | [], _ => by simp [lastU, names]
  | (m, p) :: r, l => by
    have ih := lastU_none (u := r) (l := l)
    rw [lastU_cons]
    simp only [names, List.map_cons, List.mem_cons, not_or] at ih ⊢
    cases hr : lastU r l with
    | some x => rw [hr] at ih; simp only [reduceCtorEq, false_iff] at ih ⊢; exact fun h => ih h.2
    | none =>
      rw [hr] at ih
      have := ih.1 rfl
      by_cases e : m = l
      · subst e; simp
      · rw [if_neg e]; exact ⟨fun _ => ⟨fun h => e h.symm, this⟩, fun _ => rfl⟩

/-! ### to take own arrays as data -/
theorem arr_data {ρ : Nat → Value} {ok ok' : Nat → Prop} {w : World} {l e : Nat} {t : Ty} {xs : List t.T} {inner : List Value}
    (h : w.ownsRow 0 e t.n (ρ l) xs.length inner) (hr : Rows ok w t xs inner) (hm : ∀ b, ok b → ok' b) (hb : ∀ b, blk (ρ l) = some b → ok' b) : K ok' w (.sl e t) xs [ρ l] := by
  rcases h.2 with ⟨hv, hn⟩ | ⟨g, cap, cur, hv, _, hg, hc, hm', hs, ht⟩
  · have hx : xs = [] := List.eq_nil_of_length_eq_zero hn
    subst hx
    exact ⟨none, 0, by rw [hv]; rfl, by simp, .inl rfl⟩
  · refine ⟨some ⟨g, 0, none⟩, cap, by rw [hv], hc, .inr ⟨g, 0, rfl, hb g (by rw [hv]; rfl), fun i x hi => ?_⟩⟩
    obtain ⟨cs, hk, hv⟩ := (hr.move (w' := w) (ok' := ok') fun b hb => ⟨hm b hb, rfl⟩).get i x hi
    refine ⟨cs, hk, fun j v hj => ?_⟩
    have hx := hv j v hj
    rw [← ht, List.getElem?_take] at hx
    split at hx
    · rw [Nat.zero_add]
      simpa [World.cell?, hg] using hx
    · cases hx

def FrzList (hp : Heap) (u : Ups) : Prop := ∀ p ∈ u, ∃ e t xs, hp p.1 = some (.arr e t xs) ∧ p.2 = some (.frz e t xs)
theorem FrzList.app {hp : Heap} {u v : Ups} (h : FrzList hp u) (k : FrzList hp v) : FrzList hp (u ++ v) := fun p hp => by
  rcases List.mem_append.1 hp with h' | h'
  · exact h p h'
  · exact k p h'
theorem FrzList.sub {hp hp' : Heap} {u : Ups} (h : FrzList hp' u) (hs : ∀ l o, hp' l = some o → hp l = some o) : FrzList hp u := fun p hp =>
  let ⟨e, t, xs, h1, h2⟩ := h p hp
  ⟨e, t, xs, hs _ _ h1, h2⟩
theorem frz1_list (hp : Heap) (l : Nat) : FrzList hp (frz1 hp l) := by
  unfold frz1
  split
  · rename_i e t xs h
    intro p hp
    cases List.mem_singleton.1 hp
    exact ⟨e, t, xs, h, rfl⟩
  · intro p hp; cases hp
theorem frzs_list (hp : Heap) : ∀ cs, FrzList hp (frzs hp cs)
  | [] => fun p hp => by cases hp
  | c :: r => by
    have ih := frzs_list hp r
    cases c <;> first | exact ih | exact (frz1_list hp _).app ih

theorem frz_at {hp : Heap} {u : Ups} (h : FrzList hp u) (l : Nat) :
    (l ∈ names u ∧ ∃ e t xs, hp l = some (.arr e t xs) ∧ ups hp u l = some (.frz e t xs)) ∨ (l ∉ names u ∧ ups hp u l = hp l) := by
  by_cases hm : l ∈ names u
  · refine .inl ⟨hm, ?_⟩
    cases hl : lastU u l with
    | none => exact absurd hm (lastU_none.1 hl)
    | some o =>
      obtain ⟨e, t, xs, h1, h2⟩ := h _ (lastU_mem hl)
      simp only at h1 h2
      refine ⟨e, t, xs, h1, ?_⟩
      rw [ups_at, hl]; exact h2
  · exact .inr ⟨hm, by rw [ups_at, lastU_none.2 hm]⟩

def okWith (ok : Nat → Prop) (ρ : Nat → Value) (D : List Nat) : Nat → Prop := fun b => ok b ∨ ∃ l ∈ D, blk (ρ l) = some b

theorem eff_frz {ρ ok w hp nx} (hH : RepH ρ ok w hp nx) {u : Ups} (hu : FrzList hp u) : Eff ρ ok w hp nx u 0 ρ (okWith ok ρ (names u)) w := by
  have own : ∀ l ∈ names u, ∃ o, hp l = some o ∧ o.own = true ∧ l < nx := fun l hl => by
    rcases frz_at hu l with ⟨_, e, t, xs, h1, _⟩ | ⟨hn, _⟩
    · exact ⟨_, h1, rfl, (hH.ob l _ h1).1⟩
    · exact absurd hl hn
  have hS : Same ok (okWith ok ρ (names u)) w w := fun b hb => ⟨.inl hb, rfl⟩
  refine ⟨⟨?_, ?_, ?_, ?_, hH.gl.move hS⟩, ⟨rfl, rfl, Quiet.rfl, Nat.le_refl _, by omega, fun _ _ _ => rfl, fun _ _ => rfl, fun b hb => .inl hb, ?_, ?_, ?_, ?_⟩⟩
  · intro l o ho
    rcases frz_at hu l with ⟨hl, e, t, xs, h1, h2⟩ | ⟨hn, h2⟩
    · rw [h2] at ho; cases ho
      obtain ⟨hlt, inner, h3, h4⟩ := hH.ob l _ h1
      exact ⟨by omega, arr_data h3 h4 (fun b hb => .inl hb) fun b hb => .inr ⟨l, hl, hb⟩⟩
    · rw [h2] at ho
      obtain ⟨h3, h4⟩ := hH.ob l o ho
      exact ⟨by omega, h4.move hS (fun _ _ => rfl) (by omega) rfl fun _ _ _ => rfl⟩
  · rintro b (hb | ⟨l, hl, hb⟩)
    · exact hH.okl b hb
    · obtain ⟨o, h1, h2, _⟩ := own l hl
      exact hH.lt h1 h2 hb
  · intro l o b ho hw hb
    rcases frz_at hu l with ⟨hl, e, t, xs, h1, h2⟩ | ⟨hn, h2⟩
    · rw [h2] at ho; cases ho; cases hw
    · rw [h2] at ho
      rintro (h3 | ⟨m, hm, h3⟩)
      · exact hH.sep l o b ho hw hb h3
      · obtain ⟨p, h4, h5, _⟩ := own m hm
        exact hn (hH.dis l m o p b ho h4 hw h5 hb h3 ▸ hm)
  · intro l m o p b ho hp' hw hpw hb hb'
    rcases frz_at hu l with ⟨hl, e, t, xs, h1, h2⟩ | ⟨hn, h2⟩
    · rw [h2] at ho; cases ho; cases hw
    · rcases frz_at hu m with ⟨hm, e, t, xs, h1, h3⟩ | ⟨hn', h3⟩
      · rw [h3] at hp'; cases hp'; cases hpw
      · rw [h2] at ho; rw [h3] at hp'
        exact hH.dis l m o p b ho hp' hw hpw hb hb'
  · rintro b (hb | ⟨l, hl, hb⟩)
    · exact .inl hb
    · obtain ⟨o, h1, h2, h3⟩ := own l hl
      exact .inr (.inr ⟨l, hl, h3, o, h1, h2, hb⟩)
  · intro l _ hn
    rcases frz_at hu l with ⟨hl, _⟩ | ⟨_, h2⟩
    · exact absurd hl hn
    · exact h2
  · intro l _ o ho
    rcases frz_at hu l with ⟨hl, e, t, xs, h1, h2⟩ | ⟨_, h2⟩
    · rw [h2] at ho; cases ho; exact ⟨_, h1, fun h => by cases h⟩
    · rw [h2] at ho; exact ⟨o, ho, id⟩
  · intro l o b hl ho hw _
    rcases frz_at hu l with ⟨_, e, t, xs, h1, h2⟩ | ⟨_, h2⟩
    · exact absurd (hH.ob l _ h1).1 (by omega)
    · rw [h2] at ho; exact absurd (hH.ob l _ ho).1 (by omega)

/-! ### a new object; an object goes; an object is written -/
def rset (ρ : Nat → Value) (l : Nat) (v : Value) : Nat → Value := fun m => if m = l then v else ρ m

theorem put_same {α : Type} (f : Nat → Option α) (t : Nat) (s : Option α) : put f t s t = s := by simp [put]
theorem put_ne {α : Type} (f : Nat → Option α) {t i : Nat} (s : Option α) (h : i ≠ t) : put f t s i = f i := by
  unfold put; rw [if_neg fun e => h (Nat.eq_of_beq_eq_true e)]

/-- the world grew; a name more -/
theorem eff_new {ρ ok w hp nx} (hH : RepH ρ ok w hp nx) {w' : World} {v : Value} {o : Ob} (hos : w'.os = w.os) (htape : w'.tape = w.tape) (hout : Quiet w w')
    (hsz : w.heap.size ≤ w'.heap.size) (hold : ∀ b, b < w.heap.size → w'.heap[b]? = w.heap[b]?)
    (ho : ObR (rset ρ nx v) ok w' (nx + 1) nx o) (hb : o.own = true → ∀ b, blk v = some b → w.heap.size ≤ b) :
    Eff ρ ok w hp nx [(nx, some o)] 1 (rset ρ nx v) ok w' := by
  have hN : hp nx = none := by
    cases h : hp nx with
    | none => rfl
    | some p => exact absurd (hH.ob nx p h).1 (by omega)
  have hr : ∀ l, l < nx → rset ρ nx v l = ρ l := fun l hl => by simp [rset, Nat.ne_of_lt hl]
  have hrn : rset ρ nx v nx = v := by simp [rset]
  have hS : Same ok ok w w' := fun b hb => ⟨hb, hold b (hH.okl b hb)⟩
  have hat : ∀ l, ups hp [(nx, some o)] l = if l = nx then some o else hp l := fun l => by
    show put hp nx (some o) l = _
    by_cases e : l = nx
    · subst e; simp [put_same]
    · rw [put_ne _ _ e, if_neg e]
  have hlt : ∀ {l p b}, hp l = some p → p.own = true → blk (ρ l) = some b → b < w.heap.size := fun h1 h2 h3 => hH.lt h1 h2 h3
  refine ⟨⟨?_, fun b hb => Nat.lt_of_lt_of_le (hH.okl b hb) hsz, ?_, ?_, hH.gl.move hS⟩, ⟨hos, htape, hout, hsz, by omega, fun b hb _ => hold b hb, hr, fun _ h => h, fun _ h => .inl h, ?_, ?_, ?_⟩⟩
  · intro l p hp'
    rw [hat] at hp'
    by_cases e : l = nx
    · subst e; rw [if_pos rfl] at hp'; cases hp'
      exact ⟨by omega, ho⟩
    · rw [if_neg e] at hp'
      obtain ⟨h1, h2⟩ := hH.ob l p hp'
      exact ⟨by omega, h2.move hS hr (by omega) (hr l h1) fun hw b hbl => hold b (hlt hp' hw hbl)⟩
  · intro l p b hp' hw hbl hok
    rw [hat] at hp'
    by_cases e : l = nx
    · subst e; rw [if_pos rfl] at hp'; cases hp'
      rw [hrn] at hbl
      have := hb hw b hbl
      have := hH.okl b hok
      omega
    · rw [if_neg e] at hp'
      obtain ⟨h1, _⟩ := hH.ob l p hp'
      rw [hr l h1] at hbl
      exact hH.sep l p b hp' hw hbl hok
  · intro l m p q b hp' hq hpw hqw hbl hbm
    rw [hat] at hp' hq
    by_cases e : l = nx
    · by_cases e' : m = nx
      · rw [e, e']
      · subst e; rw [if_pos rfl] at hp'; cases hp'
        rw [if_neg e'] at hq
        rw [hrn] at hbl
        have h1 := hb hpw b hbl
        rw [hr m (hH.ob m q hq).1] at hbm
        have := hlt hq hqw hbm
        omega
    · rw [if_neg e] at hp'
      rw [hr l (hH.ob l p hp').1] at hbl
      by_cases e' : m = nx
      · subst e'; rw [if_pos rfl] at hq; cases hq
        rw [hrn] at hbm
        have h1 := hb hqw b hbm
        have := hlt hp' hpw hbl
        omega
      · rw [if_neg e'] at hq
        rw [hr m (hH.ob m q hq).1] at hbm
        exact hH.dis l m p q b hp' hq hpw hqw hbl hbm
  · intro l hl _
    rw [hat, if_neg (by omega)]
  · intro l hl p hp'
    rw [hat, if_neg (by omega)] at hp'
    exact ⟨p, hp', id⟩
  · intro l p b hl hp' hw hbl
    rw [hat] at hp'
    by_cases e : l = nx
    · subst e; rw [if_pos rfl] at hp'; cases hp'
      rw [hrn] at hbl
      exact .inl (hb hw b hbl)
    · rw [if_neg e] at hp'
      exact absurd (hH.ob l p hp').1 (by omega)

/-- an object is written, in its place -/
theorem eff_set {ρ ok w hp nx} (hH : RepH ρ ok w hp nx) {w' : World} {l : Nat} {o p : Ob} (hl : hp l = some p) (hpw : p.own = true) (hos : w'.os = w.os) (htape : w'.tape = w.tape) (hout : Quiet w w')
    (hsz : w'.heap.size = w.heap.size) (hold : ∀ b, blk (ρ l) ≠ some b → w'.heap[b]? = w.heap[b]?)
    (ho : ObR ρ ok w' nx l o) :
    Eff ρ ok w hp nx [(l, some o)] 0 ρ ok w' := by
  have hln := (hH.ob l p hl).1
  have hS : Same ok ok w w' := fun b hb => ⟨hb, hold b fun e => hH.sep l p b hl hpw e hb⟩
  have hat : ∀ m, ups hp [(l, some o)] m = if m = l then some o else hp m := fun m => by
    show put hp l (some o) m = _
    by_cases e : m = l
    · subst e; simp [put_same]
    · rw [put_ne _ _ e, if_neg e]
  -- whatever is there now was there, and own if it is own
  have was : ∀ m q, ups hp [(l, some o)] m = some q → ∃ q', hp m = some q' ∧ (q.own = true → q'.own = true) := fun m q hq => by
    rw [hat] at hq
    by_cases e : m = l
    · subst e; exact ⟨p, hl, fun _ => hpw⟩
    · rw [if_neg e] at hq; exact ⟨q, hq, id⟩
  refine ⟨⟨?_, fun b hb => by rw [hsz]; exact hH.okl b hb, ?_, ?_, hH.gl.move hS⟩, ⟨hos, htape, hout, by omega, by omega, ?_, fun _ _ => rfl, fun _ h => h, fun _ h => .inl h, ?_, ?_, ?_⟩⟩
  · intro m q hq
    rw [hat] at hq
    by_cases e : m = l
    · subst e; rw [if_pos rfl] at hq; cases hq
      exact ⟨by omega, ho⟩
    · rw [if_neg e] at hq
      obtain ⟨h1, h2⟩ := hH.ob m q hq
      exact ⟨by omega, h2.move hS (fun _ _ => rfl) (by omega) rfl fun hw b hbl => hold b fun e' => e (hH.dis m l q p b hq hl hw hpw hbl e')⟩
  · intro m q b hq hw hbl hok
    obtain ⟨q', h1, h2⟩ := was m q hq
    exact hH.sep m q' b h1 (h2 hw) hbl hok
  · intro m n q r b hq hr hqw hrw hbl hbm
    obtain ⟨q', h1, h2⟩ := was m q hq
    obtain ⟨r', h3, h4⟩ := was n r hr
    exact hH.dis m n q' r' b h1 h3 (h2 hqw) (h4 hrw) hbl hbm
  · intro b hb hne
    exact hold b (hne l (by simp [names]) hln p hl hpw)
  · intro m hm hn
    rw [hat, if_neg fun e => hn (by simp [names, e])]
  · intro m hm q hq
    exact was m q hq
  · intro m q b hm hq hw hbl
    obtain ⟨q', h1, _⟩ := was m q hq
    exact absurd (hH.ob m q' h1).1 (by omega)

/-- an object goes -/
theorem eff_drop {ρ ok w hp nx} (hH : RepH ρ ok w hp nx) (l : Nat) : Eff ρ ok w hp nx [(l, none)] 0 ρ ok w := by
  have hat : ∀ m, ups hp [(l, none)] m = if m = l then none else hp m := fun m => by
    show put hp l none m = _
    by_cases e : m = l
    · subst e; simp [put_same]
    · rw [put_ne _ _ e, if_neg e]
  have was : ∀ m q, ups hp [(l, none)] m = some q → hp m = some q := fun m q hq => by
    rw [hat] at hq
    by_cases e : m = l
    · rw [if_pos e] at hq; cases hq
    · rw [if_neg e] at hq; exact hq
  refine ⟨⟨fun m q hq => hH.ob m q (was m q hq), hH.okl, fun m q b hq => hH.sep m q b (was m q hq), fun m n q r b hq hr => hH.dis m n q r b (was m q hq) (was n r hr), hH.gl⟩,
    ⟨rfl, rfl, Quiet.rfl, Nat.le_refl _, by omega, fun _ _ _ => rfl, fun _ _ => rfl, fun _ h => h, fun _ h => .inl h, ?_, fun m _ q hq => ⟨q, was m q hq, id⟩,
     fun m q b hm hq _ _ => absurd (hH.ob m q (was m q hq)).1 (by omega)⟩⟩
  intro m hm hn
  rw [hat, if_neg fun e => hn (by simp [names, e])]

/-- an own array goes on under a new name: its block may be written, or a new one is -/
theorem eff_turn {ρ ok w hp nx} (hH : RepH ρ ok w hp nx) {w' : World} {l : Nat} {o p : Ob} {v : Value} (hl : hp l = some p) (hpw : p.own = true) (hos : w'.os = w.os) (htape : w'.tape = w.tape) (hout : Quiet w w')
    (hsz : w.heap.size ≤ w'.heap.size) (hold : ∀ b, b < w.heap.size → blk (ρ l) ≠ some b → w'.heap[b]? = w.heap[b]?)
    (ho : ObR (rset ρ nx v) ok w' (nx + 1) nx o) (hv : ∀ b, blk v = some b → w.heap.size ≤ b ∨ blk (ρ l) = some b) :
    Eff ρ ok w hp nx [(l, none), (nx, some o)] 1 (rset ρ nx v) ok w' := by
  have hln := (hH.ob l p hl).1
  have hr : ∀ m, m < nx → rset ρ nx v m = ρ m := fun m hm => by simp [rset, Nat.ne_of_lt hm]
  have hrn : rset ρ nx v nx = v := by simp [rset]
  have hS : Same ok ok w w' := fun b hb => ⟨hb, hold b (hH.okl b hb) fun e => hH.sep l p b hl hpw e hb⟩
  have hat : ∀ m, ups hp [(l, none), (nx, some o)] m = if m = nx then some o else if m = l then none else hp m := fun m => by
    show put (put hp l none) nx (some o) m = _
    by_cases e : m = nx
    · subst e; simp [put_same]
    · rw [put_ne _ _ e, if_neg e]
      by_cases e' : m = l
      · subst e'; simp [put_same]
      · rw [put_ne _ _ e', if_neg e']
  have was : ∀ m q, m ≠ nx → ups hp [(l, none), (nx, some o)] m = some q → hp m = some q ∧ m ≠ l := fun m q hm hq => by
    rw [hat, if_neg hm] at hq
    by_cases e : m = l
    · rw [if_pos e] at hq; cases hq
    · rw [if_neg e] at hq; exact ⟨hq, e⟩
  refine ⟨⟨?_, fun b hb => Nat.lt_of_lt_of_le (hH.okl b hb) hsz, ?_, ?_, hH.gl.move hS⟩, ⟨hos, htape, hout, hsz, by omega, ?_, hr, fun _ h => h, fun _ h => .inl h, ?_, ?_, ?_⟩⟩
  · intro m q hq
    by_cases e : m = nx
    · subst e; rw [hat, if_pos rfl] at hq; cases hq
      exact ⟨by omega, ho⟩
    · obtain ⟨h1, h2⟩ := was m q e hq
      obtain ⟨h3, h4⟩ := hH.ob m q h1
      exact ⟨by omega, h4.move hS hr (by omega) (hr m h3) fun hw b hbl => hold b (hH.lt h1 hw hbl) fun e' => h2 (hH.dis m l q p b h1 hl hw hpw hbl e')⟩
  · intro m q b hq hw hbl hok
    by_cases e : m = nx
    · subst e
      rw [hrn] at hbl
      rcases hv b hbl with h1 | h1
      · have := hH.okl b hok; omega
      · exact hH.sep l p b hl hpw h1 hok
    · obtain ⟨h1, h2⟩ := was m q e hq
      rw [hr m (hH.ob m q h1).1] at hbl
      exact hH.sep m q b h1 hw hbl hok
  · have key : ∀ m q b, m ≠ nx → ups hp [(l, none), (nx, some o)] m = some q → q.own = true → blk (rset ρ nx v m) = some b → blk v = some b → False := fun m q b e hq hqw hbl hbv => by
      obtain ⟨h1, h2⟩ := was m q e hq
      rw [hr m (hH.ob m q h1).1] at hbl
      rcases hv b hbv with h3 | h3
      · have := hH.lt h1 hqw hbl; omega
      · exact h2 (hH.dis m l q p b h1 hl hqw hpw hbl h3)
    intro m n q r b hq hr' hqw hrw hbl hbm
    by_cases e : m = nx
    · by_cases e' : n = nx
      · rw [e, e']
      · exact (key n r b e' hr' hrw hbm (by rw [e, hrn] at hbl; exact hbl)).elim
    · by_cases e' : n = nx
      · exact (key m q b e hq hqw hbl (by rw [e', hrn] at hbm; exact hbm)).elim
      · obtain ⟨h1, _⟩ := was m q e hq
        obtain ⟨h2, _⟩ := was n r e' hr'
        rw [hr m (hH.ob m q h1).1] at hbl
        rw [hr n (hH.ob n r h2).1] at hbm
        exact hH.dis m n q r b h1 h2 hqw hrw hbl hbm
  · intro b hb hne
    exact hold b hb (hne l (by simp [names]) hln p hl hpw)
  · intro m hm hn
    rw [hat, if_neg (by omega), if_neg fun e => hn (by simp [names, e])]
  · intro m hm q hq
    exact ⟨q, (was m q (by omega) hq).1, id⟩
  · intro m q b hm hq hw hbl
    by_cases e : m = nx
    · subst e
      rw [hrn] at hbl
      rcases hv b hbl with h1 | h1
      · exact .inl h1
      · exact .inr ⟨l, by simp [names], hln, p, hl, hpw, h1⟩
    · exact absurd (hH.ob m q (was m q e hq).1).1 (by omega)
end Lv
