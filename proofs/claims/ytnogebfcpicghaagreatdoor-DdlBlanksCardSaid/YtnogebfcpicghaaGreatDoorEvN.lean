import Derived.Test.YtnogebfcpicghaaGreatDoorEvM
set_option linter.all false
set_option linter.unusedVariables false
set_option linter.unusedSimpArgs false
set_option linter.unusedSectionVars false
namespace Lv
variable [HasG]
open Go Go.RowKit

theorem loopM_some {S R : Type} {body : S → Option (S ⊕ R)} {s : S} {r : R} (h : loopM body s = some r) : ∃ n, iterM body n s = some r := by
  unfold loopM at h
  split at h
  · rename_i hx
    cases h
    exact ⟨_, Classical.choose_spec (Classical.choose_spec hx)⟩
  · cases h
theorem iterM_mono {S R : Type} {body : S → Option (S ⊕ R)} : ∀ {n m : Nat} {s : S} {r : R}, iterM body n s = some r → n ≤ m → iterM body m s = some r
  | 0, _, _, _, h, _ => by cases h
  | n + 1, 0, _, _, _, hm => by omega
  | n + 1, m + 1, s, r, h, hm => by
    simp only [iterM] at h ⊢
    split at h <;> first | (cases h; done) | skip
    · rename_i s' hs
      exact iterM_mono h (by omega)
    · exact h
theorem loopM_of {S R : Type} {body : S → Option (S ⊕ R)} {s : S} {r : R} {n : Nat} (h : iterM body n s = some r) : loopM body s = some r := by
  have hx : ∃ n r, iterM body n s = some r := ⟨n, r, h⟩
  unfold loopM
  rw [dif_pos hx]
  congr 1
  have h2 := Classical.choose_spec (Classical.choose_spec hx)
  generalize Classical.choose (Classical.choose_spec hx) = r' at h2 ⊢
  rcases Nat.le_total n (Classical.choose hx) with hle | hle
  · have := iterM_mono h hle
    rw [this] at h2
    exact (Option.some.inj h2).symm
  · have := iterM_mono h2 hle
    rw [this] at h
    exact Option.some.inj h
/-- a loop, round by round -/
theorem loopM_eq {S R : Type} (body : S → Option (S ⊕ R)) (s : S) : loopM body s = match body s with
    | some (.inl s') => loopM body s'
    | some (.inr r) => some r
    | none => none := by
  cases hb : body s with
  | none =>
    cases hl : loopM body s with
    | none => rfl
    | some r =>
      obtain ⟨n, hn⟩ := loopM_some hl
      cases n with
      | zero => cases hn
      | succ n => simp [iterM, hb] at hn
  | some z =>
    cases z with
    | inr r => exact loopM_of (n := 1) (by simp [iterM, hb])
    | inl s' =>
      simp only
      cases hl : loopM body s' with
      | some r =>
        obtain ⟨n, hn⟩ := loopM_some hl
        exact loopM_of (n := n + 1) (by simp [iterM, hb, hn])
      | none =>
        cases hl' : loopM body s with
        | none => rfl
        | some r =>
          obtain ⟨n, hn⟩ := loopM_some hl'
          cases n with
          | zero => cases hn
          | succ n =>
            simp only [iterM, hb] at hn
            rw [loopM_of hn] at hl
            cases hl

theorem least_ex {p : Nat → Prop} (h : ∃ n, p n) : ∃ n, p n ∧ ∀ m, p m → n ≤ m := by
  obtain ⟨n, hn⟩ := h
  induction n using Nat.strongRecOn with
  | ind n ih =>
    by_cases hx : ∃ m, m < n ∧ p m
    · obtain ⟨m, h1, h2⟩ := hx; exact ih m h1 h2
    · exact ⟨n, hn, fun m hm => Nat.le_of_not_lt fun hlt => hx ⟨m, hlt, hm⟩⟩
open Classical in
noncomputable def leastN (p : Nat → Prop) : Nat := if h : ∃ n, p n ∧ ∀ m, p m → n ≤ m then choose h else 0
theorem leastN_spec {p : Nat → Prop} (h : ∃ n, p n) : p (leastN p) := by
  unfold leastN
  rw [dif_pos (least_ex h)]
  exact (Classical.choose_spec (least_ex h)).1
theorem leastN_le {p : Nat → Prop} {m : Nat} (h : p m) : leastN p ≤ m := by
  unfold leastN
  rw [dif_pos (least_ex ⟨m, h⟩)]
  exact (Classical.choose_spec (least_ex ⟨m, h⟩)).2 m h

def Out.st : Out → St
  | .normal st => st
  | .exit _ st => st
  | .ret st => st
  | .pan _ st => st
def OutIs : Out → Exit → Prop
  | .normal _, e => e = .normal
  | .exit id _, e => e = .exit id
  | .ret _, e => e = .ret
  | .pan _ _, _ => False

def DrawnOk (P : Program) (cx : Cx) : Prop := P.follows .mixedOrders = true ∧ ∀ (R : Type) (id : Nat) (ops : Array Oper) (st : St) (κ : St → Option R) (r : R),
  (evDrawn cx ops ops.toList st [] fun st tr => if allFree ops (ops.toList.zip tr) = true then κ st else none) = some r → ∀ ρ ok w (a : Act),
    RepH ρ ok w st.hp st.nx → RepE ρ ok w st.nx st.env a.tmps → (∀ o ∈ ops.toList, ∀ t ∈ dstOf o, t < a.tmps.size) → ∀ (Q : Exit → Act → World → Prop),
    (∀ st' a' w', κ st' = some r → After st ρ ok w a (ops.toList.flatMap dstOf) st' a' w' → Q .normal a' w') → (Code.region id ops true).wp P Q a w

theorem keepE_some {kp : List Nat} {env : Env} {t : Nat} {s : Slot} (h : keepE kp env t = some s) : t ∈ kp ∧ env t = some s := by
  unfold keepE at h
  split at h
  · rename_i hm; exact ⟨memN_iff.1 hm, h⟩
  · cases h

theorem instN_name {ren : Ren} {nx : Nat} : ∀ (ob : List (Nat × Bool × OSh)) (l : Nat), instN ren nx ob l = nx + l ∨ (ren l = some (instN ren nx ob l) ∧ ∃ p ∈ ob, p.1 = l ∧ p.2.1 = true)
  | [], l => .inl rfl
  | (m, k, o) :: r, l => by
    simp only [instN]
    split
    · rename_i hm
      have hm := Nat.eq_of_beq_eq_true hm
      subst hm
      split
      · split
        · rename_i hr; exact .inr ⟨hr, _, List.mem_cons_self, rfl, rfl⟩
        · exact .inl rfl
      · exact .inl rfl
    · rcases instN_name r l with h | ⟨h1, p, h2, h3⟩
      · exact .inl h
      · exact .inr ⟨h1, p, List.mem_cons_of_mem _ h2, h3⟩
theorem instN_keep {ren : Ren} {nx : Nat} : ∀ (ob : List (Nat × Bool × OSh)) (p : Nat × Bool × OSh), p ∈ ob → instN ren nx ob p.1 = nx + p.1 ∨ (ren p.1 = some (instN ren nx ob p.1) ∧ ∃ q ∈ ob, q.1 = p.1 ∧ q.2.1 = true) := fun ob p _ => instN_name ob p.1

theorem keptOk_spec {ren : Ren} {f : Nat → Nat} : ∀ {ob : List (Nat × Bool × OSh)}, keptOk ren f ob = true → ∀ p ∈ ob, p.2.1 = true → ren p.1 = some (f p.1)
  | (l, true, o) :: r, h, p, hp, hk => by
    obtain ⟨h1, h2⟩ := Bool.and_eq_true_iff.1 h
    rcases List.mem_cons.1 hp with rfl | hp
    · split at h1
      · rename_i m hm
        simp only
        rw [hm, Nat.eq_of_beq_eq_true h1]
      · cases h1
    · exact keptOk_spec h2 p hp hk
  | (l, false, o) :: r, h, p, hp, hk => by
    rcases List.mem_cons.1 hp with rfl | hp
    · cases hk
    · exact keptOk_spec (ob := r) h p hp hk
theorem dtOk_spec {nx : Nat} {obs : List Nat} {hp : Heap} : ∀ {l : List Nat}, dtOk nx obs hp l = true → ∀ d ∈ l, nx ≤ d ∨ d ∈ obs ∨ hp d = none
  | d :: r, h, x, hx => by
    obtain ⟨h1, h2⟩ := Bool.and_eq_true_iff.1 h
    rcases List.mem_cons.1 hx with rfl | hx
    · rcases Bool.or_eq_true_iff.1 h1 with h | h
      · exact .inl (Nat.le_of_ble_eq_true h)
      · rcases Bool.or_eq_true_iff.1 h with h | h
        · exact .inr (.inl (memN_iff.1 h))
        · cases hd : hp x with
          | none => exact .inr (.inr rfl)
          | some o => rw [hd] at h; cases h
    · exact dtOk_spec h2 x hx
theorem obN_mem {f : Nat → Nat} : ∀ {ob : List (Nat × Bool × OSh)} {q : Nat}, q ∈ obN f ob ↔ ∃ p ∈ ob, q = f p.1
  | [], q => by simp [obN]
  | (l, k, o) :: r, q => by
    simp only [obN, List.mem_cons, obN_mem (ob := r)]
    constructor
    · rintro (h | ⟨p, h1, h2⟩)
      · exact ⟨_, .inl rfl, h⟩
      · exact ⟨p, .inr h1, h2⟩
    · rintro ⟨p, rfl | h1, h2⟩
      · exact .inl h2
      · exact .inr ⟨p, h1, h2⟩

section
variable {P : Program} {cx : Cx} {inl : Inl}

/-- a state behind a fragment, taken as a shape's over what stays of an elder one -/
theorem take_ok {sh : Sh} {c : Code} (hsh : shOk sh c = true) {st : St} {ρ0 : Nat → Value} {ok0 : Nat → Prop} {w0 : World} {a0 : Act} (hH0 : RepH ρ0 ok0 w0 st.hp st.nx) (hE0 : RepE ρ0 ok0 w0 st.nx st.env a0.tmps)
    {f : Nat → Nat} {H0 : Heap} {gone : List Nat}
    (hH0' : ∀ q o, H0 q = some o → (st.hp q = some o ∨ ∃ e t xs, st.hp q = some (.arr e t xs) ∧ o = .frz e t xs)) (hgone : ∀ q, q ∉ gone → H0 q = st.hp q)
    {st' : St} {ρ : Nat → Value} {ok : Nat → Prop} {w : World} {a : Act} (hH : RepH ρ ok w st'.hp st'.nx) (hE : RepE ρ ok w st'.nx st'.env a.tmps) {D : List Nat} (G : Goes ρ0 ok0 w0 st.hp st.nx D ρ ok w st'.hp st'.nx) (hT : Tm (writes c) a0 a)
    (hf : NameF f st.nx sh.nn (renOf sh st'.env st'.hp)) (hB : ∀ q o, H0 q = some o → ObR ρ (okWith ok ρ (names (frzSh sh st'.env st'.hp))) w st.nx q o ∧ ups st'.hp (frzSh sh st'.env st'.hp) q = some o ∧ q ∉ names (goneO (renOf sh st'.env st'.hp) sh.ob))
    (hC : ∀ d, d ∈ names (leave sh st'.env st'.hp) ∨ d ∈ D → d < st.nx → st.hp d ≠ none → d ∈ obN f sh.ob ++ gone) {x : TS sh} (hx : toSt sh st'.env st'.hp = some x) :
    ∃ ρ2 ok2, RepH ρ2 ok2 w (shHp sh f H0 st.env x) (st.nx + sh.nn) ∧ RepE ρ2 ok2 w (st.nx + sh.nn) (shEnv sh f st.env x) a.tmps ∧
      Goes ρ0 ok0 w0 st.hp st.nx (obN f sh.ob ++ gone) ρ2 ok2 w (shHp sh f H0 st.env x) (st.nx + sh.nn) ∧ (∀ q o, H0 q = some o → ObR ρ2 ok2 w st.nx q o) := by
  obtain ⟨hap, hbel⟩ := Bool.and_eq_true_iff.1 hsh
  have hap := apartN_iff.1 hap
  have hlt : ∀ q o, H0 q = some o → q < st.nx := fun q o h => by
    rcases hH0' q o h with h1 | ⟨e, t, xs, h1, _⟩
    · exact (hH0.ob q o h1).1
    · exact (hH0.ob q _ h1).1
  have hKE : RepE ρ ok w st.nx (keepE sh.kp st.env) a.tmps := by
    intro t s hs
    obtain ⟨h1, h2⟩ := keepE_some hs
    obtain ⟨v, h3, h4⟩ := hE0 t s h2
    exact ⟨v, by rw [hT.same t (hap t h1)]; exact h3, h4.move (G.sameOk hH0) G.rho (Nat.le_refl _)⟩
  obtain ⟨t1, t2, t3⟩ := retake hH hE hbel hx hf (H0 := H0) (fun q o h => ⟨hlt q o h, hB q o h⟩) hKE
  refine ⟨_, _, t1, t2, ?_, fun q o h => (hB q o h).1.move (Same.refl _ _) (fun l hl => by simp [reρ, hl]) (Nat.le_refl _) (by simp [reρ, hlt q o h]) fun _ _ _ => rfl⟩
  refine retake_goes G hH hf (H0 := H0) t3 (fun q hq => ofO_other f H0 sh.ob _ q hq) (fun q o h => ⟨hlt q o h, by
    rcases frz_at (frzSh_list sh st'.env st'.hp) q with ⟨_, e, t, xs, k1, k2⟩ | ⟨_, k2⟩
    · rw [(hB q o h).2.1] at k2; cases k2; exact ⟨_, k1, fun h => by cases h⟩
    · rw [(hB q o h).2.1] at k2; exact ⟨o, k2.symm, id⟩⟩) (fun q _ hn => hgone q fun h => hn (List.mem_append_right _ h)) (fun p hp => List.mem_append_left _ (obN_mem.2 ⟨p, hp, rfl⟩)) hC

theorem leave_src (sh : Sh) (env : Env) (hp : Heap) (q : Nat) (o : Ob) (h : ups hp (leave sh env hp) q = some o) :
    q ∉ names (goneO (renOf sh env hp) sh.ob) ∧ (hp q = some o ∨ ∃ e t xs, hp q = some (.arr e t xs) ∧ o = .frz e t xs) := by
  rcases leave_at sh env hp hp (fun _ _ h => h) q with ⟨h1, h2⟩ | ⟨_, h2⟩ | ⟨h0, _, e, t, xs, h1, h2⟩
  · rw [h2] at h; exact ⟨fun hg => h1 ((leave_names sh q).2 (.inr hg)), .inl h⟩
  · rw [h2] at h; cases h
  · rw [h2] at h; cases h; exact ⟨h0, .inr ⟨e, t, xs, h1, rfl⟩⟩

theorem instN_f {sh : Sh} {st : St} {hp : Heap} (hlt : ∀ l m, renOf sh st.env hp l = some m → m < st.nx) : NameF (instN (renOf sh st.env hp) st.nx sh.ob) st.nx sh.nn (renOf sh st.env hp) := fun l _ => by
  rcases instN_name (nx := st.nx) (ren := renOf sh st.env hp) sh.ob l with h | ⟨h, _⟩
  · exact .inl h
  · exact .inr ⟨h, hlt _ _ h⟩

theorem renC_lt {ρ : Nat → Value} {ok : Nat → Prop} {w : World} {nx : Nat} : ∀ {cs : List CSh} {ds : List Cell} {vs : List Value}, All2 (CellR ρ ok w nx) ds vs → ∀ p ∈ renC cs ds, p.2 < nx
  | [], [], _, _, p, hp => by simp [renC] at hp
  | [], _ :: _, _, _, p, hp => by simp [renC] at hp
  | c :: r, [], _, _, p, hp => by cases c <;> simp [renC] at hp
  | c :: r, d :: ds, _, .cons hd ht, p, hp => by
    have ih := renC_lt (cs := r) ht
    cases c <;> cases d <;> simp only [renC, List.mem_cons] at hp <;> first
      | exact ih p hp
      | (rcases hp with rfl | hp
         · exact hd.1
         · exact ih p hp)
theorem renCs_lt {ρ : Nat → Value} {ok : Nat → Prop} {w : World} {nx : Nat} : ∀ {cs : List (Bool × List CSh)} {ds : List (Bool × List Cell)} {vs : List Value}, All2 (fun (p : Bool × List Cell) u => VR ρ ok w nx p.1 p.2 u) ds vs → ∀ p ∈ renCs cs ds, p.2 < nx
  | [], _, _, _, p, hp => by simp [renCs] at hp
  | _ :: _, [], _, _, p, hp => by simp [renCs] at hp
  | (_, cs) :: r, (g, ds) :: dr, _, .cons hd ht, p, hp => by
    simp only [renCs, List.mem_append] at hp
    rcases hp with hp | hp
    · cases g with
      | true => obtain ⟨us, _, hus⟩ := hd; exact renC_lt hus p hp
      | false =>
        obtain ⟨c, e, hc⟩ := hd
        have e : ds = [c] := e
        subst e
        exact renC_lt (.cons hc .nil) p hp
    · exact renCs_lt ht p hp
theorem renSl_lt {ρ : Nat → Value} {ok : Nat → Prop} {w : World} {nx : Nat} {env : Env} {tmps : Array Value} (hE : RepE ρ ok w nx env tmps) : ∀ (l : List (Nat × SSh)), ∀ p ∈ renSl env l, p.2 < nx
  | [], p, hp => by simp [renSl] at hp
  | (t, .v _ cs) :: r, p, hp => by
    simp only [renSl, List.mem_append] at hp
    rcases hp with hp | hp
    · split at hp
      · rename_i g ds hd
        obtain ⟨v, _, hv⟩ := hE t _ hd
        cases g with
        | true => obtain ⟨us, _, hus⟩ := hv; exact renC_lt hus p hp
        | false =>
          obtain ⟨c, e, hc⟩ := hv
          subst e
          exact renC_lt (.cons hc .nil) p hp
      · cases hp
    · exact renSl_lt hE r p hp
  | (t, .tup l) :: r, p, hp => by
    simp only [renSl, List.mem_append] at hp
    rcases hp with hp | hp
    · split at hp
      · rename_i ds hd
        obtain ⟨v, _, us, _, hv⟩ := hE t _ hd
        exact renCs_lt hv p hp
      · cases hp
    · exact renSl_lt hE r p hp
theorem renO_lt {ρ : Nat → Value} {ok : Nat → Prop} {w : World} {hp : Heap} {nx : Nat} (hH : RepH ρ ok w hp nx) : ∀ (l : List (Nat × Bool × OSh)) (acc : List (Nat × Nat)), (∀ p ∈ acc, p.2 < nx) → ∀ p ∈ renO hp l acc, p.2 < nx
  | [], acc, h, p, hp' => h p hp'
  | (l, _, .box _ cs) :: r, acc, h, p, hp' => by
    simp only [renO] at hp'
    refine renO_lt hH r _ ?_ p hp'
    intro q hq
    split at hq
    · rename_i m hm
      split at hq
      · rename_i e ds hd
        rcases List.mem_append.1 hq with hq | hq
        · exact h q hq
        · obtain ⟨_, b, vs, _, _, hv⟩ := hH.ob m _ hd
          exact renC_lt hv q hq
      · exact h q hq
    · exact h q hq
  | (l, _, .arr _ _) :: r, acc, h, p, hp' => renO_lt hH r acc h p hp'
  | (l, _, .mp _ _) :: r, acc, h, p, hp' => renO_lt hH r acc h p hp'
theorem renAt_mem : ∀ {l : List (Nat × Nat)} {k m : Nat}, renAt l k = some m → (k, m) ∈ l
  | (a, b) :: r, k, m, h => by
    simp only [renAt] at h
    split at h
    · rename_i he; cases h; rw [Nat.eq_of_beq_eq_true he]; exact List.mem_cons_self
    · exact List.mem_cons_of_mem _ (renAt_mem h)
theorem renFx_lt {ρ : Nat → Value} {ok : Nat → Prop} {w : World} {hp : Heap} {nx : Nat} (hH : RepH ρ ok w hp nx) : ∀ (l : List (Nat × Nat)), ∀ p ∈ renFx hp l, p.2 < nx
  | [], p, h => by cases h
  | (a, m) :: r, p, h => by
    unfold renFx at h
    split at h
    · rename_i o ho
      rcases List.mem_cons.1 h with rfl | h
      · exact (hH.ob m o ho).1
      · exact renFx_lt hH r p h
    · exact renFx_lt hH r p h
theorem ren_lt {ρ : Nat → Value} {ok : Nat → Prop} {w : World} {hp : Heap} {nx : Nat} {env : Env} {tmps : Array Value} (hH : RepH ρ ok w hp nx) (hE : RepE ρ ok w nx env tmps) (sh : Sh) {l m : Nat} (h : renOf sh env hp l = some m) : m < nx :=
  renO_lt hH sh.ob _ (fun p hp => (List.mem_append.1 hp).elim (renFx_lt hH sh.fx p) (renSl_lt hE sh.sl p)) _ (renAt_mem h)

/-- the names for a state behind a fragment -/
theorem nameF_back {sh : Sh} {st : St} {ρ : Nat → Value} {ok : Nat → Prop} {w : World} {a : Act} (hH : RepH ρ ok w st.hp st.nx) (hE : RepE ρ ok w st.nx st.env a.tmps) {ren : Ren}
    (hk : keptOk ren (instN (renOf sh st.env st.hp) st.nx sh.ob) sh.ob = true) : NameF (instN (renOf sh st.env st.hp) st.nx sh.ob) st.nx sh.nn ren := fun l _ => by
  rcases instN_name (nx := st.nx) (ren := renOf sh st.env st.hp) sh.ob l with h | ⟨h, p, h1, h2, h3⟩
  · exact .inl h
  · refine .inr ⟨?_, ren_lt hH hE sh h⟩
    have := keptOk_spec hk p h1 h3
    rwa [h2] at this

/-- what stays of an elder heap, behind a fragment that left it alone -/
theorem base_ok {sh : Sh} {st : St} {ρ0 : Nat → Value} {ok0 ok0' : Nat → Prop} {w0 : World} {f : Nat → Nat} {H0 : Heap} {gone : List Nat} (hob : ∀ p ∈ sh.ob, f p.1 < st.nx → f p.1 ∈ gone) (hgn : ∀ q ∈ gone, H0 q = none ∨ True)
    (hOb : ∀ q o, H0 q = some o → q < st.nx ∧ q ∉ obN f sh.ob) {env : Env} {hp : Heap} {D : List Nat} (hdt : ∀ d ∈ names (leave sh env hp) ++ D, st.nx ≤ d ∨ d ∈ obN f sh.ob ∨ H0 d = none) {q : Nat} {o : Ob} (h : H0 q = some o) :
    q ∉ names (leave sh env hp) ∧ q ∉ D := by
  obtain ⟨h1, h2⟩ := hOb q o h
  have : q ∉ names (leave sh env hp) ++ D := fun hm => by
    rcases hdt q hm with g | g | g
    · omega
    · exact h2 g
    · rw [h] at g; cases g
  exact ⟨fun hm => this (List.mem_append_left _ hm), fun hm => this (List.mem_append_right _ hm)⟩

theorem goneJ_ups {sh : Sh} {env : Env} {hp : Heap} {p : Nat × Option Ob} (h : p ∈ goneJ sh env hp) : p.2 = none := by
  rcases List.mem_append.1 h with h | h
  · exact goneO_ups h
  · obtain ⟨q, _, rfl⟩ := List.mem_map.1 h; rfl
theorem goneJ_mem {sh : Sh} {env : Env} {hp : Heap} {p : Nat × Bool × OSh} {m : Nat} (h : p ∈ sh.ob) (e : renOf sh env hp p.1 = some m) : m ∈ names (goneJ sh env hp) := by
  unfold goneJ names
  rw [List.map_append]
  exact List.mem_append_left _ (goneO_mem h e)

/-- the fragment's outcome -/
def OutPost {R : Type} (κ : Out → Option R) (r : R) (st : St) (ρ : Nat → Value) (ok : Nat → Prop) (w : World) (a : Act) (W : List Nat) (Q : Exit → Act → World → Prop) : Prop :=
  ∀ o e a' w', κ o = some r → OutIs o e → After st ρ ok w a W o.st a' w' → Q e a' w'

theorem evC_ok (hcx : CxOk P cx) (hinl : InlOk P cx.pan inl) (hdr : DrawnOk P cx) : ∀ (c : Code) (R : Type) (h : H) (st : St) (κ : Out → Option R) (r : R), evC cx inl R c h st κ = some r → ∀ ρ ok w (a : Act),
    RepH ρ ok w st.hp st.nx → RepE ρ ok w st.nx st.env a.tmps → (∀ t ∈ writes c, t < a.tmps.size) → ∀ (Q : Exit → Act → World → Prop), OutPost κ r st ρ ok w a (writes c) Q → PanPost cx.pan (fun n st => κ (.pan n st)) r st ρ ok w a (writes c) Q → c.wp P Q a w
  | .skip, R, h, st, κ, r, hc, ρ, ok, w, a, hH, hE, hW, Q, hQ, hQp => by
    simp only [evC] at hc
    exact wp_skip (hQ _ _ _ _ hc rfl ⟨ρ, ok, [], rfl, hH, hE, Goes.refl fun l o ho => (hH.ob l o ho).1, Tm.refl _ _⟩)
  | .label l, R, h, st, κ, r, hc, ρ, ok, w, a, hH, hE, hW, Q, hQ, hQp => by
    simp only [evC] at hc
    exact wp_label (hQ _ _ _ _ hc rfl ⟨ρ, ok, [], rfl, hH, hE, Goes.refl fun l o ho => (hH.ob l o ho).1, Tm.refl _ _⟩)
  | .ret, R, h, st, κ, r, hc, ρ, ok, w, a, hH, hE, hW, Q, hQ, hQp => by
    simp only [evC] at hc
    exact wp_ret (hQ _ _ _ _ hc rfl ⟨ρ, ok, [], rfl, hH, hE, Goes.refl fun l o ho => (hH.ob l o ho).1, Tm.refl _ _⟩)
  | .exit id, R, h, st, κ, r, hc, ρ, ok, w, a, hH, hE, hW, Q, hQ, hQp => by
    simp only [evC] at hc
    exact wp_exit (hQ _ _ _ _ hc rfl ⟨ρ, ok, [], rfl, hH, hE, Goes.refl fun l o ho => (hH.ob l o ho).1, Tm.refl _ _⟩)
  | .region id ops false, R, h, st, κ, r, hc, ρ, ok, w, a, hH, hE, hW, Q, hQ, hQp => by
    simp only [evC] at hc
    refine wp_region_list (evOps_ok hcx hinl ops ops.toList st _ _ r hc ρ ok w a hH hE (fun o ho t ht => hW t (List.mem_flatMap.2 ⟨o, ho, ht⟩)) Q (fun st' a' w' h1 h2 => hQ _ _ _ _ h1 rfl h2) hQp)
  | .region id ops true, R, h, st, κ, r, hc, ρ, ok, w, a, hH, hE, hW, Q, hQ, hQp => by
    simp only [evC] at hc
    have hWo : ∀ o ∈ ops.toList, ∀ t ∈ dstOf o, t < a.tmps.size := fun o ho t ht => hW t (List.mem_flatMap.2 ⟨o, ho, ht⟩)
    split at hc
    · have hG : Goes ρ ok w st.hp st.nx [] ρ ok { w with drawn := w.drawn + 1 } st.hp st.nx :=
        ⟨rfl, rfl, ⟨rfl, fun _ => Nat.le_succ _⟩, Nat.le_refl _, Nat.le_refl _, fun _ _ _ => rfl, fun _ _ => rfl, fun _ h => h, fun _ h => .inl h, fun _ _ _ => rfl, fun _ _ o h => ⟨o, h, fun h => h⟩, fun l o b hl ho _ _ => absurd (hH.ob l o ho).1 (by omega)⟩
      have hH1 : RepH ρ ok { w with drawn := w.drawn + 1 } st.hp st.nx :=
        ⟨fun l o ho => ⟨(hH.ob l o ho).1, ObR.move (w := w) (w' := { w with drawn := w.drawn + 1 }) (ok := ok) (ok' := ok) (ρ := ρ) (nx := st.nx) (fun b hb => ⟨hb, rfl⟩) (fun _ _ => rfl) (Nat.le_refl _) rfl (fun _ _ _ => rfl) (hH.ob l o ho).2⟩, hH.okl, hH.sep, hH.dis, hH.gl.move (fun b hb => ⟨hb, rfl⟩)⟩
      have hl : (Array.replicate ops.size false).toList = List.replicate ops.toList.length false := by simp
      refine wp_region_any hdr.1 (evAny_ok hcx hinl ops ops.size _ st (by rw [hl]; simpa using hc) (by rw [hl]; simp [List.countP_replicate]) (by simp) ρ ok _ a hH1 (hE.move hG hH) hWo ?_ ?_)
      rotate_left
      · rintro n st' a' w' h1 ⟨ρ', ok', D, g1, g2, g3, g4, g5⟩
        exact hQp n st' a' w' h1 ⟨ρ', ok', D ++ [], by rw [List.append_nil]; exact g1, g2, g3, hG.trans g4, g5⟩
      rintro st' a' w' h1 ⟨ρ', ok', D, g1, g2, g3, g4, g5⟩
      exact hQ _ _ _ _ h1 rfl ⟨ρ', ok', D ++ [], by rw [List.append_nil]; exact g1, g2, g3, hG.trans g4, g5⟩
    · exact hdr.2 R id ops st _ r hc ρ ok w a hH hE hWo Q fun st' a' w' h1 h2 => hQ _ _ _ _ h1 rfl h2
  | .cond c x y, R, h, st, κ, r, hc, ρ, ok, w, a, hH, hE, hW, Q, hQ, hQp => by
    simp only [evC] at hc
    split at hc <;> try (cases hc; done)
    rename_i v hv
    have he : a.eval c = .bool v := opd1_ok (c := .bool v) hE hv
    refine wp_cond he ?_
    cases v with
    | true => exact evC_ok hcx hinl hdr x R _ st κ r hc ρ ok w a hH hE (fun t ht => hW t (List.mem_append_left _ ht)) Q (fun o e a' w' h1 h2 ⟨ρ', ok', D, g1, g2, g3, g4, g5⟩ => hQ o e a' w' h1 h2 ⟨ρ', ok', D, g1, g2, g3, g4, g5.mono fun t ht => List.mem_append_left _ ht⟩) (hQp.mono fun t ht => List.mem_append_left _ ht)
    | false => exact evC_ok hcx hinl hdr y R _ st κ r hc ρ ok w a hH hE (fun t ht => hW t (List.mem_append_right _ ht)) Q (fun o e a' w' h1 h2 ⟨ρ', ok', D, g1, g2, g3, g4, g5⟩ => hQ o e a' w' h1 h2 ⟨ρ', ok', D, g1, g2, g3, g4, g5.mono fun t ht => List.mem_append_right _ ht⟩) (hQp.mono fun t ht => List.mem_append_right _ ht)
  | .block id c, R, h, st, κ, r, hc, ρ, ok, w, a, hH, hE, hW, Q, hQ, hQp => by
    simp only [evC] at hc
    refine wp_block (evC_ok hcx hinl hdr c R _ st _ r hc ρ ok w a hH hE hW _ ?_ hQp)
    intro o e a' w' h1 h2 h3
    cases o with
    | pan n st' => cases h2
    | normal st' => cases h2; exact hQ _ _ _ _ h1 rfl h3
    | ret st' => cases h2; exact hQ _ _ _ _ h1 rfl h3
    | exit id' st' =>
      cases h2
      simp only at h1
      by_cases hi : id' = id
      · subst hi
        rw [if_pos (Nat.beq_refl id')] at h1
        simp only [Exit.inBlock, if_true]
        exact hQ _ _ _ _ h1 rfl h3
      · rw [if_neg fun e => hi (Nat.eq_of_beq_eq_true e)] at h1
        simp only [Exit.inBlock, hi, if_false]
        exact hQ _ _ _ _ h1 rfl h3
  | .seq x y, R, h, st, κ, r, hc, ρ, ok, w, a, hH, hE, hW, Q, hQ, hQp => by
    have hWx : ∀ t ∈ writes x, t < a.tmps.size := fun t ht => hW t (List.mem_append_left _ ht)
    have hWy : ∀ t ∈ writes y, t < a.tmps.size := fun t ht => hW t (List.mem_append_right _ ht)
    have inx : ∀ t ∈ writes x, t ∈ writes (x.seq y) := fun t ht => List.mem_append_left _ ht
    have iny : ∀ t ∈ writes y, t ∈ writes (x.seq y) := fun t ht => List.mem_append_right _ ht
    simp only [evC] at hc
    split at hc
    · refine wp_seq (evC_ok hcx hinl hdr x R _ st _ r hc ρ ok w a hH hE hWx _ ?_ (hQp.mono inx))
      intro o e a' w' h1 h2 h3
      have h3' : After st ρ ok w a (writes (x.seq y)) o.st a' w' := by
        obtain ⟨ρ', ok', D, g1, g2, g3, g4, g5⟩ := h3
        exact ⟨ρ', ok', D, g1, g2, g3, g4, g5.mono inx⟩
      cases o with
      | pan n st' => cases h2
      | exit id st' => cases h2; exact hQ _ _ _ _ h1 rfl h3'
      | ret st' => cases h2; exact hQ _ _ _ _ h1 rfl h3'
      | normal st' =>
        cases h2
        obtain ⟨ρ', ok', D, g1, g2, g3, g4, g5⟩ := h3
        have g1 : st'.dt = D ++ st.dt := g1
        refine evC_ok hcx hinl hdr y R _ st' κ r h1 ρ' ok' w' a' g2 g3 (fun t ht => by rw [g5.size]; exact hWy t ht) Q ?_ (hQp.next g1 g4 g5 inx iny)
        intro o e a2 w2 k1 k2 ⟨ρ2, ok2, D2, j1, j2, j3, j4, j5⟩
        exact hQ o e a2 w2 k1 k2 ⟨ρ2, ok2, D2 ++ D, by rw [j1, g1, List.append_assoc], j2, j3, g4.trans j4, g5.trans j5 inx iny⟩
    · rename_i sh hj
      split at hc <;> try (cases hc; done)
      rename_i hsh
      obtain ⟨z, hz, hκ⟩ := Option.bind_eq_some_iff.1 hc
      refine wp_seq (evC_ok hcx hinl hdr x (TS sh ⊕ R) _ ⟨st.env, st.hp, st.nx, []⟩ _ z hz ρ ok w a hH hE hWx _ ?_ ?_)
      rotate_left
      · rintro n st1 a' w' h1 ⟨ρ', ok', D, g1, g2, g3, g4, g5⟩
        obtain ⟨r', hr', he⟩ := Option.map_eq_some_iff.1 h1
        subst he
        cases hκ
        refine hQp n _ a' w' hr' ⟨ρ', ok', D, ?_, g2, g3, g4, g5.mono inx⟩
        simp only at g1 ⊢
        rw [g1, List.append_nil]
      intro o e a' w' h1 h2 h3
      have leaves : ∀ st1 : St, After ⟨st.env, st.hp, st.nx, []⟩ ρ ok w a (writes x) st1 a' w' → After st ρ ok w a (writes (x.seq y)) ⟨st1.env, st1.hp, st1.nx, st1.dt ++ st.dt⟩ a' w' := by
        rintro st1 ⟨ρ', ok', D, g1, g2, g3, g4, g5⟩
        refine ⟨ρ', ok', D, ?_, g2, g3, g4, g5.mono inx⟩
        simp only at g1 ⊢
        rw [g1, List.append_nil]
      cases o with
      | pan n st' => cases h2
      | exit id st' =>
        cases h2
        simp only at h1
        obtain ⟨r', hr', he⟩ := Option.map_eq_some_iff.1 h1
        subst he
        cases hκ
        exact hQ _ _ _ _ hr' rfl (leaves st' h3)
      | ret st' =>
        cases h2
        simp only at h1
        obtain ⟨r', hr', he⟩ := Option.map_eq_some_iff.1 h1
        subst he
        cases hκ
        exact hQ _ _ _ _ hr' rfl (leaves st' h3)
      | normal st' =>
        cases h2
        simp only at h1
        split at h1 <;> try (cases h1; done)
        rename_i s hs
        cases h1
        simp only at hκ
        unfold backTo at hs
        split at hs <;> try (cases hs; done)
        rename_i hkept
        split at hs <;> try (cases hs; done)
        rename_i hdt
        obtain ⟨ρ', ok', D, g1, g2, g3, g4, g5⟩ := h3
        have g1 : st'.dt = D ++ [] := g1
        rw [List.append_nil] at g1
        have g4 : Goes ρ ok w st.hp st.nx D ρ' ok' w' st'.hp st'.nx := g4
        have g2 : RepH ρ' ok' w' st'.hp st'.nx := g2
        have g3 : RepE ρ' ok' w' st'.nx st'.env a'.tmps := g3
        have hdt' := dtOk_spec hdt
        rw [g1] at hdt'
        have hf := nameF_back (sh := sh) hH hE hkept
        have hgm : ∀ q o, ups st.hp (goneJ sh st.env st.hp) q = some o → st.hp q = some o ∧ q ∉ names (goneJ sh st.env st.hp) := by
          intro q o h
          rw [ups_at] at h
          cases hl : lastU (goneJ sh st.env st.hp) q with
          | none => rw [hl] at h; exact ⟨h, lastU_none.1 hl⟩
          | some p =>
            rw [hl] at h
            have : p = none := goneJ_ups (lastU_mem hl)
            rw [this] at h; cases h
        have hnot : ∀ q o, ups st.hp (goneJ sh st.env st.hp) q = some o → q ∉ names (leave sh st'.env st'.hp) ∧ q ∉ D := by
          intro q o h
          obtain ⟨k1, k2⟩ := hgm q o h
          have hlt := (hH.ob q o k1).1
          have hnob : q ∉ obN (instN (renOf sh st.env st.hp) st.nx sh.ob) sh.ob := fun hm => by
            obtain ⟨p, hp1, hp2⟩ := obN_mem.1 hm
            rcases instN_name (nx := st.nx) (ren := renOf sh st.env st.hp) sh.ob p.1 with k | ⟨k, _⟩
            · rw [← hp2] at k; omega
            · rw [← hp2] at k; exact k2 (goneJ_mem hp1 k)
          have : q ∉ names (leave sh st'.env st'.hp) ++ D := fun hm => by
            rcases hdt' q hm with k | k | k
            · omega
            · exact hnob k
            · rw [h] at k; cases k
          exact ⟨fun hm => this (List.mem_append_left _ hm), fun hm => this (List.mem_append_right _ hm)⟩
        obtain ⟨ρ2, ok2, t1, t2, t3, t4⟩ := take_ok hsh hH hE (f := instN (renOf sh st.env st.hp) st.nx sh.ob) (H0 := ups st.hp (goneJ sh st.env st.hp)) (gone := names (goneJ sh st.env st.hp))
          (fun q o h => .inl (hgm q o h).1) (fun q hq => by rw [ups_at, lastU_none.2 hq]) g2 g3 g4 g5 hf
          (by
            intro q o h
            obtain ⟨k1, k2⟩ := hgm q o h
            obtain ⟨k3, k4⟩ := hnot q o h
            have k5 : q ∉ names (frzSh sh st'.env st'.hp) := fun hm => k3 ((leave_names sh q).2 (.inl hm))
            refine ⟨?_, ?_, fun hm => k3 ((leave_names sh q).2 (.inr hm))⟩
            · obtain ⟨m1, m2⟩ := hH.ob q o k1
              refine m2.move (ok' := okWith ok' ρ' (names (frzSh sh st'.env st'.hp))) (fun b hb => ⟨.inl (g4.okm b hb), (g4.sameOk hH b hb).2⟩) g4.rho (Nat.le_refl _) (g4.rho q m1) fun hw b hb => ?_
              exact g4.same b (hH.lt k1 hw hb) fun l hl hlt p hp hpw hbl => by
                have := hH.dis q l o p b k1 hp hw hpw hb hbl
                subst this
                exact k4 hl
            · rcases frz_at (frzSh_list sh st'.env st'.hp) q with ⟨m1, _⟩ | ⟨_, m1⟩
              · exact absurd m1 k5
              · rw [m1, g4.hps q (hH.ob q o k1).1 k4]; exact k1)
          (by
            intro d hd hlt hne
            have hd' : d ∈ names (leave sh st'.env st'.hp) ++ D := by
              rcases hd with hd | hd
              · exact List.mem_append_left _ hd
              · exact List.mem_append_right _ hd
            rcases hdt' d hd' with k | k | k
            · omega
            · exact List.mem_append_left _ k
            · by_cases hm : d ∈ names (goneJ sh st.env st.hp)
              · exact List.mem_append_right _ hm
              · rw [ups_at, lastU_none.2 hm] at k; exact absurd k hne) hs
        refine evC_ok hcx hinl hdr y R _ _ κ r hκ ρ2 ok2 w' a' t1 t2 (fun t ht => by rw [g5.size]; exact hWy t ht) Q ?_ (hQp.next (D := obN (instN (renOf sh st.env st.hp) st.nx sh.ob) sh.ob ++ names (goneJ sh st.env st.hp)) (by simp only [List.append_assoc]) t3 g5 inx iny)
        intro o e a2 w2 k1 k2 ⟨ρ3, ok3, D2, j1, j2, j3, j4, j5⟩
        refine hQ o e a2 w2 k1 k2 ⟨ρ3, ok3, D2 ++ (obN (instN (renOf sh st.env st.hp) st.nx sh.ob) sh.ob ++ names (goneJ sh st.env st.hp)), ?_, j2, j3, t3.trans j4, g5.trans j5 inx iny⟩
        rw [j1]
        simp only [List.append_assoc]
  | .loop c, R, h, st, κ, r, hc, ρ, ok, w, a, hH, hE, hW, Q, hQ, hQp => by
    simp only [evC] at hc
    split at hc <;> try (cases hc; done)
    rename_i sh h'
    split at hc <;> try (cases hc; done)
    rename_i hsh
    split at hc <;> try (cases hc; done)
    rename_i s0 hs0
    obtain ⟨n0, hn0⟩ := loopM_some hc
    -- a round's head
    let head : TS sh → St := fun s => ⟨shEnv sh (instN (renOf sh st.env st.hp) st.nx sh.ob) st.env s, shHp sh (instN (renOf sh st.env st.hp) st.nx sh.ob) (ups st.hp (leave sh st.env st.hp)) st.env s, st.nx + sh.nn, []⟩
    let D0 : List Nat := obN (instN (renOf sh st.env st.hp) st.nx sh.ob) sh.ob ++ names (leave sh st.env st.hp)
    let body : TS sh → Option (TS sh ⊕ R) := fun s => evC cx inl (TS sh ⊕ R) c h' (head s) fun o => match o with
        | .normal st' => (match backTo sh (instN (renOf sh st.env st.hp) st.nx sh.ob) st.nx (ups st.hp (leave sh st.env st.hp)) st' with | some x => some (.inl x) | none => none)
        | .exit id st' => (κ (.exit id ⟨st'.env, st'.hp, st'.nx, st'.dt ++ (obN (instN (renOf sh st.env st.hp) st.nx sh.ob) sh.ob ++ (names (leave sh st.env st.hp) ++ st.dt))⟩)).map .inr
        | .ret st' => (κ (.ret ⟨st'.env, st'.hp, st'.nx, st'.dt ++ (obN (instN (renOf sh st.env st.hp) st.nx sh.ob) sh.ob ++ (names (leave sh st.env st.hp) ++ st.dt))⟩)).map .inr
        | .pan n st' => (κ (.pan n ⟨st'.env, st'.hp, st'.nx, st'.dt ++ (obN (instN (renOf sh st.env st.hp) st.nx sh.ob) sh.ob ++ (names (leave sh st.env st.hp) ++ st.dt))⟩)).map .inr
    have hn0 : iterM body n0 s0 = some r := hn0
    let Pn : Nat → Act → World → Prop := fun n a' w' => ∃ s ρ' ok', iterM body n s = some r ∧ RepH ρ' ok' w' (head s).hp (head s).nx ∧ RepE ρ' ok' w' (head s).nx (head s).env a'.tmps ∧ Goes ρ ok w st.hp st.nx D0 ρ' ok' w' (head s).hp (head s).nx ∧ Tm (writes c) a a' ∧ (∀ q o, ups st.hp (leave sh st.env st.hp) q = some o → ObR ρ' ok' w' st.nx q o)
    have hleave : ∀ q o, ups st.hp (leave sh st.env st.hp) q = some o → q ∉ names (goneO (renOf sh st.env st.hp) sh.ob) ∧ (st.hp q = some o ∨ ∃ e t xs, st.hp q = some (.arr e t xs) ∧ o = .frz e t xs) := leave_src sh st.env st.hp
    have hlt : ∀ q o, ups st.hp (leave sh st.env st.hp) q = some o → q < st.nx := fun q o h => by
      rcases (hleave q o h).2 with k | ⟨e, t, xs, k, _⟩
      · exact (hH.ob q o k).1
      · exact (hH.ob q _ k).1
    have hfrz : ∀ q o, ups st.hp (leave sh st.env st.hp) q = some o → ups st.hp (frzSh sh st.env st.hp) q = some o := fun q o h => by
      have e : ups st.hp (leave sh st.env st.hp) = ups (ups st.hp (frzSh sh st.env st.hp)) (goneO (renOf sh st.env st.hp) sh.ob) := by rw [← ups_app]; rfl
      have hl := (hleave q o h).1
      rw [e, ups_at, lastU_none.2 hl] at h
      exact h
    have start : Pn n0 a w := by
      have e1 := eff_frz hH (frzSh_list sh st.env st.hp)
      have hf := instN_f (sh := sh) (st := st) (hp := st.hp) fun l m h => ren_lt hH hE sh h
      obtain ⟨ρ2, ok2, t1, t2, t3, t4⟩ := take_ok hsh hH hE (f := instN (renOf sh st.env st.hp) st.nx sh.ob) (H0 := ups st.hp (leave sh st.env st.hp)) (gone := names (leave sh st.env st.hp))
        (fun q o h => (hleave q o h).2) (fun q hq => by rw [ups_at, lastU_none.2 hq]) hH hE (Goes.refl fun l o ho => (hH.ob l o ho).1) (Tm.refl (writes c) a) hf
        (fun q o h => ⟨(e1.1.ob q o (hfrz q o h)).2.move (Same.refl _ _) (fun _ _ => rfl) (Nat.le_refl _) rfl fun _ _ _ => rfl, hfrz q o h, (hleave q o h).1⟩)
        (fun d hd _ _ => by
          rcases hd with hd | hd
          · exact List.mem_append_right _ hd
          · cases hd) hs0
      exact ⟨s0, ρ2, ok2, hn0, t1, t2, t3, Tm.refl _ _, t4⟩
    refine wp_loop (fun a' w' => ∃ n, Pn n a' w') (fun a' w' => leastN fun n => Pn n a' w') ⟨n0, start⟩ ?_
    intro a1 w1 hI
    obtain ⟨s, ρ1, ok1, i1, i2, i3, i4, i5, i6⟩ := leastN_spec hI
    cases hn : leastN (fun n => Pn n a1 w1) with
    | zero => rw [hn] at i1; cases i1
    | succ n =>
      rw [hn] at i1
      simp only [iterM] at i1
      -- the round gives z
      have hz : ∃ z, body s = some z ∧ match z with | .inl s' => iterM body n s' = some r | .inr r' => r' = r := by
        split at i1 <;> first | (cases i1; done) | skip
        · rename_i s' hs'; exact ⟨_, hs', i1⟩
        · rename_i r' hr'; cases i1; exact ⟨_, hr', rfl⟩
      obtain ⟨z, hz, hz2⟩ := hz
      refine evC_ok hcx hinl hdr c (TS sh ⊕ R) h' (head s) _ z hz ρ1 ok1 w1 a1 i2 i3 (fun t ht => by rw [i5.size]; exact hW t ht) _ ?_ ?_
      rotate_left
      · rintro n' st1 a' w' h1 ⟨ρ', ok', D, g1, g2, g3, g4, g5⟩
        obtain ⟨r', hr', he⟩ := Option.map_eq_some_iff.1 h1
        subst he
        cases hz2
        refine hQp n' _ a' w' hr' ⟨ρ', ok', D ++ D0, ?_, g2, g3, i4.trans g4, i5.trans g5 (fun _ h => h) (fun _ h => h)⟩
        have g1 : st1.dt = D ++ [] := g1
        rw [List.append_nil] at g1
        simp only [g1, D0, List.append_assoc]
      intro o e a' w' h1 h2 h3
      have leaves : ∀ st1 : St, After (head s) ρ1 ok1 w1 a1 (writes c) st1 a' w' → After st ρ ok w a (writes (.loop c)) ⟨st1.env, st1.hp, st1.nx, st1.dt ++ (obN (instN (renOf sh st.env st.hp) st.nx sh.ob) sh.ob ++ (names (leave sh st.env st.hp) ++ st.dt))⟩ a' w' := by
        rintro st1 ⟨ρ', ok', D, g1, g2, g3, g4, g5⟩
        refine ⟨ρ', ok', D ++ D0, ?_, g2, g3, i4.trans g4, i5.trans g5 (fun _ h => h) (fun _ h => h)⟩
        have g1 : st1.dt = D ++ [] := g1
        rw [List.append_nil] at g1
        simp only [g1, D0, List.append_assoc]
      cases o with
      | pan n st' => cases h2
      | exit id st' =>
        cases h2
        simp only at h1
        obtain ⟨r', hr', he⟩ := Option.map_eq_some_iff.1 h1
        subst he
        cases hz2
        exact hQ _ _ _ _ hr' rfl (leaves st' h3)
      | ret st' =>
        cases h2
        simp only at h1
        obtain ⟨r', hr', he⟩ := Option.map_eq_some_iff.1 h1
        subst he
        cases hz2
        exact hQ _ _ _ _ hr' rfl (leaves st' h3)
      | normal st' =>
        cases h2
        simp only at h1
        split at h1 <;> try (cases h1; done)
        rename_i s' hs'
        cases h1
        simp only at hz2
        unfold backTo at hs'
        split at hs' <;> try (cases hs'; done)
        rename_i hkept
        split at hs' <;> try (cases hs'; done)
        rename_i hdt
        obtain ⟨ρ', ok', D, g1, g2, g3, g4, g5⟩ := h3
        have g1 : st'.dt = D ++ [] := g1
        rw [List.append_nil] at g1
        have g2 : RepH ρ' ok' w' st'.hp st'.nx := g2
        have g3 : RepE ρ' ok' w' st'.nx st'.env a'.tmps := g3
        have g4 : Goes ρ1 ok1 w1 (head s).hp (head s).nx D ρ' ok' w' st'.hp st'.nx := g4
        have hdt' := dtOk_spec hdt
        rw [g1] at hdt'
        have hf := nameF_back (sh := sh) hH hE hkept
        have G := i4.trans g4
        have T := i5.trans g5 (U := writes c) (fun _ h => h) (fun _ h => h)
        have hnob : ∀ q o, ups st.hp (leave sh st.env st.hp) q = some o → ∀ p ∈ sh.ob, q ≠ instN (renOf sh st.env st.hp) st.nx sh.ob p.1 := by
          intro q o h p hp e
          rcases instN_name (nx := st.nx) (ren := renOf sh st.env st.hp) sh.ob p.1 with k | ⟨k, _⟩
          · have := hlt q o h; omega
          · rw [← e] at k; exact (hleave q o h).1 (goneO_mem hp k)
        have hnot : ∀ q o, ups st.hp (leave sh st.env st.hp) q = some o → q ∉ names (leave sh st'.env st'.hp) ∧ q ∉ D := by
          intro q o h
          have : q ∉ names (leave sh st'.env st'.hp) ++ D := fun hm => by
            rcases hdt' q hm with k | k | k
            · have := hlt q o h; omega
            · obtain ⟨p, hp1, hp2⟩ := obN_mem.1 k
              exact hnob q o h p hp1 hp2
            · rw [h] at k; cases k
          exact ⟨fun hm => this (List.mem_append_left _ hm), fun hm => this (List.mem_append_right _ hm)⟩
        have hhead : ∀ q o, ups st.hp (leave sh st.env st.hp) q = some o → (head s).hp q = some o := fun q o h => by
          show ofO _ _ sh.ob _ q = some o
          rw [ofO_other _ _ _ _ _ (hnob q o h)]; exact h
        obtain ⟨ρ2, ok2, t1, t2, t3, t4⟩ := take_ok hsh hH hE (f := instN (renOf sh st.env st.hp) st.nx sh.ob) (H0 := ups st.hp (leave sh st.env st.hp)) (gone := names (leave sh st.env st.hp))
          (fun q o h => (hleave q o h).2) (fun q hq => by rw [ups_at, lastU_none.2 hq]) g2 g3 G T hf
          (by
            intro q o h
            obtain ⟨k3, k4⟩ := hnot q o h
            have k1 := hhead q o h
            have k5 : q ∉ names (frzSh sh st'.env st'.hp) := fun hm => k3 ((leave_names sh q).2 (.inl hm))
            refine ⟨?_, ?_, fun hm => k3 ((leave_names sh q).2 (.inr hm))⟩
            · have hqn := hlt q o h
              refine (i6 q o h).move (ok' := okWith ok' ρ' (names (frzSh sh st'.env st'.hp))) (fun b hb => ⟨.inl (g4.okm b hb), (g4.sameOk i2 b hb).2⟩)
                (fun l hl => g4.rho l (by show l < st.nx + sh.nn; omega)) (Nat.le_refl _) (g4.rho q (by show q < st.nx + sh.nn; omega)) fun hw b hb => ?_
              exact g4.same b (i2.lt k1 hw hb) fun l hl hlt p hp hpw hbl => by
                have := i2.dis q l o p b k1 hp hw hpw hb hbl
                subst this
                exact k4 hl
            · rcases frz_at (frzSh_list sh st'.env st'.hp) q with ⟨m1, _⟩ | ⟨_, m1⟩
              · exact absurd m1 k5
              · rw [m1, g4.hps q (i2.ob q o k1).1 k4]; exact k1)
          (by
            intro d hd hlt' hne
            rcases hd with hd | hd
            · rcases hdt' d (List.mem_append_left _ hd) with k | k | k
              · omega
              · exact List.mem_append_left _ k
              · refine List.mem_append_right _ ?_
                by_cases hm : d ∈ names (leave sh st.env st.hp)
                · exact hm
                · rw [ups_at, lastU_none.2 hm] at k; exact absurd k hne
            · rcases List.mem_append.1 hd with hd | hd
              · rcases hdt' d (List.mem_append_right _ hd) with k | k | k
                · omega
                · exact List.mem_append_left _ k
                · refine List.mem_append_right _ ?_
                  by_cases hm : d ∈ names (leave sh st.env st.hp)
                  · exact hm
                  · rw [ups_at, lastU_none.2 hm] at k; exact absurd k hne
              · exact hd) hs'
        have hP : Pn n a' w' := ⟨s', ρ2, ok2, hz2, t1, t2, t3, T, t4⟩
        refine ⟨⟨n, hP⟩, ?_⟩
        exact Nat.lt_succ_of_le (leastN_le hP)
  | .rangeFunc _ _ _ _, R, h, st, κ, r, hc, ρ, ok, w, a, hH, hE, hW, Q, hQ, hQp => by simp only [evC] at hc; cases hc
  | .scope _, R, h, st, κ, r, hc, ρ, ok, w, a, hH, hE, hW, Q, hQ, hQp => by simp only [evC] at hc; cases hc
  | .goto _, R, h, st, κ, r, hc, ρ, ok, w, a, hH, hE, hW, Q, hQ, hQp => by simp only [evC] at hc; cases hc
  | .refuse _, R, h, st, κ, r, hc, ρ, ok, w, a, hH, hE, hW, Q, hQ, hQp => by simp only [evC] at hc; cases hc
end
end Lv
