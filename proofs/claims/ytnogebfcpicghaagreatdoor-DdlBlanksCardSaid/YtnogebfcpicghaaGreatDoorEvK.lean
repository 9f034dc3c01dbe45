import Derived.Test.YtnogebfcpicghaaGreatDoorEvJ
set_option linter.all false
set_option linter.unusedVariables false
set_option linter.unusedSimpArgs false
set_option linter.unusedSectionVars false
namespace Lv
variable [HasG]
open Go Go.RowKit

theorem apartN_iff : ∀ {a b : List Nat}, apartN a b = true ↔ ∀ x ∈ a, x ∉ b
  | [], b => by simp [apartN]
  | x :: r, b => by
    simp only [apartN, Bool.and_eq_true, Bool.not_eq_true', List.mem_cons, forall_eq_or_imp, apartN_iff (a := r)]
    refine and_congr ?_ Iff.rfl
    rw [← memN_iff]
    simp

theorem notIn_spec {ren : Ren} {m : Nat} : ∀ {l : List (Nat × Bool × OSh)}, notIn ren m l = true → ∀ p ∈ l, ren p.1 ≠ some m
  | [], _, p, hp => by cases hp
  | (k, r) :: l, h, p, hp => by
    simp only [notIn, Bool.and_eq_true] at h
    rcases List.mem_cons.1 hp with rfl | hp
    · intro e
      rw [e] at h
      simp [Nat.beq_refl] at h
    · exact notIn_spec h.2 p hp
theorem injO_spec {ren : Ren} : ∀ {l : List (Nat × Bool × OSh)}, injO ren l = true → ∀ p ∈ l, ∀ q ∈ l, ∀ m, ren p.1 = some m → ren q.1 = some m → p.1 = q.1
  | [], _, p, hp, _, _, _, _, _ => by cases hp
  | (k, r) :: l, h, p, hp, q, hq, m, e1, e2 => by
    simp only [injO, Bool.and_eq_true] at h
    rcases List.mem_cons.1 hp with rfl | hp
    · rcases List.mem_cons.1 hq with rfl | hq
      · rfl
      · rw [e1] at h
        exact absurd e2 (notIn_spec h.1 q hq)
    · rcases List.mem_cons.1 hq with rfl | hq
      · rw [e2] at h
        exact absurd e1 (notIn_spec h.1 p hp)
      · exact injO_spec h.2 p hp q hq m e1 e2
theorem goneO_mem {ren : Ren} : ∀ {l : List (Nat × Bool × OSh)} {p : Nat × Bool × OSh} {m : Nat}, p ∈ l → ren p.1 = some m → m ∈ names (goneO ren l)
  | (k, r) :: l, p, m, hp, e => by
    simp only [goneO, names, List.map_append, List.mem_append]
    rcases List.mem_cons.1 hp with rfl | hp
    · left; simp only at e; rw [e]; simp
    · exact .inr (goneO_mem hp e)
theorem goneO_some {ren : Ren} : ∀ {l : List (Nat × Bool × OSh)} {m : Nat}, m ∈ names (goneO ren l) → ∃ p ∈ l, ren p.1 = some m
  | [], m, h => by cases h
  | (k, r) :: l, m, h => by
    simp only [goneO, names, List.map_append, List.mem_append] at h
    rcases h with h | h
    · cases hk : ren k with
      | none => rw [hk] at h; cases h
      | some a =>
        rw [hk] at h
        simp at h
        exact ⟨_, List.mem_cons_self, by simp only [hk, h]⟩
    · obtain ⟨p, h1, h2⟩ := goneO_some h
      exact ⟨p, List.mem_cons_of_mem _ h1, h2⟩
theorem goneO_ups {ren : Ren} : ∀ {l : List (Nat × Bool × OSh)} {p : Nat × Option Ob}, p ∈ goneO ren l → p.2 = none
  | (k, r) :: l, p, h => by
    simp only [goneO, List.mem_append] at h
    rcases h with h | h
    · split at h
      · cases List.mem_singleton.1 h; rfl
      · cases h
    · exact goneO_ups h

theorem frzC_list (hp : Heap) : ∀ (cs : List CSh) (ds : List Cell), FrzList hp (frzC hp cs ds)
  | [], ds => by cases ds <;> exact fun p hp => by cases hp
  | c :: r, [] => by cases c <;> exact fun p hp => by cases hp
  | c :: r, d :: ds => by
    have ih := frzC_list hp r ds
    cases c <;> first | exact ih | exact (frzs_list hp [d]).app ih
theorem frzCs_list (hp : Heap) : ∀ (cs : List (Bool × List CSh)) (ds : List (Bool × List Cell)), FrzList hp (frzCs hp cs ds)
  | [], _ => fun p hp => by cases hp
  | _ :: _, [] => fun p hp => by cases hp
  | (_, cs) :: r, (_, ds) :: s => (frzC_list hp cs ds).app (frzCs_list hp r s)
theorem FrzList.nil (hp : Heap) : FrzList hp [] := fun p hp => by cases hp
theorem frzSl_list (env : Env) (hp : Heap) : ∀ l, FrzList hp (frzSl env hp l)
  | [] => FrzList.nil hp
  | (t, .v _ cs) :: r => by
    refine FrzList.app ?_ (frzSl_list env hp r)
    split
    · exact frzC_list hp _ _
    · exact FrzList.nil hp
  | (t, .tup l) :: r => by
    refine FrzList.app ?_ (frzSl_list env hp r)
    split
    · exact frzCs_list hp _ _
    · exact FrzList.nil hp
theorem frzO_list (hp : Heap) (ren : Ren) : ∀ l, FrzList hp (frzO hp ren l)
  | [] => FrzList.nil hp
  | (l, _, .box _ cs) :: r => by
    refine FrzList.app ?_ (frzO_list hp ren r)
    split
    · split
      · exact frzC_list hp _ _
      · exact FrzList.nil hp
    · exact FrzList.nil hp
  | (l, _, .arr _ _) :: r => frzO_list hp ren r
  | (l, _, .mp _ _) :: r => frzO_list hp ren r
theorem frzSh_list (sh : Sh) (env : Env) (hp : Heap) : FrzList hp (frzSh sh env hp) := (frzSl_list env hp _).app (frzO_list hp _ _)

section
variable {ρ : Nat → Value} {ok : Nat → Prop} {w : World} {hp : Heap} {nx : Nat} {env : Env} {tmps : Array Value}

theorem leave_names (sh : Sh) (q : Nat) : q ∈ names (leave sh env hp) ↔ q ∈ names (frzSh sh env hp) ∨ q ∈ names (goneO (renOf sh env hp) sh.ob) := by
  simp only [leave, frzSh, names, List.map_append, List.mem_append]

theorem retake (hH : RepH ρ ok w hp nx) (hE : RepE ρ ok w nx env tmps) {sh : Sh} (hbel : shBelow sh = true) {x : TS sh} (hx : toSt sh env hp = some x) {f : Nat → Nat} {nx0 : Nat} (hf : NameF f nx0 sh.nn (renOf sh env hp))
    {H0 : Heap} (hB' : ∀ q o, H0 q = some o → q < nx0 ∧ ObR ρ (okWith ok ρ (names (frzSh sh env hp))) w nx0 q o ∧ ups hp (frzSh sh env hp) q = some o ∧ q ∉ names (goneO (renOf sh env hp) sh.ob)) {E0 : Env} (hE0 : RepE ρ ok w nx0 E0 tmps) :
    RepH (reρ ρ nx0 (renOf sh env hp)) (okWith ok ρ (names (frzSh sh env hp))) w (ofO f H0 sh.ob (ofSl f E0 sh.sl x).2) (nx0 + sh.nn) ∧
    RepE (reρ ρ nx0 (renOf sh env hp)) (okWith ok ρ (names (frzSh sh env hp))) w (nx0 + sh.nn) (ofSl f E0 sh.sl x).1 tmps ∧
    (∀ q o, ofO f H0 sh.ob (ofSl f E0 sh.sl x).2 q = some o → (∃ p ∈ sh.ob, q = f p.1 ∧ p.1 < sh.nn ∧ Took ρ hp (renOf sh env hp) p.1 o) ∨ (H0 q = some o ∧ ∀ p ∈ sh.ob, q ≠ f p.1)) := by
  unfold toSt at hx
  split at hx <;> try (cases hx; done)
  rename_i hinj
  obtain ⟨hinj, hap⟩ := Bool.and_eq_true_iff.1 hinj
  have hap := apartN_iff.1 hap
  obtain ⟨hb1, hb2⟩ := Bool.and_eq_true_iff.1 hbel
  have hF := frzSh_list sh env hp
  have e1 := eff_frz hH hF
  have hB : ∀ q o, H0 q = some o → o.own = true → q < nx0 ∧ hp q = some o ∧ q ∉ names (leave sh env hp) := by
    intro q o h hw
    obtain ⟨g1, g2, g3, g4⟩ := hB' q o h
    rcases frz_at hF q with ⟨_, e, t, xs, _, k1⟩ | ⟨k1, k2⟩
    · rw [k1] at g3; cases g3; cases hw
    · exact ⟨g1, k2 ▸ g3, fun hl => ((leave_names sh q).1 hl).elim k1 g4⟩
  have hm : ∀ b, ok b → okWith ok ρ (names (frzSh sh env hp)) b := fun b hb => .inl hb
  have hS : Same ok (okWith ok ρ (names (frzSh sh env hp))) w w := fun b hb => ⟨.inl hb, rfl⟩
  have hzn : ∀ p ∈ frzSh sh env hp, ∀ b, blk (ρ p.1) = some b → okWith ok ρ (names (frzSh sh env hp)) b := fun p hp b hb => .inr ⟨p.1, List.mem_map.2 ⟨p, hp, rfl⟩, hb⟩
  have hρ : ∀ l, l < nx0 → reρ ρ nx0 (renOf sh env hp) l = ρ l := fun l hl => by simp [reρ, hl]
  have hE0' : RepE (reρ ρ nx0 (renOf sh env hp)) (okWith ok ρ (names (frzSh sh env hp))) w (nx0 + sh.nn) E0 tmps := fun t s hs =>
    let ⟨v, h1, h2⟩ := hE0 t s hs
    ⟨v, h1, h2.move hS hρ (by omega)⟩
  obtain ⟨h1, h2⟩ := toSl_ok hH hE hm hf hE0' sh.sl _ x hb1 (fun p hp => hzn p (List.mem_append_left _ hp)) hx
  have hO := toO_ok (H0 := H0) hH hm hf sh.ob _ hb2 (fun p hp => hzn p (List.mem_append_right _ hp)) h1
  -- an own object of what is taken: where it was
  have src : ∀ q o b, ofO f H0 sh.ob (ofSl f E0 sh.sl x).2 q = some o → o.own = true → blk (reρ ρ nx0 (renOf sh env hp) q) = some b →
      (∃ p ∈ sh.ob, q = f p.1 ∧ ∃ m r, renOf sh env hp p.1 = some m ∧ hp m = some r ∧ r.own = true ∧ blk (ρ m) = some b) ∨ (H0 q = some o ∧ hp q = some o ∧ blk (ρ q) = some b ∧ q ∉ names (leave sh env hp)) := by
    intro q o b hq hw hb
    rcases hO q o hq with ⟨p, hp1, hp2, hp3, hp4, hp5⟩ | ⟨hp1, hp2⟩
    · left
      refine ⟨p, hp1, hp2, ?_⟩
      rw [hp2, hf.at hp3] at hb
      rcases hp5.src with ⟨m, r, g1, g2, g3⟩ | g1
      · rw [g1] at hb; exact ⟨m, r, g1, g2, g3, hb⟩
      · rw [g1] at hb; cases hb
    · right
      obtain ⟨g1, g3, g4⟩ := hB q o hp1 hw
      rw [hρ q g1] at hb
      exact ⟨hp1, g3, hb, g4⟩
  refine ⟨⟨?_, e1.1.okl, ?_, ?_, e1.1.gl⟩, h2, fun q o hq => (hO q o hq).imp (fun ⟨p, a, b, c, _, d⟩ => ⟨p, a, b, c, d⟩) id⟩
  · intro q o hq
    rcases hO q o hq with ⟨p, hp1, hp2, hp3, hp4, hp5⟩ | ⟨hp1, hp2⟩
    · exact ⟨by rw [hp2]; exact hf.lt hp3, hp4⟩
    · obtain ⟨g1, g2, g3, g4⟩ := hB' q o hp1
      exact ⟨by omega, g2.move (Same.refl _ _) hρ (by omega) (hρ q g1) fun _ _ _ => rfl⟩
  · intro q o b hq hw hb hok
    rcases src q o b hq hw hb with ⟨p, hp1, hp2, m, r, g1, g2, g3, g4⟩ | ⟨g0, g1, g2, g3⟩
    · rcases hok with hok | ⟨l', hl', hbl⟩
      · exact hH.sep m r b g2 g3 g4 hok
      · rcases frz_at hF l' with ⟨_, e, t, xs, k1, _⟩ | ⟨k1, _⟩
        · have := hH.dis m l' r _ b g2 k1 g3 rfl g4 hbl
          subst this
          exact hap m hl' (goneO_mem hp1 g1)
        · exact k1 hl'
    · rcases hok with hok | ⟨l', hl', hbl⟩
      · exact hH.sep q o b g1 hw g2 hok
      · rcases frz_at hF l' with ⟨_, e, t, xs, k1, _⟩ | ⟨k1, _⟩
        · have := hH.dis q l' o _ b g1 k1 hw rfl g2 hbl
          subst this
          exact g3 ((leave_names sh _).2 (.inl hl'))
        · exact k1 hl'
  · intro q q' o o' b hq hq' hw hw' hb hb'
    rcases src q o b hq hw hb with ⟨p, hp1, hp2, m, r, g1, g2, g3, g4⟩ | ⟨g0, g1, g2, g3⟩
    · rcases src q' o' b hq' hw' hb' with ⟨p', hp1', hp2', m', r', g1', g2', g3', g4'⟩ | ⟨g0', g1', g2', g3'⟩
      · have := hH.dis m m' r r' b g2 g2' g3 g3' g4 g4'
        subst this
        rw [hp2, hp2', injO_spec hinj p hp1 p' hp1' m g1 g1']
      · have := hH.dis m q' r o' b g2 g1' g3 hw' g4 g2'
        subst this
        exact absurd ((leave_names sh _).2 (.inr (goneO_mem hp1 g1))) g3'
    · rcases src q' o' b hq' hw' hb' with ⟨p', hp1', hp2', m', r', g1', g2', g3', g4'⟩ | ⟨g0', g1', g2', g3'⟩
      · have := hH.dis q m' o r' b g1 g2' hw g3' g2 g4'
        subst this
        exact absurd ((leave_names sh _).2 (.inr (goneO_mem hp1' g1'))) g3
      · exact hH.dis q q' o o' b g1 g1' hw hw' g2 g2'

/-- how that goes on, seen from the fragment's begin -/
theorem retake_goes {ρ0 : Nat → Value} {ok0 : Nat → Prop} {w0 : World} {hp0 : Heap} {nx0 : Nat} {D : List Nat} (G : Goes ρ0 ok0 w0 hp0 nx0 D ρ ok w hp nx) (hH : RepH ρ ok w hp nx) {sh : Sh}
    {f : Nat → Nat} (hf : NameF f nx0 sh.nn (renOf sh env hp)) {H0 : Heap} {D0 : List Nat} {hp2 : Heap}
    (hO : ∀ q o, hp2 q = some o → (∃ p ∈ sh.ob, q = f p.1 ∧ p.1 < sh.nn ∧ Took ρ hp (renOf sh env hp) p.1 o) ∨ (H0 q = some o ∧ ∀ p ∈ sh.ob, q ≠ f p.1))
    (hO' : ∀ q, (∀ p ∈ sh.ob, q ≠ f p.1) → hp2 q = H0 q)
    (hB1 : ∀ q o, H0 q = some o → q < nx0 ∧ ∃ p, hp q = some p ∧ (o.own = true → p.own = true)) (hB2 : ∀ q, q < nx0 → q ∉ D0 → H0 q = hp0 q)
    (hob : ∀ p ∈ sh.ob, f p.1 ∈ D0) (hC : ∀ d, d ∈ names (leave sh env hp) ∨ d ∈ D → d < nx0 → hp0 d ≠ none → d ∈ D0) :
    Goes ρ0 ok0 w0 hp0 nx0 D0 (reρ ρ nx0 (renOf sh env hp)) (okWith ok ρ (names (frzSh sh env hp))) w hp2 (nx0 + sh.nn) := by
  have hρ : ∀ l, l < nx0 → reρ ρ nx0 (renOf sh env hp) l = ρ l := fun l hl => by simp [reρ, hl]
  have hF := frzSh_list sh env hp
  -- an own object now, with a block
  have was : ∀ l o b, hp l = some o → o.own = true → blk (ρ l) = some b → l ∈ names (leave sh env hp) → w0.heap.size ≤ b ∨ ∃ m ∈ D0, m < nx0 ∧ ∃ p, hp0 m = some p ∧ p.own = true ∧ blk (ρ0 m) = some b := by
    intro l o b ho hw hb hl
    by_cases h : l < nx0
    · obtain ⟨p, h1, h2⟩ := G.stay l h o ho
      exact .inr ⟨l, hC l (.inl hl) h (by rw [h1]; simp), h, p, h1, h2 hw, by rw [← G.rho l h]; exact hb⟩
    · rcases G.nb l o b (by omega) ho hw hb with h1 | ⟨m, hm, h1, p, h2, h3, h4⟩
      · exact .inl h1
      · exact .inr ⟨m, hC m (.inr hm) h1 (by rw [h2]; simp), h1, p, h2, h3, h4⟩
  refine ⟨G.os, G.tape, G.output, G.size, by omega, ?_, fun l hl => (hρ l hl).trans (G.rho l hl), fun b hb => .inl (G.okm b hb), ?_, ?_, ?_, ?_⟩
  · intro b hb hne
    exact G.same b hb fun l hl hlt o ho hw => hne l (hC l (.inr hl) hlt (by rw [ho]; simp)) hlt o ho hw
  · rintro b (hb | ⟨l, hl, hb⟩)
    · rcases G.okn b hb with h | h | ⟨l, hl, hlt, o, ho, hr⟩
      · exact .inl h
      · exact .inr (.inl h)
      · exact .inr (.inr ⟨l, hC l (.inr hl) hlt (by rw [ho]; simp), hlt, o, ho, hr⟩)
    · rcases frz_at hF l with ⟨_, e, t, xs, k1, _⟩ | ⟨k1, _⟩
      · rcases was l _ b k1 rfl hb ((leave_names sh _).2 (.inl hl)) with h | h
        · exact .inr (.inl h)
        · exact .inr (.inr h)
      · exact absurd hl k1
  · intro l hl hn
    rw [hO' l fun p hp e => hn (e ▸ hob p hp)]
    exact hB2 l hl hn
  · intro l hl o ho
    rcases hO l o ho with ⟨p, hp1, hp2, hp3, hp4⟩ | ⟨hp1, hp2⟩
    · rcases hf p.1 hp3 with e | ⟨e1, e2⟩
      · omega
      · rcases hp4.src with ⟨m, r, g1, g2, g3⟩ | g1
        · rw [e1] at g1
          cases g1
          rw [← hp2] at g2
          obtain ⟨q, k1, k2⟩ := G.stay l hl r g2
          exact ⟨q, k1, fun _ => k2 g3⟩
        · rw [e1] at g1; cases g1
    · obtain ⟨p, g1, g2⟩ := (hB1 l o hp1).2
      obtain ⟨q, g3, g4⟩ := G.stay l hl p g1
      exact ⟨q, g3, fun h => g4 (g2 h)⟩
  · intro l o b hl ho hw hb
    rcases hO l o ho with ⟨p, hp1, hp2, hp3, hp4⟩ | ⟨hp1, hp2⟩
    · rw [hp2, hf.at hp3] at hb
      rcases hp4.src with ⟨m, r, g1, g2, g3⟩ | g1
      · rw [g1] at hb
        exact was m r b g2 g3 hb ((leave_names sh _).2 (.inr (goneO_mem hp1 g1)))
      · rw [g1] at hb; cases hb
    · exact absurd (hB1 l o hp1).1 (by omega)

theorem ofO_other (f : Nat → Nat) (H0 : Heap) : ∀ (l : List (Nat × Bool × OSh)) (y : TO l) (q : Nat), (∀ p ∈ l, q ≠ f p.1) → ofO f H0 l y q = H0 q
  | [], y, q, _ => rfl
  | (l, k, .box e cs) :: r, y, q, h => by
    simp only [ofO]
    rw [put_ne _ _ (h _ List.mem_cons_self)]
    exact ofO_other f H0 r _ q fun p hp => h p (List.mem_cons_of_mem _ hp)
  | (l, k, .arr e t) :: r, y, q, h => by
    simp only [ofO]
    rw [put_ne _ _ (h _ List.mem_cons_self)]
    exact ofO_other f H0 r _ q fun p hp => h p (List.mem_cons_of_mem _ hp)
  | (l, k, .mp e t) :: r, y, q, h => by
    simp only [ofO]
    rw [put_ne _ _ (h _ List.mem_cons_self)]
    exact ofO_other f H0 r _ q fun p hp => h p (List.mem_cons_of_mem _ hp)
end
end Lv
