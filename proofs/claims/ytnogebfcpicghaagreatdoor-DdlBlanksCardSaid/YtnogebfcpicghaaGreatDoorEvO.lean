import Derived.Test.YtnogebfcpicghaaGreatDoorEvN
set_option linter.all false
set_option linter.unusedVariables false
set_option linter.unusedSimpArgs false
set_option linter.unusedSectionVars false
namespace Lv
variable [HasG]
open Go Go.RowKit

/-! ## Names that are mentioned -/
theorem cellNames_cons (c : Cell) (r : List Cell) : cellNames (c :: r) = cellNames [c] ++ cellNames r := by cases c <;> rfl

section
variable {ρ ρ' : Nat → Value} {ok ok' : Nat → Prop} {w w' : World} {nx nx' : Nat}

theorem CellR.names : ∀ {c : Cell} {v : Value}, CellR ρ ok w nx c v → ∀ l ∈ cellNames [c], l < nx
  | .int _ _, _, _, l, hl => by cases hl
  | .bool _, _, _, l, hl => by cases hl
  | .str _, _, _, l, hl => by cases hl
  | .val _, _, _, l, hl => by cases hl
  | .sl _ _ _, _, _, l, hl => by cases hl
  | .rdp _ _ _, _, _, l, hl => by cases hl
  | .ref _, _, h, l, hl => by cases List.mem_singleton.1 hl; exact h.1
  | .sub _ _ _ _, _, h, l, hl => by cases List.mem_singleton.1 hl; exact h.1
  | .ptr _ _, _, h, l, hl => by cases List.mem_singleton.1 hl; exact h.1
  | .ifc _, _, _, l, hl => by cases hl
  | .np _, _, h, l, hl => by cases List.mem_singleton.1 hl; exact h.1
  | .elp _ _ _ _, _, h, l, hl => by cases List.mem_singleton.1 hl; exact h.1
theorem CellR.moveM (hs : Same ok ok' w w') : ∀ {c : Cell} {v : Value}, (∀ l ∈ cellNames [c], ρ' l = ρ l ∧ l < nx') → CellR ρ ok w nx c v → CellR ρ' ok' w' nx' c v
  | .int _ _, _, _, h => h
  | .bool _, _, _, h => h
  | .str _, _, _, h => h
  | .val _, _, _, h => h
  | .sl _ _ _, v, _, h => K_move hs h
  | .ref l, _, hr, ⟨_, e, o⟩ => ⟨(hr l (by simp [cellNames])).2, e.trans (hr l (by simp [cellNames])).1.symm, o⟩
  | .sub l _ _ _, _, hr, ⟨_, A, cap, e, hl, hx⟩ => ⟨(hr l (by simp [cellNames])).2, A, cap, e, hl, hx.imp id fun ⟨b, L, C, h1, h2⟩ => ⟨b, L, C, (hr l (by simp [cellNames])).1.trans h1, h2⟩⟩
  | .ptr l _, _, hr, ⟨_, b, e, hv⟩ => ⟨(hr l (by simp [cellNames])).2, b, (hr l (by simp [cellNames])).1.trans e, hv⟩
  | .ifc _, _, _, h => h
  | .np l, _, hr, ⟨_, g⟩ => ⟨(hr l (by simp [cellNames])).2, g.imp (fun h => h) fun ⟨b, e, hv⟩ => ⟨b, (hr l (by simp [cellNames])).1.trans e, hv⟩⟩
  | .elp l _ _ _, _, hr, ⟨_, b, L, C, e, hv⟩ => ⟨(hr l (by simp [cellNames])).2, b, L, C, (hr l (by simp [cellNames])).1.trans e, hv⟩
  | .rdp _ _ _, _, _, ⟨b, o, vs, e, hb, hk, hc⟩ => ⟨b, o, vs, e, (hs b hb).1, K_move hs hk, fun j u hj => (hs.cell hb).trans (hc j u hj)⟩
theorem cells_names : ∀ {cs : List Cell} {vs : List Value}, All2 (CellR ρ ok w nx) cs vs → ∀ l ∈ cellNames cs, l < nx
  | _, _, .nil, l, hl => by cases hl
  | c :: r, _, .cons h t, l, hl => by
    rw [cellNames_cons] at hl
    rcases List.mem_append.1 hl with hl | hl
    · exact h.names l hl
    · exact cells_names t l hl
theorem cells_moveM (hs : Same ok ok' w w') : ∀ {cs : List Cell} {vs : List Value}, (∀ l ∈ cellNames cs, ρ' l = ρ l ∧ l < nx') → All2 (CellR ρ ok w nx) cs vs → All2 (CellR ρ' ok' w' nx') cs vs
  | _, _, _, .nil => .nil
  | c :: r, _, hr, .cons h t => by
    rw [cellNames_cons] at hr
    exact .cons (h.moveM hs fun l hl => hr l (List.mem_append_left _ hl)) (cells_moveM hs (fun l hl => hr l (List.mem_append_right _ hl)) t)
theorem VR.names {g : Bool} {cs : List Cell} {v : Value} (h : VR ρ ok w nx g cs v) : ∀ l ∈ cellNames cs, l < nx := by
  cases g with
  | true => obtain ⟨vs, _, h⟩ := h; exact cells_names h
  | false => obtain ⟨c, e, h⟩ := h; subst e; exact h.names
theorem VR.moveM (hs : Same ok ok' w w') {g : Bool} {cs : List Cell} {v : Value} (hr : ∀ l ∈ cellNames cs, ρ' l = ρ l ∧ l < nx') (h : VR ρ ok w nx g cs v) : VR ρ' ok' w' nx' g cs v := by
  cases g with
  | true => obtain ⟨vs, e, h⟩ := h; exact ⟨vs, e, cells_moveM hs hr h⟩
  | false => obtain ⟨c, e, h⟩ := h; subst e; exact ⟨c, rfl, h.moveM hs hr⟩
theorem tup_names : ∀ {cs : List (Bool × List Cell)} {vs : List Value}, All2 (fun (p : Bool × List Cell) u => VR ρ ok w nx p.1 p.2 u) cs vs → ∀ l ∈ tupNames cs, l < nx
  | _, _, .nil, l, hl => by cases hl
  | (g, c) :: r, _, .cons h t, l, hl => by
    rcases List.mem_append.1 hl with hl | hl
    · exact VR.names h l hl
    · exact tup_names t l hl
theorem tup_moveM (hs : Same ok ok' w w') : ∀ {cs : List (Bool × List Cell)} {vs : List Value}, (∀ l ∈ tupNames cs, ρ' l = ρ l ∧ l < nx') → All2 (fun (p : Bool × List Cell) u => VR ρ ok w nx p.1 p.2 u) cs vs →
    All2 (fun (p : Bool × List Cell) u => VR ρ' ok' w' nx' p.1 p.2 u) cs vs
  | _, _, _, .nil => .nil
  | (g, c) :: r, _, hr, .cons h t =>
    .cons (VR.moveM hs (fun l hl => hr l (List.mem_append_left _ hl)) h) (tup_moveM hs (fun l hl => hr l (List.mem_append_right _ hl)) t)
theorem SlotR.names : ∀ {s : Slot} {v : Value}, SlotR ρ ok w nx s v → ∀ l ∈ slotNames (some s), l < nx
  | .v _ _, _, h => VR.names h
  | .tup _, _, ⟨vs, _, h⟩ => tup_names h
theorem SlotR.moveM (hs : Same ok ok' w w') : ∀ {s : Slot} {v : Value}, (∀ l ∈ slotNames (some s), ρ' l = ρ l ∧ l < nx') → SlotR ρ ok w nx s v → SlotR ρ' ok' w' nx' s v
  | .v _ _, _, hr, h => VR.moveM hs hr h
  | .tup _, _, hr, ⟨vs, e, h⟩ => ⟨vs, e, tup_moveM hs hr h⟩
theorem ObR.names {l : Nat} : ∀ {o : Ob}, ObR ρ ok w nx l o → ∀ m ∈ ob1Names (some o), m < nx
  | .box _ _, ⟨_, _, _, _, h⟩, m, hm => cells_names h m hm
  | .arr _ _ _, _, m, hm => by cases hm
  | .frz _ _ _, _, m, hm => by cases hm
  | .mp _ _ _, _, m, hm => by cases hm
  | .clo _ _ _, ⟨_, _, _, h, k⟩, m, hm => by
    rcases List.mem_append.1 hm with hm | hm
    · exact cells_names h m hm
    · exact cells_names k m hm
theorem ObR.moveM (hs : Same ok ok' w w') {l : Nat} (hl : ρ' l = ρ l) : ∀ {o : Ob}, (∀ m ∈ ob1Names (some o), ρ' m = ρ m ∧ m < nx') →
    (o.own = true → ∀ b, blk (ρ l) = some b → w'.heap[b]? = w.heap[b]?) → ObR ρ ok w nx l o → ObR ρ' ok' w' nx' l o
  | .box e cs, hr, hb, ⟨b, vs, h1, h2, h3⟩ => ⟨b, vs, hl.trans h1, (hb rfl b (by rw [h1]; rfl)).trans h2, cells_moveM hs hr h3⟩
  | .arr e t xs, hr, hb, ⟨inner, h1, h2⟩ => ⟨inner, by rw [hl]; exact ownsRow_same h1 (hb rfl), h2.move hs⟩
  | .frz e t xs, hr, hb, h => by show K ok' w' (.sl e t) xs [ρ' l]; rw [hl]; exact K_move hs h
  | .mp g t kvs, hr, hb, ⟨rr, es, clock, h1, h2, h3, h4⟩ => ⟨rr, es, clock, hl.trans h1, (hb rfl rr (by rw [h1]; rfl)).trans h2, h3.imp fun _ _ => EntR.move hs, h4⟩
  | .clo f a b, hr, hb, ⟨as, bs, h1, h2, h3⟩ => ⟨as, bs, hl.trans h1, cells_moveM hs (fun m hm => hr m (List.mem_append_left _ hm)) h2, cells_moveM hs (fun m hm => hr m (List.mem_append_right _ hm)) h3⟩
end

/-! ## An operation that sees a part of the heap -/
section
variable {ρ : Nat → Value} {ok : Nat → Prop} {w : World} {hp hpL : Heap} {nx nm nw : Nat} {up : Ups} {ρ' : Nat → Value} {ok' : Nat → Prop} {w' : World}

def joinρ (ρ ρ' : Nat → Value) (nm nw : Nat) : Nat → Value := fun l => if nm ≤ l ∧ l < nm + nw then ρ' l else ρ l

/-- where a thing of the heap behind an operation comes from -/
theorem part_src (hs : ∀ l o, hpL l = some o → hp l = some o) {q : Nat} {o : Ob} (h : ups hp up q = some o) : ups hpL up q = some o ∨ (q ∉ names up ∧ hp q = some o ∧ hpL q = none) := by
  rw [ups_at] at h
  cases hl : lastU up q with
  | some x =>
    rw [hl] at h
    exact .inl (by rw [ups_at, hl]; exact h)
  | none =>
    rw [hl] at h
    cases hq : hpL q with
    | none => exact .inr ⟨lastU_none.1 hl, h, rfl⟩
    | some p =>
      have := hs q p hq
      have h : hp q = some o := h
      rw [h] at this
      cases this
      exact .inl (by rw [ups_at, hl]; exact hq)

theorem part_heap (hH : RepH ρ ok w hp nx) (hs : ∀ l o, hpL l = some o → hp l = some o) (hL : RepH ρ ok w hpL nm) (E : Eff ρ ok w hpL nm up nw ρ' ok' w') (hnx : nm + nw ≤ nx)
    (hno : ∀ l o, hp l = some o → (l < nm ∨ nm + nw ≤ l) ∧ ∀ m ∈ ob1Names (some o), m < nm ∨ nm + nw ≤ m) : RepH (joinρ ρ ρ' nm nw) ok' w' (ups hp up) nx := by
  obtain ⟨R, g⟩ := E
  have old : ∀ l, (l < nm ∨ nm + nw ≤ l) → joinρ ρ ρ' nm nw l = ρ l := fun l h => by unfold joinρ; rw [if_neg (by omega)]
  have new : ∀ l, l < nm + nw → joinρ ρ ρ' nm nw l = ρ' l := fun l h => by
    unfold joinρ
    by_cases hl : nm ≤ l
    · rw [if_pos ⟨hl, h⟩]
    · rw [if_neg (by omega)]; exact (g.rho l (by omega)).symm
  have hS := g.sameOk hL
  refine ⟨?_, R.okl, ?_, ?_, R.gl⟩
  · intro q o h
    rcases part_src hs h with h | ⟨h1, h2, _⟩
    · obtain ⟨k1, k2⟩ := R.ob q o h
      exact ⟨by omega, k2.move (Same.refl _ _) new hnx (new q k1) fun _ _ _ => rfl⟩
    · obtain ⟨k1, k2⟩ := hH.ob q o h2
      obtain ⟨n1, n2⟩ := hno q o h2
      refine ⟨k1, k2.moveM hS (old q n1) (fun m hm => ⟨old m (n2 m hm), k2.names m hm⟩) fun hw b hb => ?_⟩
      refine g.same b (hH.lt h2 hw hb) fun l hl hlt p hp hpw hbl => h1 ?_
      rwa [hH.dis q l o p b h2 (hs l p hp) hw hpw hb hbl]
  · intro q o b h hw hb hok
    rcases part_src hs h with h | ⟨h1, h2, _⟩
    · rw [new q (R.ob q o h).1] at hb
      exact R.sep q o b h hw hb hok
    · rw [old q (hno q o h2).1] at hb
      rcases g.okn b hok with k | k | ⟨m, hm, hlt, p, hp, hpw, hbl⟩
      · exact hH.sep q o b h2 hw hb k
      · have := hH.lt h2 hw hb; omega
      · exact h1 (by rwa [hH.dis q m o p b h2 (hs m p hp) hw hpw hb hbl])
  · have mix : ∀ l m o p b, ups hpL up l = some o → m ∉ names up → hp m = some p → o.own = true → p.own = true → blk (ρ' l) = some b → blk (ρ m) = some b → l = m := by
      intro l m o p b h1 h2 h3 ho hpw hb1 hb2
      by_cases hl : l < nm
      · obtain ⟨q, k1, k2⟩ := g.stay l hl o h1
        rw [g.rho l hl] at hb1
        exact hH.dis l m q p b (hs l q k1) h3 (k2 ho) hpw hb1 hb2
      · rcases g.nb l o b (by omega) h1 ho hb1 with k | ⟨m', hm', hlt, q, hq, hqw, hbq⟩
        · have := hH.lt h3 hpw hb2; omega
        · have := hH.dis m' m q p b (hs m' q hq) h3 hqw hpw hbq hb2
          subst this
          exact absurd hm' h2
    intro q q' o o' b h h' hw hw' hb hb'
    rcases part_src hs h with h | ⟨h1, h2, _⟩
    · rw [new q (R.ob q o h).1] at hb
      rcases part_src hs h' with h' | ⟨h1', h2', _⟩
      · rw [new q' (R.ob q' o' h').1] at hb'
        exact R.dis q q' o o' b h h' hw hw' hb hb'
      · rw [old q' (hno q' o' h2').1] at hb'
        exact mix q q' o o' b h h1' h2' hw hw' hb hb'
    · rw [old q (hno q o h2).1] at hb
      rcases part_src hs h' with h' | ⟨h1', h2', _⟩
      · rw [new q' (R.ob q' o' h').1] at hb'
        exact (mix q' q o' o b h' h1 h2 hw' hw hb' hb).symm
      · rw [old q' (hno q' o' h2').1] at hb'
        exact hH.dis q q' o o' b h2 h2' hw hw' hb hb'

theorem part_goes {ρ0 : Nat → Value} {ok0 : Nat → Prop} {w0 : World} {hp0 : Heap} {nx0 : Nat} {D : List Nat} (G : Goes ρ0 ok0 w0 hp0 nx0 D ρ ok w hp nx) (hH : RepH ρ ok w hp nx)
    (hs : ∀ l o, hpL l = some o → hp l = some o) (E : Eff ρ ok w hpL nm up nw ρ' ok' w') (h0 : nx0 ≤ nm) (hD : ∀ l ∈ names up, l ∈ D)
    (hno : ∀ l o, hp l = some o → l < nm ∨ nm + nw ≤ l) : Goes ρ0 ok0 w0 hp0 nx0 D (joinρ ρ ρ' nm nw) ok' w' (ups hp up) nx := by
  obtain ⟨R, g⟩ := E
  have old : ∀ l, (l < nm ∨ nm + nw ≤ l) → joinρ ρ ρ' nm nw l = ρ l := fun l h => by unfold joinρ; rw [if_neg (by omega)]
  have new : ∀ l, l < nm + nw → joinρ ρ ρ' nm nw l = ρ' l := fun l h => by
    unfold joinρ
    by_cases hl : nm ≤ l
    · rw [if_pos ⟨hl, h⟩]
    · rw [if_neg (by omega)]; exact (g.rho l (by omega)).symm
  have mid : ∀ l o b, hp l = some o → o.own = true → blk (ρ l) = some b → (l < nx0 ∧ ∃ p, hp0 l = some p ∧ p.own = true ∧ blk (ρ0 l) = some b) ∨
      (nx0 ≤ l ∧ (w0.heap.size ≤ b ∨ ∃ m ∈ D, m < nx0 ∧ ∃ p, hp0 m = some p ∧ p.own = true ∧ blk (ρ0 m) = some b)) := by
    intro l o b ho hw hb
    by_cases hl : l < nx0
    · obtain ⟨p, hp', hpw⟩ := G.stay l hl o ho
      exact .inl ⟨hl, p, hp', hpw hw, by rw [← G.rho l hl]; exact hb⟩
    · exact .inr ⟨by omega, G.nb l o b (by omega) ho hw hb⟩
  refine ⟨g.os.trans G.os, g.tape.trans G.tape, g.output.trans G.output, Nat.le_trans G.size g.size, G.nxl, ?_, ?_, fun b hb => g.okm b (G.okm b hb), ?_, ?_, ?_, ?_⟩
  · intro b hb hne
    have e1 : w.heap[b]? = w0.heap[b]? := G.same b hb hne
    refine (g.same b (Nat.lt_of_lt_of_le hb G.size) ?_).trans e1
    intro l hl hlt o ho hw hbl
    rcases mid l o b (hs l o ho) hw hbl with ⟨h1, p, h2, h3, h4⟩ | ⟨h1, h2 | ⟨m, hm, h3, p, h4, h5, h6⟩⟩
    · exact hne l (hD l hl) h1 p h2 h3 h4
    · omega
    · exact hne m hm h3 p h4 h5 h6
  · intro l hl
    rw [old l (by omega)]
    exact G.rho l hl
  · intro b hb
    rcases g.okn b hb with h1 | h1 | ⟨l, hl, hlt, o, ho, hw, hbl⟩
    · exact G.okn b h1
    · exact .inr (.inl (Nat.le_trans G.size h1))
    · rcases mid l o b (hs l o ho) hw hbl with ⟨h1, p, h2, h3, h4⟩ | ⟨h1, h2 | ⟨m, hm, h3, p, h4, h5, h6⟩⟩
      · exact .inr (.inr ⟨l, hD l hl, h1, p, h2, h3, h4⟩)
      · exact .inr (.inl h2)
      · exact .inr (.inr ⟨m, hm, h3, p, h4, h5, h6⟩)
  · intro l hl hn
    rw [ups_at, lastU_none.2 fun h => hn (hD l h)]
    exact G.hps l hl hn
  · intro l hl o ho
    rcases part_src hs ho with h | ⟨_, h, _⟩
    · obtain ⟨p, h1, h2⟩ := g.stay l (by omega) o h
      obtain ⟨q, h3, h4⟩ := G.stay l hl p (hs l p h1)
      exact ⟨q, h3, fun hw => h4 (h2 hw)⟩
    · exact G.stay l hl o h
  · intro l o b hl ho hw hb
    rcases part_src hs ho with h | ⟨_, h, _⟩
    · rw [new l (R.ob l o h).1] at hb
      by_cases hl1 : nm ≤ l
      · rcases g.nb l o b hl1 h hw hb with h1 | ⟨m, hm, h2, p, h3, h4, h5⟩
        · exact .inl (Nat.le_trans G.size h1)
        · rcases mid m p b (hs m p h3) h4 h5 with ⟨g1, q, g2, g3, g4⟩ | ⟨g1, g2⟩
          · exact .inr ⟨m, hD m hm, g1, q, g2, g3, g4⟩
          · exact g2
      · obtain ⟨p, h1, h2⟩ := g.stay l (by omega) o h
        rw [g.rho l (by omega)] at hb
        exact G.nb l p b hl (hs l p h1) (h2 hw) hb
    · rw [old l (hno l o h)] at hb
      exact G.nb l o b hl h hw hb
end
end Lv
