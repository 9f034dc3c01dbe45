import Derived.Test.YtnogebfcpicghaaGreatDoorEvD
set_option linter.all false
set_option linter.unusedVariables false
set_option linter.unusedSimpArgs false
set_option linter.unusedSectionVars false
namespace Lv
variable [HasG]
open Go

/-- what an operation's outcome means -/
def OpOk (P : Program) (o : Oper) (a : Act) (ρ : Nat → Value) (ok : Nat → Prop) (w : World) (st : St) (r : Res) : Prop :=
  ∃ n w' ρ' ok', (execOp a.eval o).run P w = .ok n w' ∧ Eff ρ ok w st.hp st.nx r.up r.nw ρ' ok' w' ∧
    ((∃ v, n = .value v ∧ ∀ s, r.s = some s → SlotR ρ' ok' w' (st.nx + r.nw) s v) ∨ (n = .skip ∧ r.s = none))

structure Now (P : Program) (ρ : Nat → Value) (ok : Nat → Prop) (w : World) (st : St) (a : Act) (hp' : Heap) : Prop where
  H : RepH ρ ok w st.hp st.nx
  E : RepE ρ ok w st.nx st.env a.tmps
  sub : ∀ l o, hp' l = some o → st.hp l = some o

section
variable {P : Program} {o : Oper} {a : Act} {ρ : Nat → Value} {ok : Nat → Prop} {w : World} {st : St} {hp' : Heap}

theorem OpOk.pure (hN : Now P ρ ok w st a hp') {s : Option Slot} {v : Value} (hr : (execOp a.eval o).run P w = .ok (.value v) w) (hs : ∀ x, s = some x → SlotR ρ ok w st.nx x v) :
    OpOk P o a ρ ok w st ⟨true, s, [], 0⟩ := ⟨_, w, ρ, ok, hr, Eff.refl hN.H, .inl ⟨v, rfl, hs⟩⟩
theorem OpOk.cell (hN : Now P ρ ok w st a hp') {b : Bool} {c : Cell} {v : Value} (hr : (execOp a.eval o).run P w = .ok (.value v) w) (hs : CellR ρ ok w st.nx c v) :
    OpOk P o a ρ ok w st ⟨b, some (.v false [c]), [], 0⟩ := ⟨_, w, ρ, ok, hr, Eff.refl hN.H, .inl ⟨v, rfl, fun x hx => by cases hx; exact ⟨c, rfl, hs⟩⟩⟩

/-! ### memory -/
theorem add_at (b o n : Nat) : Addr.add ⟨b, o, none⟩ n = ⟨b, o + n, none⟩ := Addr.add_lit b o n

theorem run_loadV {t : Nat} {i : TI} (hi : TIOk P t i) {b off : Nat} {cs : List Value} (hl : cs.length = i.size) (h : ∀ j v, cs[j]? = some v → w.cell? ⟨b, off + j, none⟩ = some v) :
    (loadVar t ⟨b, off, none⟩).run P w = .ok (if i.agg = true then .agg cs.toArray else cs.getD 0 undef) w := by
  unfold loadVar
  simp only [Sem.run_bind, run_agg w hi, Result.andThen_ok]
  by_cases ha : i.agg = true
  · simp only [ha, if_true, Sem.run_bind, run_sz w hi, Result.andThen_ok]
    rw [← hl, run_loadCells_list w _ cs (fun j v hj => by rw [add_at]; exact h j v hj)]
    simp
  · simp only [ha, if_false, Bool.false_eq_true]
    have h1 : i.size = 1 := hi.one.resolve_left ha
    rw [h1] at hl
    match cs, hl with
    | [v], _ =>
      have := h 0 v (by simp)
      rw [Nat.add_zero] at this
      simp [this]

theorem loadFrom_ok (hN : Now P ρ ok w st a hp') {t : Nat} {i : TI} (hi : TIOk P t i) {x : Operand} (ho : o.op = .load t x) {b off base : Nat} {cs : List Cell} {vs : List Value} {r : Res}
    (hx : a.eval x = .pointer (some ⟨b, base + off, none⟩)) (hc : All2 (CellR ρ ok w st.nx) cs vs) (hm : ∀ j v, vs[j]? = some v → w.cell? ⟨b, base + j, none⟩ = some v) (h : loadFrom i cs off = some r) : OpOk P o a ρ ok w st r := by
  unfold loadFrom at h
  split at h
  · rename_i hb
    have hle := Nat.le_of_ble_eq_true hb
    have hl := hc.len
    have hc' := (hc.drop off).take i.size
    have hlen : ((vs.drop off).take i.size).length = i.size := by simp; omega
    have hrun := run_loadV (w := w) hi (b := b) (off := base + off) hlen (fun j v hj => by
      rw [List.getElem?_take] at hj
      split at hj
      · rw [List.getElem?_drop] at hj
        have := hm _ _ hj
        rwa [Nat.add_assoc]
      · cases hj)
    have hr : (execOp a.eval o).run P w = .ok (.value (if i.agg = true then .agg ((vs.drop off).take i.size).toArray else ((vs.drop off).take i.size).getD 0 undef)) w := by
      simp only [execOp, ho, Instr.loadAt, hx, Instr.sureAddr, Sem.run_bind, Sem.run_pure, Result.andThen_ok, hrun]
    split at h
    · rename_i ha
      cases h
      rw [if_pos ha] at hr
      exact OpOk.pure hN hr fun s hs => by cases hs; exact ⟨_, rfl, hc'⟩
    · rename_i ha
      cases h
      rw [if_neg ha] at hr
      have h1 : i.size = 1 := hi.one.resolve_left ha
      refine OpOk.pure hN hr fun s hs => ?_
      cases hs
      rw [h1] at hc' hlen ⊢
      have hl2 := hc'.len
      match hcs : (cs.drop off).take 1, hvs : (vs.drop off).take 1, hlen with
      | [], [v], _ => rw [hcs, hvs] at hl2; simp at hl2
      | [c], [v], _ =>
        rw [hcs, hvs] at hc'
        obtain ⟨u, e, hu⟩ := hc'.one
        cases e
        exact ⟨c, rfl, hu⟩
      | _ :: _ :: _, [v], _ => rw [hcs, hvs] at hl2; simp at hl2
  · cases h

theorem flatten_get {n : Nat} {t : Ty} {xs : List t.T} {inner : List Value} (h : Rows ok w t xs inner) {g e : Nat} {cur : Array Value} (hg : w.heap[g]? = some (.cells cur e (0, 0))) (ht : cur.toList.take inner.length = inner) {j : Nat} {x : t.T} (hx : xs[j]? = some x) :
    ∃ vs, K ok w t x vs ∧ ∀ k v, vs[k]? = some v → w.cell? ⟨g, j * t.n + k, none⟩ = some v := by
  obtain ⟨cs, h1, h2⟩ := h.get j x hx
  refine ⟨cs, h1, fun k v hk => ?_⟩
  have := h2 k v hk
  rw [← ht, List.getElem?_take] at this
  split at this
  · simpa [World.cell?, hg] using this
  · cases this

/-- an own array's element, in memory -/
theorem arr_elem (hH : RepH ρ ok w st.hp st.nx) {l e : Nat} {t : Ty} {xs : List t.T} (hl : st.hp l = some (.arr e t xs)) {g L C : Nat} (hv : ρ l = .slice (some ⟨g, 0, none⟩) L C) :
    L = xs.length ∧ ∀ j x, xs[j]? = some x → ∃ vs, K ok w t x vs ∧ ∀ k v, vs[k]? = some v → w.cell? ⟨g, j * t.n + k, none⟩ = some v := by
  obtain ⟨_, inner, h1, h2⟩ := hH.ob l _ hl
  rcases h1.2 with ⟨h3, _⟩ | ⟨g', cap, cur, h3, _, h4, h5, _, h6, h7⟩
  · rw [hv] at h3; cases h3
  · rw [hv] at h3
    injection h3 with e1 e2 e3
    injection e1 with e1
    injection e1 with e1
    subst e1 e2
    refine ⟨rfl, fun j x hx => flatten_get (n := 0) h2 h4 ?_ hx⟩
    rw [h1.1]; exact h7
theorem frz_elem (hH : RepH ρ ok w st.hp st.nx) {l e : Nat} {t : Ty} {xs : List t.T} (hl : st.hp l = some (.frz e t xs)) {g L C : Nat} (hv : ρ l = .slice (some ⟨g, 0, none⟩) L C) :
    L = xs.length ∧ ∀ j x, xs[j]? = some x → ok g ∧ ∃ vs, K ok w t x vs ∧ ∀ k v, vs[k]? = some v → w.cell? ⟨g, j * t.n + k, none⟩ = some v := by
  obtain ⟨_, A, cap, h1, h2, h3⟩ := hH.ob l _ hl
  rw [hv] at h1
  injection h1 with e1 _
  injection e1 with e1 e2 e3
  refine ⟨e2, fun j x hx => ?_⟩
  rcases h3 with h3 | ⟨b, o, h4, h5, h6⟩
  · subst h3; simp at hx
  · rw [← e1] at h4
    injection h4 with h4
    injection h4 with h4 h7
    subst h4 h7
    refine ⟨h5, ?_⟩
    obtain ⟨vs, g1, g2⟩ := h6 j x hx
    exact ⟨vs, g1, fun k v hk => by have := g2 k v hk; rwa [Nat.zero_add] at this⟩

theorem getD_some {α : Type} {xs : List α} {i : Nat} (h : i < xs.length) (d : α) : xs[i]? = some (xs.getD i d) := by
  simp [List.getD, List.getElem?_eq_getElem h]

theorem load_ok (cx : Cx) (hT : TabOk P cx.tab) (hN : Now P ρ ok w st a hp') {t : Nat} {x : Operand} (ho : o.op = .load t x) {r : Res} (h : evOp cx st.nx (.load t x) (opd st.env) hp' = some r) : OpOk P o a ρ ok w st r := by
  simp only [evOp] at h
  split at h <;> try (cases h; done)
  · rename_i i l off h1 h2
    split at h <;> try (cases h; done)
    rename_i e cs hl
    obtain ⟨_, b, h3, h4⟩ := opd1_ok hN.E h2
    obtain ⟨_, b', vs, h5, h6, h7⟩ := hN.H.ob l _ (hN.sub _ _ hl)
    rw [h3] at h5; cases h5
    exact loadFrom_ok hN (hT t i h1) ho (base := 0) (by rw [Nat.zero_add]; exact h4) h7 (fun j v hj => by rw [Nat.zero_add]; simpa [World.cell?, h6] using hj) h
  · rename_i i u y off h1 h2
    obtain ⟨b, base, vs, h3, _, h5, h6⟩ := opd1_ok hN.E h2
    exact loadFrom_ok hN (hT t i h1) ho h3 (ex_ok h5) h6 h
  · rename_i i l n j off h1 h2
    obtain ⟨_, b, L, C, h3, h4, h5⟩ := opd1_ok hN.E h2
    split at h <;> try (cases h; done)
    · rename_i e u xs hl
      split at h <;> try (cases h; done)
      rename_i hn
      have hn := Nat.eq_of_beq_eq_true hn
      subst hn
      obtain ⟨h6, h7⟩ := arr_elem hN.H (hN.sub _ _ hl) h3
      obtain ⟨vs, h8, h9⟩ := h7 j _ (getD_some (by omega) u.z)
      exact loadFrom_ok hN (hT t i h1) ho h5 (ex_ok h8) h9 h
    · rename_i e u xs hl
      split at h <;> try (cases h; done)
      rename_i hn
      have hn := Nat.eq_of_beq_eq_true hn
      subst hn
      obtain ⟨h6, h7⟩ := frz_elem hN.H (hN.sub _ _ hl) h3
      obtain ⟨_, vs, h8, h9⟩ := h7 j _ (getD_some (by omega) u.z)
      exact loadFrom_ok hN (hT t i h1) ho h5 (ex_ok h8) h9 h

/-! ### stores -/
theorem splice_row {α : Type} (cur us : List α) (N jn n off : Nat) (hN : N ≤ cur.length) (hj : jn + n ≤ N) (ho : off + us.length ≤ n) :
    (cur.take (jn + off) ++ us ++ cur.drop (jn + off + us.length)).take N =
      (cur.take N).take jn ++ (((cur.drop jn).take n).take off ++ us ++ ((cur.drop jn).take n).drop (off + us.length)) ++ (cur.take N).drop (jn + n) := by
  apply List.ext_getElem?
  intro k
  simp only [List.getElem?_take, List.getElem?_append, List.getElem?_drop, List.length_append, List.length_take, List.length_drop]
  repeat' split
  all_goals first | rfl | omega | (congr 1; omega) | (symm; apply List.getElem?_eq_none; omega) | (apply List.getElem?_eq_none; omega) | skip
theorem cells_one {ρ : Nat → Value} {ok : Nat → Prop} {w : World} {nx : Nat} {cs : List Cell} {vs : List Value} (h : All2 (CellR ρ ok w nx) cs vs) : ∀ u ∈ vs, u.oneCell' = true := by
  induction h with
  | nil => intro u hu; cases hu
  | cons hc _ ih =>
    intro u hu
    rcases List.mem_cons.1 hu with rfl | hu
    · exact hc.one
    · exact ih u hu
theorem ex_noref : ∀ (t : Ty) (x : t.T), (∀ m, Cell.ref m ∉ t.ex x) ∧ (∀ m n lo len, Cell.sub m n lo len ∉ t.ex x)
  | .pair a b, x => by
    have ha := ex_noref a x.1
    have hb := ex_noref b x.2
    simp only [Ty.ex, List.mem_append]
    exact ⟨fun m h => h.elim (ha.1 m) (hb.1 m), fun m n lo len h => h.elim (ha.2 m n lo len) (hb.2 m n lo len)⟩
  | .int _, _ => by simp [Ty.ex]
  | .bool, _ => by simp [Ty.ex]
  | .str, _ => by simp [Ty.ex]
  | .val, _ => by simp [Ty.ex]
  | .unit, _ => by simp [Ty.ex]
  | .sl _ _, _ => by simp [Ty.ex]
theorem memN_iff {x : Nat} : ∀ {l : List Nat}, memN x l = true ↔ x ∈ l
  | [] => by simp [memN]
  | y :: r => by simp only [memN, Bool.or_eq_true, List.mem_cons, memN_iff (l := r)]; exact or_congr ⟨Nat.eq_of_beq_eq_true, fun h => h ▸ Nat.beq_refl x⟩ Iff.rfl
theorem All2.splice {α β : Type} {R : α → β → Prop} {cs : List α} {vs : List β} {ds : List α} {us : List β} (h : All2 R cs vs) (k : All2 R ds us) (off : Nat) :
    All2 R (cs.take off ++ ds ++ cs.drop (off + ds.length)) (vs.take off ++ us ++ vs.drop (off + ds.length)) := ((h.take off).app k).app (h.drop _)

theorem run_storeV {t : Nat} {i : TI} (hi : TIOk P t i) {v : Value} {us : List Value} (hv : v.cells.toList = us) (hl : us.length = i.size) (h1 : ∀ u ∈ us, u.oneCell' = true) {g off e : Nat} {cur : Array Value} (hg : w.heap[g]? = some (.cells cur e (0, 0)))
    (hle : off + us.length ≤ cur.size) : (storeVar t ⟨g, off, none⟩ v).run P w = .ok () (w.setRow g (cur.toList.take off ++ us ++ cur.toList.drop (off + us.length)).toArray) := by
  have hs : v.cells.size = i.size := by rw [← hl, ← hv]; simp
  have hst := run_storeCells_at P g off e us 0 cur w hg (by simpa using hle) h1
  simp only [Nat.add_zero] at hst
  unfold storeVar
  simp only [Sem.run_bind, run_sz w hi, Result.andThen_ok, hs, ne_eq, not_true, if_false, Sem.run_pure, hv]
  exact hst

theorem store_ok (cx : Cx) (hT : TabOk P cx.tab) (hN : Now P ρ ok w st a hp') {t : Nat} {x y : Operand} (ho : o.op = .store t x y) {r : Res} (h : evOp cx st.nx (.store t x y) (opd st.env) hp' = some r) : OpOk P o a ρ ok w st r := by
  simp only [evOp] at h
  split at h <;> try (cases h; done)
  · rename_i i l off ds h1 h2 h3
    split at h <;> try (cases h; done)
    rename_i e cs hl
    split at h <;> try (cases h; done)
    rename_i hd
    split at h <;> try (cases h; done)
    rename_i hle
    cases h
    have hd := Nat.eq_of_beq_eq_true hd
    have hle := Nat.le_of_ble_eq_true hle
    obtain ⟨_, b, h4, h5⟩ := opd1_ok hN.E h2
    obtain ⟨us, h6, h7⟩ := opdCs_ok hN.E h3
    have hl' := hN.sub _ _ hl
    obtain ⟨_, b', vs, h8, h9, h10⟩ := hN.H.ob l _ hl'
    rw [h4] at h8; cases h8
    have hlen := h7.len
    have hlen2 := h10.len
    have hone := cells_one h7
    have hrun := run_storeV (w := w) (hT t i h1) h6 (by omega) hone h9 (off := off) (by simp; omega)
    have hr : (execOp a.eval o).run P w = .ok .skip (w.setRow b (vs.take off ++ us ++ vs.drop (off + us.length)).toArray) := by
      simp only [execOp, ho, Instr.storeAt, h5, Instr.sureAddr, Sem.run_bind, Sem.run_pure, Result.andThen_ok, hrun]
    refine ⟨_, _, ρ, ok, hr, ?_, .inr ⟨rfl, rfl⟩⟩
    refine eff_set hN.H hl' rfl rfl rfl ⟨rfl, fun _ => Nat.le_refl _⟩ (by simp) (fun c hc => setRow_other w b c _ fun e' => hc (by rw [h4, e']; rfl)) ?_
    refine ⟨b, vs.take off ++ us ++ vs.drop (off + us.length), h4, setRow_heap w b _ _ e _ h9, ?_⟩
    have hS : Same ok ok w (w.setRow b (vs.take off ++ us ++ vs.drop (off + us.length)).toArray) := fun c hc => ⟨hc, setRow_other w b c _ fun e' => hN.H.sep l _ b hl' rfl (by rw [h4]; rfl) (e' ▸ hc)⟩
    have := All2.splice h10 h7 off
    rw [hlen] at this
    exact (by unfold Lv.splice; rw [hlen]; exact this.imp fun _ _ => CellR.move hS (fun _ _ => rfl) (Nat.le_refl _))
  · rename_i i l n j off ds h1 h2 h3
    split at h <;> try (cases h; done)
    rename_i e u xs hl
    split at h <;> try (cases h; done)
    rename_i hd
    split at h <;> try (cases h; done)
    rename_i hle
    split at h <;> try (cases h; done)
    rename_i z hz
    cases h
    rw [Bool.and_eq_true, Bool.and_eq_true] at hd
    obtain ⟨hn, hd, hnm⟩ := hd
    have hnm : l ∉ names (frzs hp' ds) := fun hm => by rw [memN_iff.2 hm] at hnm; cases hnm
    have hn := Nat.eq_of_beq_eq_true hn
    subst hn
    have hd := Nat.eq_of_beq_eq_true hd
    have hle := Nat.le_of_ble_eq_true hle
    obtain ⟨_, b, L, C, h4, hj, h5⟩ := opd1_ok hN.E h2
    obtain ⟨us, h6, h7⟩ := opdCs_ok hN.E h3
    have hl' := hN.sub _ _ hl
    obtain ⟨hL, helem⟩ := arr_elem hN.H hl' h4
    obtain ⟨vs, h8, h9⟩ := helem j _ (getD_some (by omega) u.z)
    have hlen := h7.len
    have hvl : vs.length = u.n := K_len h8
    have hone := cells_one h7
    -- first the parts become data
    have hF : FrzList st.hp (frzs hp' ds) := (frzs_list hp' ds).sub hN.sub
    have e1 := eff_frz hN.H hF
    -- the new element
    have hsp := All2.splice (ex_ok (ρ := ρ) (nx := st.nx) h8) h7 off
    have hz' : K (okWith ok ρ (names (frzs hp' ds))) w u z (vs.take off ++ us ++ vs.drop (off + ds.length)) := by
      refine co_ok hN.H hN.sub (fun b hb => .inl hb) hsp ?_ hz
      intro m f v ys hm hc
      have key : ∀ c, c ∈ List.take off (u.ex (xs.getD j u.z)) ++ ds ++ List.drop (off + ds.length) (u.ex (xs.getD j u.z)) → c ∈ ds ∨ c ∈ u.ex (xs.getD j u.z) := fun c hc => by
        simp only [List.mem_append] at hc
        rcases hc with (hc | hc) | hc
        · exact .inr (List.mem_of_mem_take hc)
        · exact .inl hc
        · exact .inr (List.mem_of_mem_drop hc)
      refine fun b hb => .inr ⟨m, frzs_cov hp' ds m f v ys hm ?_, hb⟩
      rcases hc with hc | ⟨n', lo, len, hc⟩
      · exact .inl ((key _ hc).resolve_right ((ex_noref u _).1 m))
      · exact .inr ⟨n', lo, len, (key _ hc).resolve_right ((ex_noref u _).2 m n' lo len)⟩
    -- the array is not among what became data
    have hl1 : ups st.hp (frzs hp' ds) l = some (.arr e u xs) := by
      rcases frz_at hF l with ⟨hm, _⟩ | ⟨_, h10⟩
      · exact absurd hm hnm
      · rw [h10]; exact hl'
    obtain ⟨_, inner, h10, h11⟩ := e1.1.ob l _ hl1
    rcases h10.2 with ⟨h12, _⟩ | ⟨g, cap, cur, h12, _, h13, h14, h15, h16, h17⟩
    · rw [h4] at h12; cases h12
    rw [h4] at h12
    injection h12 with e2 e3 e4
    injection e2 with e2
    injection e2 with e2
    subst e2
    have hin : inner.length = xs.length * u.n := h10.1
    have hjx : j < xs.length := by omega
    have hmul : j * u.n + u.n ≤ xs.length * u.n := by rw [← Nat.succ_mul]; exact Nat.mul_le_mul_right _ hjx
    have hcap : xs.length * u.n ≤ cur.size := by rw [h16]; exact Nat.mul_le_mul_right _ h14
    have hrun := run_storeV (w := w) (hT t i h1) h6 (by omega) hone h13 (off := j * u.n + off) (by omega)
    have hr : (execOp a.eval o).run P w = .ok .skip (w.setRow b (cur.toList.take (j * u.n + off) ++ us ++ cur.toList.drop (j * u.n + off + us.length)).toArray) := by
      simp only [execOp, ho, Instr.storeAt, h5, Instr.sureAddr, Sem.run_bind, Sem.run_pure, Result.andThen_ok, hrun]
    refine ⟨_, _, ρ, _, hr, e1.trans (m := 0) (eff_set e1.1 hl1 rfl rfl rfl ⟨rfl, fun _ => Nat.le_refl _⟩ (by simp) (fun c hc => setRow_other w b c _ fun e' => hc (by rw [h4, e']; rfl)) ?_), .inr ⟨rfl, rfl⟩⟩
    have hrows := h11.set hjx hz'
    have hS : Same (okWith ok ρ (names (frzs hp' ds))) (okWith ok ρ (names (frzs hp' ds))) w (w.setRow b (cur.toList.take (j * u.n + off) ++ us ++ cur.toList.drop (j * u.n + off + us.length)).toArray) :=
      fun c hc => ⟨hc, setRow_other w b c _ fun e' => e1.1.sep l _ b hl1 rfl (by rw [h4]; rfl) (e' ▸ hc)⟩
    refine ⟨_, ?_, hrows.move hS⟩
    have hcl : cur.toList.length = cur.size := by simp
    have hvs : vs = (cur.toList.drop (j * u.n)).take u.n := by
      apply List.ext_getElem?
      intro k
      rw [List.getElem?_take, List.getElem?_drop]
      split
      · rename_i hk
        have hg : vs[k]? = some (vs[k]'(by omega)) := List.getElem?_eq_getElem (by omega)
        have h20 := h9 k _ hg
        rw [hg]
        have h21 : w.cell? ⟨b, j * u.n + k, none⟩ = cur[j * u.n + k]? := by simp [World.cell?, h13]
        rw [h21] at h20
        rw [← h20]; simp
      · exact List.getElem?_eq_none (by omega)
    refine ⟨?_, .inr ⟨b, cap, _, by rw [h4, e3, e4]; simp, Nat.zero_le _, setRow_heap w b cur _ e _ h13, by simpa using h14, h15, ?_, ?_⟩⟩
    · rw [hrows.len]
    · simp only [List.size_toArray, List.length_append, List.length_take, List.length_drop, hcl]; omega
    · rw [List.length_set, hlen, ← h17, hvs]
      exact splice_row _ _ _ _ _ _ (by omega) hmul (by omega)
end
end Lv
