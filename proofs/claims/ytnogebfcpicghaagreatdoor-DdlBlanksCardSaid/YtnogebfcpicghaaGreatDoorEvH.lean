import Derived.Test.YtnogebfcpicghaaGreatDoorEvG
set_option linter.all false
set_option linter.unusedVariables false
set_option linter.unusedSimpArgs false
set_option linter.unusedSectionVars false
namespace Lv
variable [HasG]
open Go Go.RowKit
section
variable {P : Program} {o : Oper} {a : Act} {ρ : Nat → Value} {ok : Nat → Prop} {w : World} {st : St} {hp' : Heap}

theorem partsCells_ok (hN : Now P ρ ok w st a hp') : ∀ {parts : List (Nat × Operand)} {i : Nat} {css : List (List Cell)}, partsCells (opd st.env) i parts = some css →
    ∃ vss : List (List Value), All2 (fun cs vs => All2 (CellR ρ ok w st.nx) cs vs) css vss ∧ vss.length = parts.length ∧ ∀ k p, parts[k]? = some p → p.1 = i + k ∧ vss[k]? = some (a.eval p.2).cells.toList
  | [], i, css, h => by cases h; exact ⟨[], .nil, rfl, fun k p hp => by simp at hp⟩
  | (j, x) :: r, i, css, h => by
    simp only [partsCells] at h
    split at h <;> try (cases h; done)
    rename_i hj
    split at h <;> try (cases h; done)
    rename_i c cs h1 h2
    cases h
    obtain ⟨vs, h3, h4⟩ := opdCs_ok hN.E h1
    obtain ⟨vss, h5, h6, h7⟩ := partsCells_ok hN h2
    refine ⟨vs :: vss, .cons h4 h5, by simp [h6], fun k p hp => ?_⟩
    cases k with
    | zero => simp at hp; subst hp; exact ⟨(Nat.eq_of_beq_eq_true hj).symm, by simp [h3]⟩
    | succ k =>
      obtain ⟨g1, g2⟩ := h7 k p (by simpa using hp)
      exact ⟨by omega, by simpa using g2⟩

/-- parts of one size, one behind the other -/
theorem fill_rows (size : Nat) : ∀ (parts : List (Nat × Value)) (done : List (List Value)) (cells : Array Value),
    (∀ k p, parts[k]? = some p → p.1 = done.length + k ∧ p.2.cells.size = size) → (∀ vs ∈ done, vs.length = size) → (done.length + parts.length) * size ≤ cells.size →
    cells.toList.take (done.length * size) = done.flatten →
    ∃ cells', Instr.fill (fun i => some (i * size, size)) cells parts = some cells' ∧ cells'.size = cells.size ∧
      cells'.toList.take ((done.length + parts.length) * size) = done.flatten ++ (parts.map fun p => p.2.cells.toList).flatten
  | [], done, cells, _, _, _, ht => ⟨cells, rfl, rfl, by simpa using ht⟩
  | (i, v) :: r, done, cells, h, hd, hle, ht => by
    obtain ⟨h1, h2⟩ := h 0 _ rfl
    simp only [Nat.add_zero] at h1 h2
    simp only [List.length_cons] at hle
    have hlt : done.length * size + size ≤ cells.size := by
      rw [← Nat.succ_mul]
      exact Nat.le_trans (Nat.mul_le_mul_right _ (by omega)) hle
    obtain ⟨cells', e1, e2⟩ := fill_cons (fun i => some (i * size, size)) cells i v r rfl h2 (by rw [h1]; exact hlt)
    have hs : cells'.size = cells.size := by
      have := congrArg List.length e2
      simp [h2, h1] at this
      omega
    have hf : done.flatten.length = done.length * size := by
      rw [← ht, List.length_take]; simp; omega
    have htk : cells'.toList.take ((done ++ [v.cells.toList]).length * size) = (done ++ [v.cells.toList]).flatten := by
      rw [e2, h1, ht]
      simp only [List.length_append, List.length_singleton, Nat.add_mul, Nat.one_mul, List.flatten_append, List.flatten_singleton]
      rw [List.take_append_of_le_length (by simp [hf, h2])]
      apply List.take_of_length_le
      simp [hf, h2]
    obtain ⟨c2, e3, e4, e5⟩ := fill_rows size r (done ++ [v.cells.toList]) cells' (fun k p hp => by
        obtain ⟨g1, g2⟩ := h (k + 1) p (by simpa using hp)
        exact ⟨by simp; omega, g2⟩) (fun vs hvs => by
        rcases List.mem_append.1 hvs with hvs | hvs
        · exact hd vs hvs
        · cases List.mem_singleton.1 hvs; simpa using h2) (by rw [hs]; simp only [List.length_append, List.length_singleton]; rw [Nat.add_assoc, Nat.add_comm 1]; exact hle) htk
    refine ⟨c2, e1.trans e3, e4.trans hs, ?_⟩
    simp only [List.length_append, List.length_singleton, List.flatten_append, List.flatten_singleton, List.append_assoc] at e5
    simp only [List.length_cons, List.map_cons, List.flatten_cons]
    rw [show done.length + (r.length + 1) = done.length + 1 + r.length by omega]
    exact e5

theorem buildSlice_ok (cx : Cx) (hT : TabOk P cx.tab) (hN : Now P ρ ok w st a hp') {t len : Nat} {parts : Array (Nat × Operand)} (ho : o.op = .buildSlice t len parts) {r : Res} (h : evOp cx st.nx (.buildSlice t len parts) (opd st.env) hp' = some r) : OpOk P o a ρ ok w st r := by
  simp only [evOp] at h
  split at h <;> try (cases h; done)
  rename_i e _ _ _ _ _ hi
  split at h <;> try (cases h; done)
  rename_i kind size bytes cap zero ty hj
  split at h <;> try (cases h; done)
  rename_i css hcs
  split at h <;> try (cases h; done)
  rename_i hb
  split at h <;> try (cases h; done)
  rename_i xs hxs
  cases h
  obtain ⟨hb1, hb2⟩ := Bool.and_eq_true_iff.1 hb
  have hb1 := Nat.eq_of_beq_eq_true hb1
  have hb2 := Nat.le_of_ble_eq_true hb2
  have hu := (hT t _ hi).sl rfl
  have hTI := hT e _ hj
  have htn : ty.n = size := hTI.ty ty rfl
  have hpos : 0 < size := hTI.pos
  obtain ⟨z, hz, hzc⟩ := run_zero w hTI
  obtain ⟨vss, h1, h2, h3⟩ := partsCells_ok hN hcs
  have hF : FrzList st.hp (frzs hp' css.flatten) := (frzs_list hp' _).sub hN.sub
  have e1 := eff_frz hN.H hF
  have hrows : Rows (okWith ok ρ (names (frzs hp' css.flatten))) w ty xs vss.flatten := coAll_ok hN.H hN.sub (fun b hb => .inl hb) h1 (Frozen.of (frzs_cov hp' _)) hxs
  have hcl : css.length = vss.length := h1.len
  have hvn : ∀ vs ∈ vss, vs.length = size := by
    intro vs hvs
    have key : ∀ {css : List (List Cell)} {vss : List (List Value)} {xs : List ty.T}, All2 (fun cs vs => All2 (CellR ρ ok w st.nx) cs vs) css vss → coAll hp' ty css = some xs → ∀ vs ∈ vss, vs.length = ty.n := by
      intro css vss xs hall
      induction hall generalizing xs with
      | nil => intro _ vs hvs; cases hvs
      | @cons c v cr vr hc _ ih =>
        intro hx vs hvs
        simp only [coAll] at hx
        split at hx <;> try (cases hx; done)
        rename_i y ys hy hys
        rcases List.mem_cons.1 hvs with rfl | hvs
        · have hco := co_ok hN.H (ok' := fun _ => True) hN.sub (fun _ _ => trivial) hc (fun _ _ _ _ _ _ _ _ => trivial) hy
          exact K_len hco
        · exact ih hys vs hvs
    rw [← htn]
    exact key h1 hxs vs hvs
  have hxl : xs.length = len := by
    have : ∀ {css : List (List Cell)} {xs : List ty.T}, coAll hp' ty css = some xs → xs.length = css.length := by
      intro css
      induction css with
      | nil => intro xs hx; cases hx; rfl
      | cons c cr ih =>
        intro xs hx
        simp only [coAll] at hx
        split at hx <;> try (cases hx; done)
        rename_i y ys hy hys
        cases hx
        simp [ih hys]
    rw [this hxs, hb1]
  have hpl : parts.toList.length = len := by rw [← h2, ← hcl, hb1]
  obtain ⟨cells', g1, g2, g3⟩ := fill_rows size (parts.toList.map fun (i, x) => (i, a.eval x)) [] ((Array.range (len * size)).map (fun i => (if len * size = 0 then (#[] : Array Value) else z.cells)[i % (if len * size = 0 then (#[] : Array Value) else z.cells).size]!))
    (fun k p hp => by
      rw [List.getElem?_map] at hp
      cases hq : parts.toList[k]? with
      | none => simp [hq] at hp
      | some q =>
        simp [hq] at hp
        subst hp
        obtain ⟨m1, m2⟩ := h3 k q hq
        have := hvn _ (List.mem_of_getElem? m2)
        exact ⟨by simpa using m1, by simpa using this⟩)
    (fun vs hvs => by cases hvs) (by simp [hpl]) (by simp)
  have hparts : (List.map (fun p : Nat × Value => p.2.cells.toList) (parts.toList.map fun (i, x) => (i, a.eval x))) = vss := by
    apply List.ext_getElem?
    intro k
    rw [List.getElem?_map, List.getElem?_map]
    cases hq : parts.toList[k]? with
    | none =>
      have : vss[k]? = none := List.getElem?_eq_none (by rw [h2]; exact List.getElem?_eq_none_iff.1 hq)
      simp [this]
    | some q => simp [(h3 k q hq).2]
  have hcells : cells' = vss.flatten.toArray := by
    apply Array.ext'
    simp only [List.length_nil, Nat.zero_add, List.flatten_nil, List.nil_append, List.length_map, hpl, hparts] at g3
    simp only [List.toList_toArray]
    rw [← g3]
    symm
    apply List.take_of_length_le
    simp [g2]
  have hr : (execOp a.eval o).run P w = .ok (.value (.slice (some ⟨w.heap.size, 0, none⟩) len len)) (w.alloc (.cells vss.flatten.toArray e)) := by
    have hn : ¬ (len * size > 2 ^ 24) := by omega
    simp only [execOp, ho, Instr.buildSlice, Sem.run_bind, run_underlying hu, Result.andThen_ok, run_sz w hTI, hn, if_false]
    by_cases h0 : len * size = 0
    · simp only [h0, if_true] at g1 ⊢
      simp only [Sem.run_pure, Result.andThen_ok, Array.toList_map, g1, newRow, Sem.run_bind, run_newObj, hcells]
      rfl
    · simp only [h0, if_false] at g1 ⊢
      simp only [Sem.run_bind, hz, Sem.run_pure, Result.andThen_ok, Array.toList_map, g1, newRow, run_newObj, hcells]
      rfl
  refine ⟨_, _, rset ρ st.nx (.slice (some ⟨w.heap.size, 0, none⟩) len len), okWith ok ρ (names (frzs hp' css.flatten)), hr, ?_, .inl ⟨_, rfl, fun s hs => ?_⟩⟩
  · have := e1.trans (n := 0) (m := 1) (eff_new e1.1 (w' := w.alloc (.cells vss.flatten.toArray e)) (v := .slice (some ⟨w.heap.size, 0, none⟩) len len) (o := .arr e ty xs) rfl rfl ⟨rfl, fun _ => Nat.le_refl _⟩ (by simp) (fun b hb => Below.heap_alloc w _ b hb) ?_ ?_)
    · simpa using this
    · refine ⟨vss.flatten, ⟨?_, .inr ⟨w.heap.size, len, vss.flatten.toArray, by simp [rset, hxl], Nat.zero_le _, heap_alloc_new w _, by omega, ?_, ?_, ?_⟩⟩, ?_⟩
      · rw [hrows.len]
      · have : len ≤ len * size := Nat.le_mul_of_pos_right _ hpos
        simp only [maxLen]; omega
      · rw [List.size_toArray, hrows.len, hxl]
      · rw [List.toList_toArray]
        exact List.take_of_length_le (by rw [hrows.len]; exact Nat.le_refl _)
      · exact hrows.move fun b hb => ⟨hb, Below.heap_alloc w _ b (e1.1.okl b hb)⟩
    · intro _ b hb
      cases hb
      exact Nat.le_refl _
  · cases hs
    exact ⟨_, rfl, Nat.lt_succ_self _, by simp [rset], rfl⟩

theorem cellArgs_ok (hN : Now P ρ ok w st a hp') : ∀ {l : List Operand} {cs : List Cell}, cellArgs (opd st.env) l = some cs → All2 (CellR ρ ok w st.nx) cs (l.map a.eval)
  | [], cs, h => by cases h; exact .nil
  | x :: r, cs, h => by
    simp only [cellArgs] at h
    split at h <;> try (cases h; done)
    rename_i c l h1 h2
    cases h
    exact .cons (opd1_ok hN.E h1) (cellArgs_ok hN h2)

theorem makeFunc_ok (cx : Cx) (hN : Now P ρ ok w st a hp') {f : Nat} {first caps : Array Operand} (ho : o.op = .makeFunc (.func f) first caps) {r : Res} (h : evOp cx st.nx (.makeFunc (.func f) first caps) (opd st.env) hp' = some r) : OpOk P o a ρ ok w st r := by
  simp only [evOp] at h
  split at h <;> try (cases h; done)
  rename_i x y h1 h2
  cases h
  have h3 := cellArgs_ok hN h1
  have h4 := cellArgs_ok hN h2
  have hr : (execOp a.eval o).run P w = .ok (.value (.func (.func f) (first.map a.eval) (caps.map a.eval))) w := by
    simp only [execOp, ho, Instr.makeFunc]; rfl
  refine ⟨_, w, rset ρ st.nx (.func (.func f) (first.map a.eval) (caps.map a.eval)), ok, hr, eff_new hN.H rfl rfl ⟨rfl, fun _ => Nat.le_refl _⟩ (Nat.le_refl _) (fun _ _ => rfl) ?_ ?_, .inl ⟨_, rfl, fun s hs => ?_⟩⟩
  · have mv : ∀ {c : Cell} {v : Value}, CellR ρ ok w st.nx c v → CellR (rset ρ st.nx (.func (.func f) (first.map a.eval) (caps.map a.eval))) ok w (st.nx + 1) c v :=
      fun h => h.move (Same.refl _ _) (fun l hl => by simp [rset, Nat.ne_of_lt hl]) (by omega)
    have e : ∀ q : Array Operand, q.map a.eval = (q.toList.map a.eval).toArray := fun q => by apply Array.ext'; simp
    exact ⟨first.toList.map a.eval, caps.toList.map a.eval, by rw [← e, ← e]; simp [rset], h3.imp fun _ _ => mv, h4.imp fun _ _ => mv⟩
  · intro h; cases h
  · cases hs
    exact ⟨_, rfl, Nat.lt_succ_self _, by simp [rset], rfl⟩

/-! ### slices -/
theorem bound_ok (hN : Now P ρ ok w st a hp') {d : Int} {x : Option Operand} {i : Int} (h : bound (opd st.env) d x = some i) : (x = none ∧ i = d) ∨ ∃ y k, x = some y ∧ a.eval y = .int k i := by
  unfold bound at h
  split at h
  · cases h; exact .inl ⟨rfl, rfl⟩
  · rename_i y
    split at h <;> try (cases h; done)
    rename_i k j hj
    cases h
    exact .inr ⟨y, k, rfl, opd1_ok (c := .int k i) hN.E hj⟩

theorem run_bounds (hN : Now P ρ ok w st a hp') {isS : Bool} {n cap : Nat} (hc : n ≤ cap) {lo hi : Option Operand} {i j : Int} (h1 : bound (opd st.env) 0 lo = some i) (h2 : bound (opd st.env) n hi = some j) (hi0 : 0 ≤ i) (hij : i ≤ j) (hj : j ≤ n) :
    (Instr.sliceBounds isS n cap (lo.map a.eval) (hi.map a.eval) none).run P w = .ok (i.toNat, j.toNat, cap) w := by
  have hs : ∀ (v : Value) (k : IntKind) (m : Int) (y : Nat) (c : BoundsCode), v = .int k m → 0 ≤ m → m ≤ y → (Instr.sliceBound v y c).run P w = .ok m.toNat w := by
    intro v k m y c hv h3 h4
    subst hv
    simp only [Instr.sliceBound, asIntOf, Sem.run_bind, Sem.run_pure, Result.andThen_ok, h3, h4, and_self, if_true]
  unfold Instr.sliceBounds
  simp only [Sem.run_bind, Sem.run_pure, Result.andThen_ok]
  rcases bound_ok hN h2 with ⟨rfl, rfl⟩ | ⟨y, k, rfl, hy⟩
  · rcases bound_ok hN h1 with ⟨rfl, rfl⟩ | ⟨z, l, rfl, hz⟩
    · simp only [Option.map_none, Sem.run_bind, Sem.run_pure, Result.andThen_ok]; rfl
    · simp only [Option.map_some, Option.map_none, Sem.run_bind, Sem.run_pure, Result.andThen_ok, hs _ l i n _ hz hi0 hij]; rfl
  · rcases bound_ok hN h1 with ⟨rfl, rfl⟩ | ⟨z, l, rfl, hz⟩
    · simp only [Option.map_none, Option.map_some, Sem.run_bind, Sem.run_pure, Result.andThen_ok, hs _ k j cap _ hy (by omega) (by omega)]; rfl
    · simp only [Option.map_some, Sem.run_bind, Sem.run_pure, Result.andThen_ok, hs _ k j cap _ hy (by omega) (by omega), hs _ l i j.toNat _ hz hi0 (by omega)]

theorem run_slice {t e : Nat} {i : TI} (hu : P.underlying t = some (.slice e)) (hi : TIOk P e i) {A : Option Addr} {n cap : Nat} {lo hi' : Option Operand} {x : Operand} {l h : Nat} (ho : o.op = .slice t x lo hi' none) (hx : a.eval x = .slice A n cap)
    (hb : (Instr.sliceBounds true n cap (lo.map a.eval) (hi'.map a.eval) none).run P w = .ok (l, h, cap) w) :
    (execOp a.eval o).run P w = .ok (.value (.slice (if cap = l then A else A.map (·.add (l * i.size))) (h - l) (cap - l))) w := by
  simp only [execOp, ho, Instr.sliceAt, Sem.run_bind, run_underlying hu, Result.andThen_ok, hx, Option.map_none, Instr.slice, hb, run_sz w hi, Sem.run_pure]

theorem sub_K {ok : Nat → Prop} {w : World} {e : Nat} {t : Ty} {xs : List t.T} {A : Option Addr} {cap l h : Nat} (hk : K ok w (.sl e t) xs [.slice A xs.length cap]) (hlh : l ≤ h) (hh : h ≤ xs.length) :
    K ok w (.sl e t) ((xs.take h).drop l) [.slice (if cap = l then A else A.map (·.add (l * t.n))) (h - l) (cap - l)] := by
  obtain ⟨A', cap', h1, h2, h3⟩ := hk
  injection h1 with h1
  injection h1 with e1 _ e3
  subst e1 e3
  have hlen : ((xs.take h).drop l).length = h - l := by simp; omega
  refine ⟨_, _, by rw [hlen], by rw [hlen]; omega, ?_⟩
  rcases h3 with h3 | ⟨b, off, h4, h5, h6⟩
  · subst h3; exact .inl (by simp)
  · by_cases hl : h = l
    · subst hl; exact .inl (by apply List.eq_nil_of_length_eq_zero; omega)
    · rw [if_neg (by omega), h4]
      have := Row.part (R := K ok w t) h5 h6 l (h - l)
      rw [show (xs.take h).drop l = (xs.drop l).take (h - l) by rw [List.drop_take]]
      simpa [add_at] using this

theorem slice_ok (cx : Cx) (hT : TabOk P cx.tab) (hN : Now P ρ ok w st a hp') {t : Nat} {x : Operand} {lo hi : Option Operand} (ho : o.op = .slice t x lo hi none) {r : Res} (h : evOp cx st.nx (.slice t x lo hi none) (opd st.env) hp' = some r) (hb : r.c = true) : OpOk P o a ρ ok w st r := by
  have el : ∀ {e n : Nat}, elemN cx e n = true → ∃ i, cx.tab e = some i ∧ i.size = n := by
    intro e n he
    unfold elemN at he
    split at he
    · rename_i i hi; exact ⟨i, hi, Nat.eq_of_beq_eq_true he⟩
    · cases he
  have data : ∀ {e' e : Nat} {u : Ty} {xs : List u.T} {v : Value} {p q : Int}, P.underlying t = some (.slice e') → elemN cx e' u.n = true → a.eval x = v → K ok w (.sl e u) xs [v] → bound (opd st.env) 0 lo = some p → bound (opd st.env) xs.length hi = some q →
      (decide (0 ≤ p) && (decide (p ≤ q) && decide (q ≤ (xs.length : Int)))) = true → OpOk P o a ρ ok w st ⟨(decide (0 ≤ p) && (decide (p ≤ q) && decide (q ≤ (xs.length : Int)))), some (.v false [.sl e u ((xs.take q.toNat).drop p.toNat)]), [], 0⟩ := by
    intro e' e u xs v p q hu hel hx hk hp hq hc
    simp only [Bool.and_eq_true, decide_eq_true_eq] at hc
    obtain ⟨c1, c2, c3⟩ := hc
    obtain ⟨A, cap, h1, h2, _⟩ := id hk
    injection h1 with h1
    subst h1
    obtain ⟨i, hi1, hi2⟩ := el hel
    have hrb := run_bounds hN (isS := true) h2 hp hq c1 c2 c3
    refine OpOk.cell hN (run_slice hu (hT e' i hi1) ho hx hrb) ?_
    rw [hi2]
    exact sub_K hk (by omega) (by omega)
  simp only [evOp] at h
  split at h <;> try (cases h; done)
  · rename_i s h1 h2
    split at h <;> try (cases h; done)
    rename_i p q hp hq
    cases h
    simp only [Bool.and_eq_true, decide_eq_true_eq] at hb
    obtain ⟨c1, c2, c3⟩ := hb
    have hx : a.eval x = .string s := opd1_ok (c := .str s) hN.E h2
    have hrb := run_bounds hN (isS := false) (Nat.le_refl _) hp hq c1 c2 c3
    have hu := (hT t _ h1).str rfl
    refine OpOk.cell hN (v := .string (s.extract p.toNat q.toNat)) ?_ rfl
    simp only [execOp, ho, Instr.sliceAt, Sem.run_bind, run_underlying hu, Result.andThen_ok, hx, Option.map_none, Instr.slice, Option.isSome_none, Bool.false_eq_true, if_false, Sem.run_pure, hrb]
  · rename_i e' _ _ _ _ _ e u xs h1 h2
    split at h <;> try (cases h; done)
    rename_i p q hp hq
    split at h <;> try (cases h; done)
    rename_i hel
    cases h
    have hk : K ok w (.sl e u) xs [a.eval x] := opd1_ok (c := .sl e u xs) hN.E h2
    exact data ((hT t _ h1).sl rfl) hel rfl hk hp hq hb
  · rename_i e' _ _ _ _ _ l h1 h2
    have hu := (hT t _ h1).sl rfl
    obtain ⟨g1, g2, g3⟩ := opd1_ok hN.E h2
    split at h <;> try (cases h; done)
    · rename_i e u xs hl
      split at h <;> try (cases h; done)
      rename_i p q hp hq
      split at h <;> try (cases h; done)
      rename_i hel
      cases h
      simp only [Bool.and_eq_true, decide_eq_true_eq] at hb
      obtain ⟨c1, c2, c3⟩ := hb
      obtain ⟨i, hi1, hi2⟩ := el hel
      obtain ⟨_, inner, h3, h4⟩ := hN.H.ob l _ (hN.sub _ _ hl)
      rcases h3.2 with ⟨h5, h6⟩ | ⟨g, cap, cur, h5, _, h7, h8, _⟩
      · have hx : a.eval x = .slice none 0 0 := g2.trans h5
        have hrb := run_bounds hN (isS := true) (n := 0) (cap := 0) (Nat.le_refl _) hp (by rw [← h6]; exact hq) c1 c2 (by omega)
        refine OpOk.cell hN (run_slice hu (hT e' i hi1) ho hx hrb) ⟨g1, _, _, rfl, by omega, .inl (by omega)⟩
      · have hx : a.eval x = .slice (some ⟨g, 0, none⟩) xs.length cap := g2.trans h5
        have hrb := run_bounds hN (isS := true) h8 hp hq c1 c2 c3
        refine OpOk.cell hN (run_slice hu (hT e' i hi1) ho hx hrb) ⟨g1, _, _, rfl, by omega, ?_⟩
        by_cases he : q.toNat - p.toNat = 0
        · exact .inl he
        · refine .inr ⟨g, xs.length, cap, h5, ?_, by omega⟩
          rw [if_neg (by omega), hi2]
          simp [add_at]
    · rename_i e u xs hl
      split at h <;> try (cases h; done)
      rename_i p q hp hq
      split at h <;> try (cases h; done)
      rename_i hel
      cases h
      have hk : K ok w (.sl e u) xs [ρ l] := (hN.H.ob l _ (hN.sub _ _ hl)).2
      exact data hu hel g2 hk hp hq hb

theorem indexAddr_ok (cx : Cx) (hT : TabOk P cx.tab) (hN : Now P ρ ok w st a hp') {t : Nat} {x y : Operand} (ho : o.op = .indexAddr t x y) {r : Res} (h : evOp cx st.nx (.indexAddr t x y) (opd st.env) hp' = some r) (hb : r.c = true) : OpOk P o a ρ ok w st r := by
  have run : ∀ {e n : Nat} {k : IntKind} {j : Int} {A : Addr} {len cap : Nat}, P.underlying t = some (.slice e) → elemN cx e n = true → a.eval x = .slice (some A) len cap → a.eval y = .int k j → 0 ≤ j → j < len →
      (execOp a.eval o).run P w = .ok (.value (.pointer (some (A.add (j.toNat * n))))) w := by
    intro e n k j A len cap hu hel hx hy h0 h1
    unfold elemN at hel
    split at hel <;> try (cases hel; done)
    rename_i i hi
    have hel := Nat.eq_of_beq_eq_true hel
    subst hel
    simp only [execOp, ho, Instr.indexAt, hx, hy, asIntOf, Sem.run_bind, Sem.run_pure, Result.andThen_ok, run_underlying hu, h0, h1, and_self, if_true, run_sz w (hT e i hi)]
  have data : ∀ {e' e : Nat} {u : Ty} {xs : List u.T} {v : Value} {k : IntKind} {j : Int}, P.underlying t = some (.slice e') → elemN cx e' u.n = true → a.eval x = v → K ok w (.sl e u) xs [v] → a.eval y = .int k j →
      (decide (0 ≤ j) && decide (j < (xs.length : Int))) = true → OpOk P o a ρ ok w st ⟨(decide (0 ≤ j) && decide (j < (xs.length : Int))), some (.v false [.rdp u (xs.getD j.toNat u.z) 0]), [], 0⟩ := by
    intro e' e u xs v k j hu hel hx hk hy hc
    simp only [Bool.and_eq_true, decide_eq_true_eq] at hc
    obtain ⟨c1, c2⟩ := hc
    obtain ⟨A, cap, h1, h2, h3⟩ := hk
    injection h1 with h1
    subst h1
    rcases h3 with h3 | ⟨b, off, h4, h5, h6⟩
    · subst h3; simp at c2; omega
    · rw [h4] at hx
      obtain ⟨vs, g1, g2⟩ := h6 j.toNat _ (getD_some (by omega) u.z)
      refine OpOk.cell hN (run hu hel hx hy c1 c2) ⟨b, off + j.toNat * u.n, vs, ?_, h5, g1, g2⟩
      rw [add_at]; rfl
  have arr : ∀ {n e : Nat} {k : IntKind} {j : Int} {i : TI} {b o' : Nat}, P.underlying t = some (.array n e) → cx.tab e = some i → a.eval x = .pointer (some ⟨b, o', none⟩) → a.eval y = .int k j → 0 ≤ j → j < n →
      (execOp a.eval o).run P w = .ok (.value (.pointer (some ⟨b, o' + j.toNat * i.size, none⟩))) w := by
    intro n e k j i b o' hu hi hx hy h0 h1
    simp only [execOp, ho, Instr.indexAt, hx, hy, asIntOf, Instr.sureAddr, Sem.run_bind, Sem.run_pure, Result.andThen_ok, run_underlying hu, h0, h1, and_self, if_true, run_sz w (hT e i hi), add_at]
  simp only [evOp] at h
  split at h <;> try (cases h; done)
  · rename_i e' _ _ _ _ _ e u xs k j h1 h2 h3
    split at h <;> try (cases h; done)
    rename_i hel
    cases h
    have hk : K ok w (.sl e u) xs [a.eval x] := opd1_ok (c := .sl e u xs) hN.E h2
    exact data ((hT t _ h1).sl rfl) hel rfl hk (opd1_ok (c := .int k j) hN.E h3) hb
  · rename_i l _ j h1 h2 h3
    have hu := (hT t _ h1).sl rfl
    obtain ⟨g1, g2, g3⟩ := opd1_ok hN.E h2
    have hy : a.eval y = .int _ _ := opd1_ok (c := .int _ _) hN.E h3
    split at h <;> try (cases h; done)
    · rename_i e u xs hl
      split at h <;> try (cases h; done)
      rename_i hel
      cases h
      simp only [Bool.and_eq_true, decide_eq_true_eq] at hb
      obtain ⟨c1, c2⟩ := hb
      obtain ⟨_, inner, h4, h5⟩ := hN.H.ob l _ (hN.sub _ _ hl)
      rcases h4.2 with ⟨h6, h7⟩ | ⟨g, cap, cur, h6, _, h7, h8, _⟩
      · rw [h7] at c2; simp at c2; omega
      · have hx := g2.trans h6
        refine OpOk.cell hN (run hu hel hx hy c1 c2) ⟨g1, g, xs.length, cap, h6, by omega, ?_⟩
        rw [add_at]; simp
    · rename_i e u xs hl
      split at h <;> try (cases h; done)
      rename_i hel
      cases h
      have hk : K ok w (.sl e u) xs [ρ l] := (hN.H.ob l _ (hN.sub _ _ hl)).2
      exact data hu hel g2 hk hy hb
  · rename_i l n lo len _ j h1 h2 h3
    split at h <;> try (cases h; done)
    rename_i hel
    cases h
    have hu := (hT t _ h1).sl rfl
    obtain ⟨g1, A, cap, g2, g3, g4⟩ := opd1_ok hN.E h2
    have hy : a.eval y = .int _ _ := opd1_ok (c := .int _ _) hN.E h3
    simp only [Bool.and_eq_true, decide_eq_true_eq] at hb
    obtain ⟨c1, c2⟩ := hb
    rcases g4 with g4 | ⟨b, L, C, g5, g6, g7⟩
    · subst g4; simp at c2; omega
    · rw [g6] at g2
      refine OpOk.cell hN (run hu hel g2 hy c1 c2) ⟨g1, b, L, C, g5, by omega, ?_⟩
      rw [add_at, Nat.add_mul]; simp
  all_goals
    rename_i h1 h2 h3
    have hu := (hT t _ h1).arr rfl
    have hx := opd1_ok hN.E h2
    have hy : a.eval y = .int _ _ := opd1_ok (c := .int _ _) hN.E h3
    split at h <;> try (cases h; done)
    rename_i i hi
    cases h
    simp only [Bool.and_eq_true, decide_eq_true_eq] at hb
    obtain ⟨c1, c2⟩ := hb
  · obtain ⟨h4, b, h5, h6⟩ := hx
    exact OpOk.cell hN (arr hu hi h6 hy c1 c2) ⟨h4, b, h5, rfl⟩
  · obtain ⟨b, o', vs, h4, h5⟩ := hx
    exact OpOk.cell hN (arr hu hi h4 hy c1 c2) ⟨b, o', vs, by rw [Nat.add_assoc], h5⟩
  · obtain ⟨h4, b, L, C, h5, h6, h7⟩ := hx
    exact OpOk.cell hN (arr hu hi h7 hy c1 c2) ⟨h4, b, L, C, h5, h6, by rw [Nat.add_assoc]⟩
end
end Lv
