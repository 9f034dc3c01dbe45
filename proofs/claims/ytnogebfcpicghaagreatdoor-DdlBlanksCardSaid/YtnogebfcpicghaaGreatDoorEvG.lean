import Derived.Test.YtnogebfcpicghaaGreatDoorEvF
set_option linter.all false
set_option linter.unusedVariables false
set_option linter.unusedSimpArgs false
set_option linter.unusedSectionVars false
namespace Lv
variable [HasG]
open Go Go.RowKit
section
variable {P : Program} {o : Oper} {a : Act} {ρ : Nat → Value} {ok : Nat → Prop} {w : World} {st : St} {hp' : Heap}

/-! ### laying parts into cells -/
theorem foldl_set (off : Nat) : ∀ (l : List Value) (k : Nat) (cells : Array Value), off + k + l.length ≤ cells.size →
    (((l.zipIdx k).foldl (fun cs (p : Value × Nat) => cs.setIfInBounds (off + p.2) p.1) cells).toList = cells.toList.take (off + k) ++ l ++ cells.toList.drop (off + k + l.length))
  | [], k, cells, h => by simp
  | v :: r, k, cells, h => by
    simp only [List.zipIdx_cons, List.foldl_cons]
    simp only [List.length_cons] at h
    rw [foldl_set off r (k + 1) _ (by simp; omega)]
    simp only [Array.toList_setIfInBounds]
    have h1 : off + k < cells.toList.length := by simp; omega
    rw [show off + (k + 1) = off + k + 1 by omega, List.take_set, List.drop_set_of_lt (by omega)]
    rw [List.length_cons, show off + k + 1 + r.length = off + k + (r.length + 1) by omega]
    rw [List.take_succ_eq_append_getElem h1, List.set_append_right _ _ (by simp; omega)]
    have : off + k - (cells.toList.take (off + k)).length = 0 := by simp; omega
    rw [this]
    simp

theorem fill_cons (place : Nat → Option (Nat × Nat)) (cells : Array Value) (i : Nat) (v : Value) (rest : List (Nat × Value)) {off size : Nat} (hp : place i = some (off, size)) (hs : v.cells.size = size) (hle : off + size ≤ cells.size) :
    ∃ cells' : Array Value, Instr.fill place cells ((i, v) :: rest) = Instr.fill place cells' rest ∧ cells'.toList = cells.toList.take off ++ v.cells.toList ++ cells.toList.drop (off + size) := by
  refine ⟨v.cells.zipIdx.foldl (fun cs (p : Value × Nat) => cs.setIfInBounds (off + p.2) p.1) cells, ?_, ?_⟩
  · rw [Instr.fill, hp]
    simp only
    rw [if_neg (by simp [hs]; omega)]
  · have := foldl_set off v.cells.toList 0 cells (by simp [hs]; omega)
    simp only [Nat.add_zero] at this
    rw [← Array.foldl_toList, Array.toList_zipIdx]
    simpa [hs] using this

theorem run_mapM_sizes : ∀ (gs : List Field), (∀ g ∈ gs, 0 < P.cellsOf g.type) → (gs.mapM (fun f => do pure (f.offset, ← Go.sizeOf f.type) : Field → Sem (Nat × Nat))).run P w = .ok (gs.map fun f => (f.offset, P.cellsOf f.type)) w
  | [], _ => rfl
  | g :: r, h => by
    have hg := h g (by simp)
    have hi : ∃ info, P.info? g.type = some info := by
      unfold Program.cellsOf at hg
      cases hi : P.info? g.type with
      | none => simp [hi] at hg
      | some info => exact ⟨info, rfl⟩
    obtain ⟨info, hi⟩ := hi
    have hs : (Go.sizeOf g.type).run P w = .ok (P.cellsOf g.type) w := by simp [Go.sizeOf, typeInfo, hi, Program.cellsOf]
    rw [List.mapM_cons]
    simp only [Sem.run_bind, hs, Result.andThen_ok, Sem.run_pure, run_mapM_sizes r fun g hg => h g (List.mem_cons_of_mem _ hg), List.map_cons]

theorem fillC_ok (cx : Cx) (hT : TabOk P cx.tab) (hN : Now P ρ ok w st a hp') {fs : List (Nat × Nat)} (place : Nat → Option (Nat × Nat))
    (hpl : ∀ (j t off : Nat), fs[j]? = some (t, off) → place j = some (off, P.cellsOf t)) :
    ∀ (parts : List (Nat × Operand)) (cs : List Cell) (cells : Array Value) (r : List Cell), All2 (CellR ρ ok w st.nx) cs cells.toList → fillC (opd st.env) fs cx.tab cs parts = some r →
      ∃ cells', Instr.fill place cells (parts.map fun (i, x) => (i, a.eval x)) = some cells' ∧ All2 (CellR ρ ok w st.nx) r cells'.toList
  | [], cs, cells, r, hc, h => by cases h; exact ⟨cells, rfl, hc⟩
  | (j, x) :: rest, cs, cells, r, hc, h => by
    simp only [fillC] at h
    split at h <;> try (cases h; done)
    rename_i t off ds h1 h2
    split at h <;> try (cases h; done)
    rename_i i hi
    split at h <;> try (cases h; done)
    rename_i hd
    split at h <;> try (cases h; done)
    rename_i hle
    have hd := Nat.eq_of_beq_eq_true hd
    have hle := Nat.le_of_ble_eq_true hle
    obtain ⟨us, h3, h4⟩ := opdCs_ok hN.E h2
    have hlen := h4.len
    have hcl := hc.len
    have hsz : (a.eval x).cells.size = i.size := by rw [← hd, hlen, ← h3]; simp
    have hp1 := hpl j t off h1
    rw [cellsOf_sz (hT t i hi)] at hp1
    obtain ⟨cells', e1, e2⟩ := fill_cons place cells j (a.eval x) (rest.map fun (i, x) => (i, a.eval x)) hp1 hsz (by simp at hcl; omega)
    have hc' : All2 (CellR ρ ok w st.nx) (splice cs off ds) cells'.toList := by
      rw [e2, h3, ← hd]
      exact All2.splice hc h4 off
    obtain ⟨c2, e3, e4⟩ := fillC_ok cx hT hN place hpl rest _ cells' r hc' h
    exact ⟨c2, by rw [List.map_cons]; exact e1.trans e3, e4⟩

theorem arrFs_get {n e size j t off : Nat} (h : (arrFs n e size)[j]? = some (t, off)) : t = e ∧ off = j * size := by
  unfold arrFs at h
  rw [List.getElem?_map] at h
  cases hj : (List.range n)[j]? with
  | none => rw [hj] at h; cases h
  | some k =>
    rw [hj] at h
    obtain ⟨h1, h2⟩ := List.getElem?_eq_some_iff.1 hj
    simp at h2
    subst h2
    cases h
    exact ⟨rfl, rfl⟩

theorem build_ok (cx : Cx) (hT : TabOk P cx.tab) (hN : Now P ρ ok w st a hp') {t : Nat} {parts : Array (Nat × Operand)} (ho : o.op = .build t parts) {r : Res} (h : evOp cx st.nx (.build t parts) (opd st.env) hp' = some r) : OpOk P o a ρ ok w st r := by
  simp only [evOp] at h
  split at h <;> try (cases h; done)
  · rename_i fs size bytes cap zero ty hi
    split at h <;> try (cases h; done)
    rename_i cs hf
    cases h
    have hTI := hT t _ hi
    obtain ⟨gs, h1, h2⟩ := hTI.st rfl
    obtain ⟨z, hz, hzc⟩ := run_zero w hTI
    have hpos : ∀ g ∈ gs.toList, 0 < P.cellsOf g.type := by
      intro g hg
      obtain ⟨j, hj⟩ := List.getElem?_of_mem hg
      have hlen := fieldsB_len h2
      have hjl := (List.getElem?_eq_some_iff.1 hj).1
      obtain ⟨p, hp⟩ : ∃ p, fs[j]? = some p := ⟨fs[j]'(by omega), List.getElem?_eq_getElem (by omega)⟩
      obtain ⟨u, off⟩ := p
      obtain ⟨g', h3, h4, h5⟩ := fieldsB_get h2 j u off hp
      rw [hj] at h3; cases h3
      rw [h4]
      exact hTI.fs fs rfl (u, off) (List.mem_of_getElem? hp)
    have hpl := run_mapM_sizes (P := P) (w := w) gs.toList hpos
    have hzall : All2 (CellR ρ ok w st.nx) (zero.map Cell.of) z.cells.toList := by rw [hzc]; exact of_all hTI.z1
    obtain ⟨cells', e1, e2⟩ := fillC_ok cx hT hN (fun i => ((gs.toList.map fun f => (f.offset, P.cellsOf f.type)).toArray)[i]?) (fun j t off hg => by
      obtain ⟨g, g1, g2, g3⟩ := fieldsB_get h2 j t off hg
      simp only [List.getElem?_toArray, List.getElem?_map, g1, Option.map_some, g2, g3]) parts.toList _ z.cells cs hzall hf
    refine OpOk.pure hN (v := .agg cells') ?_ fun s hs => by cases hs; exact ⟨cells'.toList, by simp, e2⟩
    simp only [execOp, ho, Instr.build, Sem.run_bind, hz, Result.andThen_ok, run_underlying h1, Array.mapM_eq_mapM_toList, Sem.run_map, hpl, Array.toList_map, e1, Sem.run_pure]
  · rename_i n e size bytes cap zero ty hi
    split at h <;> try (cases h; done)
    rename_i j hj
    split at h <;> try (cases h; done)
    rename_i cs hf
    cases h
    have hTI := hT t _ hi
    have h1 := hTI.arr rfl
    have hTe := hT e _ hj
    obtain ⟨z, hz, hzc⟩ := run_zero w hTI
    have hzall : All2 (CellR ρ ok w st.nx) (zero.map Cell.of) z.cells.toList := by rw [hzc]; exact of_all hTI.z1
    obtain ⟨cells', e1, e2⟩ := fillC_ok cx hT hN (fun i => some (i * j.size, j.size)) (fun k t off hg => by
      obtain ⟨rfl, rfl⟩ := arrFs_get hg
      rw [cellsOf_sz hTe]) parts.toList _ z.cells cs hzall hf
    refine OpOk.pure hN (v := .agg cells') ?_ fun s hs => by cases hs; exact ⟨cells'.toList, by simp, e2⟩
    simp only [execOp, ho, Instr.build, Sem.run_bind, hz, Result.andThen_ok, run_underlying h1, run_sz w hTe, Array.toList_map, e1, Sem.run_pure]

theorem field_ok (cx : Cx) (hT : TabOk P cx.tab) (hN : Now P ρ ok w st a hp') {t : Nat} {x : Operand} {f : Nat} (ho : o.op = .field t x f) {r : Res} (h : evOp cx st.nx (.field t x f) (opd st.env) hp' = some r) : OpOk P o a ρ ok w st r := by
  simp only [evOp] at h
  split at h <;> try (cases h; done)
  rename_i fs size bytes cap zero ty cs hi hx
  split at h <;> try (cases h; done)
  rename_i u off hf
  split at h <;> try (cases h; done)
  rename_i i hu
  obtain ⟨gs, h1, h2⟩ := (hT t _ hi).st rfl
  obtain ⟨g, h3, h4, h5⟩ := fieldsB_get h2 f u off hf
  have h6 : gs[f]? = some g := by simpa using h3
  obtain ⟨vs, h7, h8⟩ := opd_ok hN.E hx
  unfold loadFrom at h
  split at h <;> try (cases h; done)
  rename_i hle
  have hle := Nat.le_of_ble_eq_true hle
  have hl := h8.len
  have hc' := (h8.drop off).take i.size
  have hTI := hT u i hu
  split at h
  · rename_i ha
    cases h
    refine OpOk.pure hN (v := .agg ((vs.drop off).take i.size).toArray) ?_ fun s hs => by cases hs; exact ⟨_, rfl, hc'⟩
    simp only [execOp, ho, Instr.field, Sem.run_bind, run_underlying h1, Result.andThen_ok, h6, h7, asAgg, Sem.run_pure, part, h4, h5, run_agg w hTI, ha, if_true, run_sz w hTI]
    congr 3
    apply Array.ext'
    simp [Array.toList_extract, List.extract_eq_take_drop]
  · rename_i ha
    cases h
    have h1' : i.size = 1 := hTI.one.resolve_left ha
    have hg : vs[off]? = some (vs[off]'(by omega)) := List.getElem?_eq_getElem (by omega)
    have hd : (vs.drop off).take 1 = [vs[off]'(by omega)] := by
      rw [List.drop_eq_getElem_cons (by omega)]; rfl
    have hdc : (cs.drop off).take 1 = [cs[off]'(by omega)] := by
      rw [List.drop_eq_getElem_cons (by omega)]; rfl
    rw [h1', hd, hdc] at hc'
    rw [h1', hdc]
    obtain ⟨v, e, hv⟩ := hc'.one
    cases e
    refine OpOk.cell hN (v := vs[off]'(by omega)) ?_ hv
    simp only [execOp, ho, Instr.field, Sem.run_bind, run_underlying h1, Result.andThen_ok, h6, h7, asAgg, Sem.run_pure, part, h4, h5, run_agg w hTI, ha, if_false, List.getElem?_toArray, hg]
    rfl
end
end Lv
