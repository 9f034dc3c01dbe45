import Derived.Test.YtnogebfcpicghaaGreatDoorK1
import Derived.Maps.RangeRun
import Derived.Handy
import Derived.Laws.IdiomRangeMap
set_option linter.all false
set_option linter.unusedVariables false
set_option linter.unusedSimpArgs false
set_option linter.unusedSectionVars false
set_option maxRecDepth 100000
namespace Go.Proofs.Ytnogebfcpicghaa
open Go Lv Go.Proofs Go.RowKit Go.Shelf
def fstC : Code → Code
  | .seq x _ => x
  | _ => .skip
def sndC : Code → Code
  | .seq _ y => y
  | _ => .skip
noncomputable def cc : Code := Tryz.f75.body.getD .skip
noncomputable def cR0 : Code := fstC cc
noncomputable def cLP : Code := fstC (sndC cc)
noncomputable def cRS : Code := sndC (sndC cc)
theorem cc_eq : cc = .seq cR0 (.seq cLP cRS) := by kernel_rfl
theorem ins_at {P : Program} (w : World) {t kt et : TypeId} (es : Array MapEntry) (c : Nat) (s : ByteArray) (v : Value) {n : Nat} (hn : n = w.heap.size) (hu : P.underlying t = some (.map kt et)) (huk : P.underlying kt = some .string)
    (hf : Instr.findNow .string (.string s) es.toList 0 = some none) :
    (Instr.mapUpdate t (.map (some n)) (.string s) v).run P (w.alloc (.map es c)) = .ok () (w.alloc (.map (es.push ⟨.string s, v, c⟩) (c + 1))) := by
  subst hn
  exact ins_new w es c s v hu huk hf
theorem p3a (h : Array Obj) (x y z : Obj) : (((h.push x).push y).push z)[h.size]? = some x := by
  simp only [Array.getElem?_push, Array.size_push, if_true]
  try (simp; try (intro h; omega))
theorem p3b (h : Array Obj) (x y z : Obj) : (((h.push x).push y).push z)[h.size + 1]? = some y := by
  simp only [Array.getElem?_push, Array.size_push, if_true]
  try (simp; try (intro h; omega))
theorem p3c (h : Array Obj) (x y z : Obj) : (((h.push x).push y).push z)[h.size + 1 + 1]? = some z := by
  simp only [Array.getElem?_push, Array.size_push, if_true]
  try (simp; try (intro h; omega))
theorem left_none {es : Array MapEntry} {seen : Array Nat} (h : (leftOf es seen).size = 0) {e : MapEntry} (he : e ∈ es.toList) : seen.contains e.born = true := by
  unfold leftOf at h
  have h := Array.eq_empty_of_size_eq_zero h
  rw [Array.filter_eq_empty_iff] at h
  have := h e (by simpa using he)
  simpa using this
theorem set_at {w : World} {r : Nat} {o o' : Obj} (h : w.heap[r]? = some o) : (ChangeMaps.setBlock w r o').heap[r]? = some o' := by
  have := (Array.getElem?_eq_some_iff.1 h).1
  simp [ChangeMaps.setBlock, this]
theorem set_ne {w : World} {r i : Nat} {o' : Obj} (h : r ≠ i) : (ChangeMaps.setBlock w r o').heap[i]? = w.heap[i]? := by
  simp [ChangeMaps.setBlock, Array.getElem?_setIfInBounds, h]
theorem set_n0 (w : World) (n : Nat) (o' : Obj) : (ChangeMaps.setBlock w (n + 1 + 1) o').heap[n]? = w.heap[n]? := set_ne (by omega)
theorem set_n1 (w : World) (n : Nat) (o' : Obj) : (ChangeMaps.setBlock w (n + 1 + 1) o').heap[n + 1]? = w.heap[n + 1]? := set_ne (by omega)
theorem set_b2 {w0 w : World} {n : Nat} {o' : Obj} (h : Below n w0 w) : Below n w0 (ChangeMaps.setBlock w (n + 1 + 1) o') :=
  ⟨h.os, h.tape, h.output, by simpa [ChangeMaps.setBlock] using h.size, fun k hk => (set_ne (by omega)).trans (h.block k hk)⟩
theorem cell_al {W : World} {n i : Nat} {vs : Array Value} {t : TypeId} {v : Value} (h : W.heap[n]? = some (.cells vs t)) (hv : vs[i]? = some v) (o : Obj) : (W.alloc o).cell? ⟨n, i, none⟩ = some v := by
  have hlt := (Array.getElem?_eq_some_iff.1 h).1
  have : (W.alloc o).heap[n]? = some (.cells vs t) := by
    show (W.heap.push o)[n]? = _
    rw [Array.getElem?_push, if_neg (by omega)]
    exact h
  simp [World.cell?, this, hv]
theorem heap_al {W : World} {n : Nat} {x : Obj} (h : W.heap[n]? = some x) (o : Obj) : (W.alloc o).heap[n]? = some x := by
  have hlt := (Array.getElem?_eq_some_iff.1 h).1
  show (W.heap.push o)[n]? = _
  rw [Array.getElem?_push, if_neg (by omega)]
  exact h
theorem ents_born : ∀ e ∈ ents.toList, ∀ f ∈ ents.toList, e.born = f.born → e = f := by
  intro e he f hf h
  have m3 : e ∈ [(⟨.string ⟨#[110, 117, 108, 108]⟩, .agg #[.int .i64 0, .int .i64 0, .string ⟨#[]⟩], 0⟩ : MapEntry), ⟨.string ⟨#[102, 97, 108, 115, 101]⟩, .agg #[.int .i64 1, .int .i64 0, .string ⟨#[]⟩], 1⟩, ⟨.string ⟨#[116, 114, 117, 101]⟩, .agg #[.int .i64 1, .int .i64 1, .string ⟨#[]⟩], 2⟩] := he
  have m4 : f ∈ [(⟨.string ⟨#[110, 117, 108, 108]⟩, .agg #[.int .i64 0, .int .i64 0, .string ⟨#[]⟩], 0⟩ : MapEntry), ⟨.string ⟨#[102, 97, 108, 115, 101]⟩, .agg #[.int .i64 1, .int .i64 0, .string ⟨#[]⟩], 1⟩, ⟨.string ⟨#[116, 114, 117, 101]⟩, .agg #[.int .i64 1, .int .i64 1, .string ⟨#[]⟩], 2⟩] := hf
  simp only [List.mem_cons, List.not_mem_nil, or_false] at m3 m4
  rcases m3 with rfl | rfl | rfl <;> rcases m4 with rfl | rfl | rfl <;> simp at h <;> rfl
theorem bnil {s : ByteArray} (h : s.toList = []) : s = ⟨#[]⟩ := by
  rw [ByteArray.toList_eq] at h
  exact Go.WideShapes.bytes_inj h
theorem set_below {w0 w : World} {n r : Nat} {o' : Obj} (h : Below n w0 w) (hr : n ≤ r) : Below n w0 (ChangeMaps.setBlock w r o') :=
  ⟨h.os, h.tape, h.output, by simpa [ChangeMaps.setBlock] using h.size, fun k hk => (set_ne (by omega)).trans (h.block k hk)⟩
theorem loop_wp (w : World) (a b : Int) (s : ByteArray) (Q : Exit → Act → World → Prop)
    (hn : ∀ (act : Act) (w1 : World), act.tmps.size = 25 → act.tmps[1]? = some (.pointer (some ⟨w.heap.size, 0, none⟩)) → act.defers = [] → Below w.heap.size w w1 → w1.heap[w.heap.size]? = some (.cells #[.int .i64 a, .int .i64 b, .string s] 51) → (∀ e ∈ ents.toList, e.val ≠ .agg #[.int .i64 a, .int .i64 b, .string s]) → Q .normal act w1)
    (hr : ∀ (act : Act) (w1 : World) (e : MapEntry), e ∈ ents.toList → e.val = .agg #[.int .i64 a, .int .i64 b, .string s] → act.tmps.size = 25 → act.tmps[2]? = some e.key → act.defers = [] → Below w.heap.size w w1 → Q .ret act w1) : cLP.wp Tryz.prog Q ⟨#[.agg #[.int .i64 a, .int .i64 b, .string s], .pointer (some ⟨w.heap.size, 0, none⟩), .string ⟨#[]⟩, undef, undef, undef, undef, undef, undef, undef, undef, undef, undef, undef, undef, undef, undef, undef, undef, undef, undef, undef, undef, undef, undef], []⟩ (w.alloc (.cells #[.int .i64 a, .int .i64 b, .string s] 51)) := by
  dsimp only [cLP, sndC, fstC, cc, Tryz.f75, Option.getD]
  go_wp2
  simp only [run_makeMap, Result.andThen]
  go_wp2
  rw [ins_at _ #[] 0 _ _ (by simp) (kt := 9) (et := 51) (by kernel_rfl) (by kernel_rfl) (by kernel_rfl)]
  simp only [Result.andThen]
  go_wp2
  rw [ins_at _ _ 1 _ _ (by simp) (kt := 9) (et := 51) (by kernel_rfl) (by kernel_rfl) (by kernel_rfl)]
  simp only [Result.andThen]
  go_wp2
  rw [ins_at _ _ 2 _ _ (by simp) (kt := 9) (et := 51) (by kernel_rfl) (by kernel_rfl) (by kernel_rfl)]
  simp only [Result.andThen]
  go_wp2
  rw [run_range_map _ 137 9 51 _ _ _ (by kernel_rfl) (by rw [show w.heap.size + 1 = (w.alloc (.cells #[.int .i64 a, .int .i64 b, .string s] 51)).heap.size by simp]; exact (MapKept.heap_alloc _ _).1)]
  simp only [Result.andThen]
  go_wp2
  refine wp_loop (fun a' w' => ∃ (x3 x4 x8 x9 x10 x11 x12 x13 x14 x15 : Value) (seen : Array Nat), a' = ⟨#[.agg #[.int .i64 a, .int .i64 b, .string s], .pointer (some ⟨w.heap.size, 0, none⟩), .string ⟨#[]⟩, x3, x4, undef, .map (some (w.heap.size + 1)), .pointer (some ⟨w.heap.size + 1 + 1, 0, none⟩), x8, x9, x10, x11, x12, x13, x14, x15, undef, undef, undef, undef, undef, undef, undef, undef, undef], []⟩ ∧
      w'.heap[w.heap.size]? = some (.cells #[.int .i64 a, .int .i64 b, .string s] 51) ∧ w'.heap[w.heap.size + 1]? = some (.map ents 3) ∧ w'.heap[w.heap.size + 1 + 1]? = some (.mapIter (some (w.heap.size + 1)) 3 seen 3) ∧ Below w.heap.size w w' ∧ (∀ e ∈ ents.toList, seen.contains e.born = true → e.val ≠ .agg #[.int .i64 a, .int .i64 b, .string s]))
    (fun _ w' => (leftOf ents (w'.iterSeen (w.heap.size + 1 + 1))).size) ⟨undef, undef, undef, undef, undef, undef, undef, undef, undef, undef, #[], rfl, ?_, ?_, ?_, ?_, ?_⟩ ?_
  · exact p3a _ _ _ _
  · exact p3b _ _ _ _
  · exact p3c _ _ _ _
  · refine (((Below.refl w.heap.size w).alloc (Nat.le_refl _) _).alloc (by simp) _).alloc (by simp; omega) _
  · intro e _ h
    simp at h
  rintro _ w1 ⟨x3, x4, x8, x9, x10, x11, x12, x13, x14, x15, seen, rfl, h1, h2, h3, hB, h4⟩
  go_wp2
  have c0 : w1.cell? ⟨w.heap.size, 0, none⟩ = some (.int .i64 a) := by simp [World.cell?, h1]
  have c1 : w1.cell? ⟨w.heap.size, 1, none⟩ = some (.int .i64 b) := by simp [World.cell?, h1]
  have c2 : w1.cell? ⟨w.heap.size, 2, none⟩ = some (.string s) := by simp [World.cell?, h1]
  rcases run_next_at (P := Tryz.prog) w1 0 _ _ _ _ _ _ _ h3 h2 (by decide) (by decide) with ⟨g1, g2⟩ | ⟨e, he, w2, hw2, g2⟩
  · rw [g2]
    simp only [Result.andThen]
    go_wp2
    refine hn _ _ rfl rfl rfl hB h1 fun e he => h4 e he ?_
    exact left_none g1 he
  · obtain ⟨m1, m2⟩ := mem_left he
    have hB2 : Below w.heap.size w w2 := by rcases hw2 with rfl | rfl; exact hB; exact hB.drew
    have k1 : w2.heap[w.heap.size]? = some (.cells #[.int .i64 a, .int .i64 b, .string s] 51) := by rcases hw2 with rfl | rfl; exact h1; exact h1
    have k2 : w2.heap[w.heap.size + 1]? = some (.map ents 3) := by rcases hw2 with rfl | rfl; exact h2; exact h2
    have k3 : w2.heap[w.heap.size + 1 + 1]? = some (.mapIter (some (w.heap.size + 1)) 3 seen 3) := by rcases hw2 with rfl | rfl; exact h3; exact h3
    rw [g2]
    clear g2 hw2 c0 c1 c2
    generalize hW : ChangeMaps.setBlock w2 (w.heap.size + 1 + 1) (.mapIter (some (w.heap.size + 1)) 3 (seen.push e.born) 3) = W
    have hB3 : Below w.heap.size w W := hW ▸ set_b2 hB2
    have j1 : W.heap[w.heap.size]? = some (.cells #[.int .i64 a, .int .i64 b, .string s] 51) := hW ▸ (set_n0 w2 w.heap.size _).trans k1
    have j2 : W.heap[w.heap.size + 1]? = some (.map ents 3) := hW ▸ (set_n1 w2 w.heap.size _).trans k2
    have j3 : W.heap[w.heap.size + 1 + 1]? = some (.mapIter (some (w.heap.size + 1)) 3 (seen.push e.born) 3) := hW ▸ set_at k3
    clear hW
    simp only [Result.andThen]
    go_wp2
    rw [run_entry_at W (w.heap.size + 1 + 1) (w.heap.size + 1) 3 seen ents 3 e j3 j2 m1 (by decide)]
    simp only [Result.andThen]
    have m3 : e ∈ [(⟨.string ⟨#[110, 117, 108, 108]⟩, .agg #[.int .i64 0, .int .i64 0, .string ⟨#[]⟩], 0⟩ : MapEntry), ⟨.string ⟨#[102, 97, 108, 115, 101]⟩, .agg #[.int .i64 1, .int .i64 0, .string ⟨#[]⟩], 1⟩, ⟨.string ⟨#[116, 114, 117, 101]⟩, .agg #[.int .i64 1, .int .i64 1, .string ⟨#[]⟩], 2⟩] := m1
    have hlt : w.heap.size < W.heap.size := by have := (Array.getElem?_eq_some_iff.1 j1).1; omega
    have c0 : ∀ o, (W.alloc o).cell? ⟨w.heap.size, 0, none⟩ = some (.int .i64 a) := cell_al j1 rfl
    have c1 : ∀ o, (W.alloc o).cell? ⟨w.heap.size, 1, none⟩ = some (.int .i64 b) := cell_al j1 rfl
    have c2 : ∀ o, (W.alloc o).cell? ⟨w.heap.size, 2, none⟩ = some (.string s) := cell_al j1 rfl
    have fin : ∀ o, e.val ≠ .agg #[.int .i64 a, .int .i64 b, .string s] → ((W.alloc o).heap[w.heap.size]? = some (.cells #[.int .i64 a, .int .i64 b, .string s] 51) ∧ (W.alloc o).heap[w.heap.size + 1]? = some (.map ents 3) ∧
        ∃ x, (W.alloc o).heap[w.heap.size + 1 + 1]? = some (.mapIter (some (w.heap.size + 1)) 3 x 3) ∧ Below w.heap.size w (W.alloc o) ∧ ∀ e ∈ ents.toList, x.contains e.born = true → e.val ≠ .agg #[.int .i64 a, .int .i64 b, .string s]) ∧
        (leftOf ents ((W.alloc o).iterSeen (w.heap.size + 1 + 1))).size < (leftOf ents (w1.iterSeen (w.heap.size + 1 + 1))).size := fun o hne => by
      have i3 : (W.alloc o).heap[w.heap.size + 1 + 1]? = some (.mapIter (some (w.heap.size + 1)) 3 (seen.push e.born) 3) := heap_al j3 o
      refine ⟨⟨heap_al j1 o, heap_al j2 o, _, i3, hB3.alloc (Nat.le_of_lt hlt) o, fun e' he' hs => ?_⟩, ?_⟩
      · by_cases hb : e'.born = e.born
        · have : e' = e := ents_born e' he' e m1 hb
          rw [this]; exact hne
        · refine h4 e' he' ?_
          simp only [Array.contains_push, Bool.or_eq_true, beq_iff_eq] at hs
          rcases hs with hs | hs
          · exact hs
          · exact absurd hs hb
      · have e1 : (W.alloc o).iterSeen (w.heap.size + 1 + 1) = seen.push e.born := by unfold World.iterSeen; rw [i3]
        have e2 : w1.iterSeen (w.heap.size + 1 + 1) = seen := by unfold World.iterSeen; rw [h3]
        rw [e1, e2]
        exact left_shrinks ents seen e he
    clear j2 j3 h1 h2 h3 hB h4 he m2
    simp only [List.mem_cons, List.not_mem_nil, or_false] at m3
    rcases m3 with rfl | rfl | rfl
    · have fin := fin (.cells #[.int .i64 0, .int .i64 0, .string ⟨#[]⟩] 51)
      go_wp2
      · rename_i q1 q2 q3
        have q3 := bnil q3
        subst q1; subst q2; subst q3
        exact hr _ _ _ m1 rfl rfl rfl rfl (hB3.alloc (Nat.le_of_lt hlt) _)
      · rename_i q1 q2 q3
        subst q1; subst q2
        obtain ⟨⟨f1, f2, x, f3, f4, f5⟩, f6⟩ := fin fun hh => by simp at hh; exact q3 (by rw [← hh]; exact ByteArray.toList_eq _)
        exact ⟨⟨(Array.getElem?_eq_some_iff.1 f1).2, (Array.getElem?_eq_some_iff.1 f2).2, x, f3, f4, by simpa using f5⟩, f6⟩
      · rename_i q1 q2
        subst q1
        obtain ⟨⟨f1, f2, x, f3, f4, f5⟩, f6⟩ := fin fun hh => by simp at hh; exact q2 hh.1.symm
        exact ⟨⟨(Array.getElem?_eq_some_iff.1 f1).2, (Array.getElem?_eq_some_iff.1 f2).2, x, f3, f4, by simpa using f5⟩, f6⟩
      · rename_i q1
        obtain ⟨⟨f1, f2, x, f3, f4, f5⟩, f6⟩ := fin fun hh => by simp at hh; exact q1 hh.1.symm
        exact ⟨⟨(Array.getElem?_eq_some_iff.1 f1).2, (Array.getElem?_eq_some_iff.1 f2).2, x, f3, f4, by simpa using f5⟩, f6⟩
    · have fin := fin (.cells #[.int .i64 1, .int .i64 0, .string ⟨#[]⟩] 51)
      go_wp2
      · rename_i q1 q2 q3
        have q3 := bnil q3
        subst q1; subst q2; subst q3
        exact hr _ _ _ m1 rfl rfl rfl rfl (hB3.alloc (Nat.le_of_lt hlt) _)
      · rename_i q1 q2 q3
        subst q1; subst q2
        obtain ⟨⟨f1, f2, x, f3, f4, f5⟩, f6⟩ := fin fun hh => by simp at hh; exact q3 (by rw [← hh]; exact ByteArray.toList_eq _)
        exact ⟨⟨(Array.getElem?_eq_some_iff.1 f1).2, (Array.getElem?_eq_some_iff.1 f2).2, x, f3, f4, by simpa using f5⟩, f6⟩
      · rename_i q1 q2
        subst q1
        obtain ⟨⟨f1, f2, x, f3, f4, f5⟩, f6⟩ := fin fun hh => by simp at hh; exact q2 hh.1.symm
        exact ⟨⟨(Array.getElem?_eq_some_iff.1 f1).2, (Array.getElem?_eq_some_iff.1 f2).2, x, f3, f4, by simpa using f5⟩, f6⟩
      · rename_i q1
        obtain ⟨⟨f1, f2, x, f3, f4, f5⟩, f6⟩ := fin fun hh => by simp at hh; exact q1 hh.1.symm
        exact ⟨⟨(Array.getElem?_eq_some_iff.1 f1).2, (Array.getElem?_eq_some_iff.1 f2).2, x, f3, f4, by simpa using f5⟩, f6⟩
    · have fin := fin (.cells #[.int .i64 1, .int .i64 1, .string ⟨#[]⟩] 51)
      go_wp2
      · rename_i q1 q2 q3
        have q3 := bnil q3
        subst q1; subst q2; subst q3
        exact hr _ _ _ m1 rfl rfl rfl rfl (hB3.alloc (Nat.le_of_lt hlt) _)
      · rename_i q1 q2 q3
        subst q1; subst q2
        obtain ⟨⟨f1, f2, x, f3, f4, f5⟩, f6⟩ := fin fun hh => by simp at hh; exact q3 (by rw [← hh]; exact ByteArray.toList_eq _)
        exact ⟨⟨(Array.getElem?_eq_some_iff.1 f1).2, (Array.getElem?_eq_some_iff.1 f2).2, x, f3, f4, by simpa using f5⟩, f6⟩
      · rename_i q1 q2
        subst q1
        obtain ⟨⟨f1, f2, x, f3, f4, f5⟩, f6⟩ := fin fun hh => by simp at hh; exact q2 hh.1.symm
        exact ⟨⟨(Array.getElem?_eq_some_iff.1 f1).2, (Array.getElem?_eq_some_iff.1 f2).2, x, f3, f4, by simpa using f5⟩, f6⟩
      · rename_i q1
        obtain ⟨⟨f1, f2, x, f3, f4, f5⟩, f6⟩ := fin fun hh => by simp at hh; exact q1 hh.1.symm
        exact ⟨⟨(Array.getElem?_eq_some_iff.1 f1).2, (Array.getElem?_eq_some_iff.1 f2).2, x, f3, f4, by simpa using f5⟩, f6⟩
end Go.Proofs.Ytnogebfcpicghaa
