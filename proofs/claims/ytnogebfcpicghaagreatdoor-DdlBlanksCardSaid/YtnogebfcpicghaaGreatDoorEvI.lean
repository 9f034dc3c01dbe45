import Derived.Test.YtnogebfcpicghaaGreatDoorEvH
import Derived.MapKept
set_option linter.all false
set_option linter.unusedVariables false
set_option linter.unusedSimpArgs false
set_option linter.unusedSectionVars false
namespace Lv
variable [HasG]
open Go Go.RowKit
section
variable {P : Program} {o : Oper} {a : Act} {ρ : Nat → Value} {ok : Nat → Prop} {w : World} {st : St} {hp' : Heap}

theorem len_ok (cx : Cx) (hT : TabOk P cx.tab) (hN : Now P ρ ok w st a hp') {args : Array Operand} {ts : Array TypeId} (ho : o.op = .call { callee := .builtin .len, args, argTypes := ts }) {r : Res}
    (h : evOp cx st.nx (.call { callee := .builtin .len, args, argTypes := ts }) (opd st.env) hp' = some r) : OpOk P o a ρ ok w st r := by
  simp only [evOp] at h
  split at h <;> try (cases h; done)
  rename_i t x h1 h2
  have e1 : ts = #[t] := by apply Array.ext'; simpa using h1
  have e2 : args = #[x] := by apply Array.ext'; simpa using h2
  subst e1 e2
  have run : ∀ {n : Int}, (Builtin.len_ #[t] o.type #[a.eval x]).run P w = .ok (.int .i64 n) w → (execOp a.eval o).run P w = .ok (.value (.int .i64 n)) w := by
    intro n hn
    simp only [execOp, ho, resolve, Sem.run_bind, Sem.run_pure, Result.andThen_ok, invoke, builtin, List.map_toArray, List.map_cons, List.map_nil, hn]
  split at h <;> try (cases h; done)
  · rename_i e _ _ _ _ _ c h3 h4
    have hu := (hT t _ h3).sl rfl
    split at h <;> try (cases h; done)
    rename_i n hn
    cases h
    have hc := opd1_ok hN.E h4
    have key : ∃ A cap, a.eval x = .slice A n cap := by
      unfold sliceLen at hn
      split at hn <;> try (cases hn; done)
      · rename_i e u xs
        cases hn
        obtain ⟨A, cap, h5, _⟩ := hc
        injection h5 with h5
        exact ⟨A, cap, h5⟩
      · rename_i l
        split at hn <;> try (cases hn; done)
        · rename_i hl
          cases hn
          obtain ⟨_, inner, h5, _⟩ := hN.H.ob l _ (hN.sub _ _ hl)
          rcases h5.2 with ⟨h6, h7⟩ | ⟨g, cap, cur, h6, _⟩
          · exact ⟨none, 0, by rw [h7]; exact hc.2.1.trans h6⟩
          · exact ⟨_, cap, hc.2.1.trans h6⟩
        · rename_i hl
          cases hn
          obtain ⟨_, A, cap, h5, _⟩ := hN.H.ob l _ (hN.sub _ _ hl)
          injection h5 with h5
          exact ⟨A, cap, hc.2.1.trans h5⟩
      · cases hn
        obtain ⟨_, A, cap, h5, _⟩ := hc
        exact ⟨A, cap, h5⟩
      · cases hn
        exact ⟨none, 0, hc.1⟩
    obtain ⟨A, cap, hx⟩ := key
    refine OpOk.cell hN (run (n := n) ?_) rfl
    rw [hx]
    simp [Builtin.len_, run_underlying hu, goInt]
  · rename_i s h3 h4
    cases h
    have hu := (hT t _ h3).str rfl
    have hx : a.eval x = .string s := opd1_ok (c := .str s) hN.E h4
    refine OpOk.cell hN (run (n := s.size) ?_) rfl
    rw [hx]
    simp [Builtin.len_, run_underlying hu, goInt]

/-! ### append -/
theorem Rows.sub {t : Ty} {xs : List t.T} {vs : List Value} (h : Rows ok w t xs vs) (lo len : Nat) : Rows ok w t ((xs.drop lo).take len) ((vs.drop (lo * t.n)).take (len * t.n)) := by
  obtain ⟨css, rfl, h⟩ := h
  have drop : ∀ (lo : Nat) {xs : List t.T} {css : List (List Value)}, All2 (K ok w t) xs css → css.flatten.drop (lo * t.n) = (css.drop lo).flatten := by
    intro lo
    induction lo with
    | zero => intro xs css _; simp
    | succ lo ih =>
      intro xs css h
      cases h with
      | nil => simp
      | @cons x c xr cr hc hr =>
        have hl := K_len hc
        simp only [List.flatten_cons, List.drop_succ_cons]
        rw [show (lo + 1) * t.n = c.length + lo * t.n by rw [hl, Nat.add_mul]; omega, List.drop_length_add_append, ih hr]
  have take : ∀ (len : Nat) {xs : List t.T} {css : List (List Value)}, All2 (K ok w t) xs css → css.flatten.take (len * t.n) = (css.take len).flatten := by
    intro len
    induction len with
    | zero => intro xs css _; simp
    | succ len ih =>
      intro xs css h
      cases h with
      | nil => simp
      | @cons x c xr cr hc hr =>
        have hl := K_len hc
        simp only [List.flatten_cons, List.take_succ_cons]
        rw [show (len + 1) * t.n = c.length + len * t.n by rw [hl, Nat.add_mul]; omega, List.take_length_add_append, ih hr]
  exact ⟨(css.drop lo).take len, by rw [drop lo h, take len (h.drop lo)], (h.drop lo).take len⟩

/-- what is appended: its cells, and how they are read -/
def Src (P : Program) (ok : Nat → Prop) (w : World) (t : Ty) (ys : List t.T) (v : Value) : Prop := ∃ A c news, v = .slice A ys.length c ∧ Rows ok w t ys news ∧
    (∀ w' : World, w'.heap = w.heap → (Builtin.firstCells t.n ys.length v).run P w' = .ok news.toArray w')

theorem src_at {t : Ty} {ys : List t.T} {b off c : Nat} {news : List Value} (hr : Rows ok w t ys news) (h : ∀ j v, news[j]? = some v → w.cell? ⟨b, off + j, none⟩ = some v) : Src P ok w t ys (.slice (some ⟨b, off, none⟩) ys.length c) :=
  ⟨_, c, news, rfl, hr, fun w' hw => run_firstCells_some w' t.n ys.length ⟨b, off, none⟩ ys.length c news hr.len fun j v hj => by
    rw [add_at, World.cell?_of_block (w := w) (a := ⟨b, off + j, none⟩) (by rw [hw])]
    exact h j v hj⟩
theorem src_none {t : Ty} {ys : List t.T} {A : Option Addr} {c : Nat} (h : ys = []) : Src P ok w t ys (.slice A ys.length c) := by
  subst h
  refine ⟨A, c, [], rfl, ⟨[], rfl, .nil⟩, fun w' _ => ?_⟩
  cases A <;> simp [Builtin.firstCells, loadCells, loadCellsFrom]

theorem src_K {e : Nat} {t : Ty} {ys : List t.T} {v : Value} (hk : K ok w (.sl e t) ys [v]) : Src P ok w t ys v := by
  obtain ⟨A, cap, h1, h2, h3⟩ := hk
  injection h1 with h1
  subst h1
  rcases h3 with h3 | ⟨b, off, h4, h5, h6⟩
  · exact src_none h3
  · subst h4
    have key : ∀ (zs : List t.T) (k : Nat), (∀ i x, zs[i]? = some x → ∃ cs, K ok w t x cs ∧ ∀ j v, cs[j]? = some v → w.cell? ⟨b, off + (k + i) * t.n + j, none⟩ = some v) →
        ∃ news, Rows ok w t zs news ∧ ∀ j v, news[j]? = some v → w.cell? ⟨b, off + k * t.n + j, none⟩ = some v := by
      intro zs
      induction zs with
      | nil => intro k _; exact ⟨[], ⟨[], rfl, .nil⟩, fun j v hj => by simp at hj⟩
      | cons z r ih =>
        intro k hk
        obtain ⟨cs, c1, c2⟩ := hk 0 z rfl
        obtain ⟨nr, n1, n2⟩ := ih (k + 1) fun i x hi => by
          obtain ⟨cs, c1, c2⟩ := hk (i + 1) x (by simpa using hi)
          exact ⟨cs, c1, fun j v hj => by have := c2 j v hj; rwa [show k + (i + 1) = k + 1 + i by omega] at this⟩
        have hl := K_len c1
        refine ⟨cs ++ nr, Rows.app (xs := [z]) ⟨[cs], by simp, .cons c1 .nil⟩ n1, fun j v hj => ?_⟩
        rw [List.getElem?_append] at hj
        split at hj
        · have := c2 j v hj; simpa using this
        · have := n2 _ v hj
          rw [hl] at this hj
          have hle : t.n ≤ j := by omega
          rwa [show off + (k + 1) * t.n + (j - t.n) = off + k * t.n + j by rw [Nat.add_mul]; omega] at this
    obtain ⟨news, n1, n2⟩ := key ys 0 fun i x hi => by simpa using h6 i x hi
    exact src_at n1 fun j v hj => by have := n2 j v hj; rwa [Nat.zero_mul, Nat.add_zero] at this

theorem src_ok (hN : Now P ρ ok w st a hp') {e : Nat} {t : Ty} {c : Cell} {ys : List t.T} {v : Value} (hc : CellR ρ ok w st.nx c v) (h : coSl e t hp' c = some ys) : Src P ok w t ys v := by
  cases c with
  | sl f u zs =>
    obtain ⟨rfl, rfl, h⟩ := sameSl_some h
    cases h
    exact src_K (e := e) hc
  | ref l =>
    simp only [coSl] at h
    obtain ⟨h1, rfl, h3⟩ := hc
    split at h
    · rename_i f u zs hl
      obtain ⟨rfl, rfl, h⟩ := sameSl_some h
      cases h
      obtain ⟨_, inner, h4, h5⟩ := hN.H.ob l _ (hN.sub _ _ hl)
      rcases h4.2 with ⟨h6, h7⟩ | ⟨g, cap, cur, h6, h7⟩
      · rw [h6]
        have := src_none (P := P) (ok := ok) (w := w) (A := none) (c := 0) (List.eq_nil_of_length_eq_zero h7)
        rwa [h7] at this
      · rw [h6]
        exact src_at h5 fun j v hj => by
          have := h4.cells (g := g) (by rw [h6]; rfl) j v hj
          rwa [add_at] at this
    · rename_i f u zs hl
      obtain ⟨rfl, rfl, h⟩ := sameSl_some h
      cases h
      exact src_K (e := e) (hN.H.ob l _ (hN.sub _ _ hl)).2
    · cases h
  | sub l n lo len =>
    simp only [coSl] at h
    obtain ⟨h1, A, cap, rfl, h3, h4⟩ := hc
    split at h
    · rename_i f u zs hl
      split at h <;> try (cases h; done)
      rename_i hnu
      have hnu := Nat.eq_of_beq_eq_true hnu
      obtain ⟨rfl, rfl, h⟩ := sameSl_some h
      cases h
      obtain ⟨_, inner, h5, h6⟩ := hN.H.ob l _ (hN.sub _ _ hl)
      rcases h4 with rfl | ⟨b, L, C, h7, h8, h9⟩
      · have := src_none (P := P) (ok := ok) (w := w) (A := A) (c := cap) (ys := (zs.drop lo).take 0) (by simp)
        simpa using this
      · subst h8
        rcases h5.2 with ⟨g1, g2⟩ | ⟨g, cap', cur, g1, g2⟩
        · rw [h7] at g1; cases g1
        · rw [h7] at g1
          injection g1 with e1 e2 e3
          injection e1 with e1
          injection e1 with e1
          subst e1 e2
          have hlen : ((zs.drop lo).take len).length = len := by simp; omega
          have := src_at (P := P) (b := b) (off := lo * n) (c := cap) (h6.sub lo len) fun j v hj => by
            rw [List.getElem?_take] at hj
            split at hj
            · rw [List.getElem?_drop] at hj
              have := h5.cells (g := b) (by rw [h7]; rfl) _ v hj
              rwa [add_at, Nat.zero_add, ← hnu] at this
            · cases hj
          rwa [hlen] at this
    · rename_i f u zs hl
      split at h <;> try (cases h; done)
      rename_i hnu
      refine src_K (e := e) (coSl_ok hN.H hN.sub (fun _ h => h) (c := .sub l n lo len) ⟨h1, A, cap, rfl, h3, h4⟩ (fun l' f' u' ys' hl' hc' b hb => ?_) (hp' := hp') ?_)
      · rcases hc' with hc' | ⟨n', lo', len', hc'⟩
        · cases hc'
        · injection hc' with e1
          subst e1
          rw [hl] at hl'; cases hl'
      · simp only [coSl, hl, hnu, if_true]; exact h
    · cases h
  | val u =>
    obtain ⟨rfl, h1⟩ := hc
    unfold coSl at h
    split at h <;> rename_i heq <;> first | (cases heq; done) | (cases h; done) | skip
    all_goals first | (cases heq; cases h; exact src_none rfl) | skip
  | _ => cases h

theorem append_run {t ty e : Nat} {i : TypeInfo} {z : Value} {size bytes : Nat} (hu : P.underlying t = some (.slice e)) (hi : P.info? e = some i) (hz : i.zero = some z) (hsize : i.size = size) (hby : i.bytes = bytes) (hzs : z.cells.size = size) (hsz : 0 < size)
    {v x : Value} {n m c : Nat} {A : Option Addr} {xs news : List Value} (hown : w.ownsRow 0 e size v n xs) (hx : x = .slice A m c) (hl : news.length = m * size)
    (hf : ∀ w' : World, w'.heap = w.heap → (Builtin.firstCells size m x).run P w' = .ok news.toArray w') (h1 : ∀ u ∈ news, u.oneCell' = true) (hnm : n + m ≤ 140737488355328) (hbytes : (n + m) * bytes ≤ 140737488355328) :
    ∃ v' w', (Builtin.append_ #[t, t] ty #[v, x]).run P w = .ok v' w' ∧ w'.ownsRow 0 e size v' (n + m) (xs ++ news) ∧ w'.os = w.os ∧ w'.tape = w.tape ∧ Quiet w w' ∧ w.heap.size ≤ w'.heap.size ∧
      (∀ b, b < w.heap.size → blk v ≠ some b → w'.heap[b]? = w.heap[b]?) ∧ (∀ b, blk v' = some b → w.heap.size ≤ b ∨ blk v = some b) := by
  subst hsize hby hx
  have hlen : (xs ++ news).length = (n + m) * i.size := by rw [List.length_append, hown.1, hl, Nat.add_mul]
  have hml : n + m ≤ maxLen := by simp only [maxLen]; omega
  -- a new block
  have grown : ∀ (old : Nat), old < n + m →
      (w.drew.alloc (.cells (xs.toArray ++ news.toArray ++ Builtin.zeroCells z.cells (grownCap w (n + m) old e - (n + m))) e)).ownsRow 0 e i.size
        (.slice (some ⟨w.heap.size, 0, none⟩) (n + m) (grownCap w (n + m) old e)) (n + m) (xs ++ news) := by
    intro old ho
    have hge := grownCap_ge w (n + m) old e
    have hcm : grownCap w (n + m) old e ≤ maxLen := grownCap_le_maxLen w (n + m) old e hml
    refine ⟨hlen, .inr ⟨w.heap.size, _, _, rfl, Nat.zero_le _, heap_alloc_new w.drew _, hge, hcm, ?_, ?_⟩⟩
    · simp only [Array.size_append, List.size_toArray, size_zeroCells, hzs, hown.1, hl, ← Nat.add_mul]
      congr 1
      omega
    · simp only [Array.toList_append, List.append_assoc]
      rw [← List.append_assoc, ← hlen]
      exact List.take_left
  have gframe : ∀ (old : Nat) (cs : Array Value), (w.drew.alloc (.cells cs e)).os = w.os ∧ (w.drew.alloc (.cells cs e)).tape = w.tape ∧ Quiet w (w.drew.alloc (.cells cs e)) ∧ w.heap.size ≤ (w.drew.alloc (.cells cs e)).heap.size ∧
      (∀ b, b < w.heap.size → blk v ≠ some b → (w.drew.alloc (.cells cs e)).heap[b]? = w.heap[b]?) := fun old cs => ⟨rfl, rfl, ⟨rfl, fun _ => Nat.le_succ _⟩, by simp, fun b hb _ => Below.heap_alloc w.drew _ b hb⟩
  rcases hown.2 with ⟨rfl, rfl⟩ | ⟨g, cap, cur, rfl, hbg, hg, hnc, hcm, hcs, htake⟩
  · have hx : xs = [] := List.eq_nil_of_length_eq_zero (by simpa using hown.1)
    subst hx
    by_cases hm : m = 0
    · subst hm
      have hn : news = [] := List.eq_nil_of_length_eq_zero (by simpa using hl)
      subst hn
      refine ⟨.slice none 0 0, w, ?_, World.ownsRow_nil w 0 e i.size, rfl, rfl, Quiet.rfl, Nat.le_refl _, fun _ _ _ => rfl, fun b hb => by cases hb⟩
      have hf0 := hf w rfl
      simp [Builtin.append_, run_underlying hu, Go.sizeOf, typeInfo, hi, Builtin.lenOf, hf0]
    · have hn0 : ¬ (m ≤ 0) := by omega
      have h63' : ¬ (9223372036854775807 < (m : Int)) := by omega
      have h48' : ¬ (281474976710656 < Builtin.nextslicecap m 0 * i.bytes) := by rw [nextslicecap_zero (by omega)]; simp only [Nat.zero_add] at hbytes; omega
      have hf1 := hf w.drew rfl
      have hr : (Builtin.append_ #[t, t] ty #[.slice none 0 0, .slice A m c]).run P w =
          .ok (.slice (some ⟨w.heap.size, 0, none⟩) m (grownCap w m 0 e)) (w.drew.alloc (.cells (news.toArray ++ Builtin.zeroCells z.cells (grownCap w m 0 e - m)) e)) := by
        simp [Builtin.append_, run_underlying hu, Go.sizeOf, typeInfo, zeroValue, hi, hz, Builtin.lenOf, hm, h63', h48', Question.forced, run_firstCells_none, hf1, newRow, grownCap]
      have hgr := grown 0 (by omega)
      simp only [Nat.zero_add, List.nil_append, Array.empty_append] at hgr
      obtain ⟨g1, g2, g3, g4, g5⟩ := gframe 0 (news.toArray ++ Builtin.zeroCells z.cells (grownCap w m 0 e - m))
      refine ⟨_, _, hr, by simpa using hgr, g1, g2, g3, g4, g5, fun b hb => ?_⟩
      cases hb
      exact .inl (Nat.le_refl _)
  · by_cases hroom : n + m ≤ cap
    · have hfit : n * i.size + news.length ≤ cur.size := by rw [hl, hcs, ← Nat.add_mul]; exact Nat.mul_le_mul_right _ hroom
      have hf0 := hf w rfl
      have hst := run_storeCells_at P g (n * i.size) e news 0 cur w hg (by simpa using hfit) h1
      simp only [Nat.add_zero] at hst
      have hr : (Builtin.append_ #[t, t] ty #[.slice (some ⟨g, 0, none⟩) n cap, .slice A m c]).run P w =
          .ok (.slice (some ⟨g, 0, none⟩) (n + m) cap) (w.setRow g (cur.toList.take (n * i.size) ++ news ++ cur.toList.drop (n * i.size + news.length)).toArray) := by
        simp [Builtin.append_, run_underlying hu, Go.sizeOf, typeInfo, hi, Builtin.lenOf, hroom, hf0, Addr.add_lit, hst]
      refine ⟨_, _, hr, ⟨hlen, .inr ⟨g, cap, _, rfl, Nat.zero_le _, setRow_heap w g cur _ e _ hg, hroom, hcm, ?_, ?_⟩⟩, rfl, rfl, ⟨rfl, fun _ => Nat.le_refl _⟩, by simp, fun b _ hb => setRow_other w g b _ fun e' => hb (by rw [e']; rfl), fun b hb => .inr hb⟩
      · simp only [List.size_toArray, List.length_append, List.length_take, List.length_drop, Array.length_toList]
        omega
      · rw [htake, ← hlen]
        exact List.take_left
    · have holds : ∀ j u, xs[j]? = some u → w.cell? ((⟨g, 0, none⟩ : Addr).add j) = some u := hown.cells (g := g) rfl
      have hn : ¬ (n + m ≤ cap) := by omega
      have h63' : ¬ (9223372036854775807 < ((n : Int) + (m : Int))) := by omega
      have h48' : ¬ (281474976710656 < Builtin.nextslicecap (n + m) cap * i.bytes) := by have := growslice_fits (need := n + m) (old := cap) (by omega) hbytes; omega
      have hf1 := hf w.drew rfl
      have hfo := run_firstCells_some (P := P) w.drew i.size n ⟨g, 0, none⟩ n cap xs hown.1 (by simpa using holds)
      have hr : (Builtin.append_ #[t, t] ty #[.slice (some ⟨g, 0, none⟩) n cap, .slice A m c]).run P w =
          .ok (.slice (some ⟨w.heap.size, 0, none⟩) (n + m) (grownCap w (n + m) cap e)) (w.drew.alloc (.cells (xs.toArray ++ news.toArray ++ Builtin.zeroCells z.cells (grownCap w (n + m) cap e - (n + m))) e)) := by
        simp [Builtin.append_, run_underlying hu, Go.sizeOf, typeInfo, zeroValue, hi, hz, Builtin.lenOf, hn, h63', h48', Question.forced, hf1, hfo, newRow, grownCap]
        congr 2
        apply Array.ext'
        simp [List.append_assoc]
      obtain ⟨g1, g2, g3, g4, g5⟩ := gframe cap (xs.toArray ++ news.toArray ++ Builtin.zeroCells z.cells (grownCap w (n + m) cap e - (n + m)))
      refine ⟨_, _, hr, grown cap (by omega), g1, g2, g3, g4, g5, fun b hb => ?_⟩
      cases hb
      exact .inl (Nat.le_refl _)

theorem append_ok (cx : Cx) (hT : TabOk P cx.tab) (hN : Now P ρ ok w st a hp') {args : Array Operand} {ts : Array TypeId} (ho : o.op = .call { callee := .builtin .append, args, argTypes := ts }) {r : Res}
    (h : evOp cx st.nx (.call { callee := .builtin .append, args, argTypes := ts }) (opd st.env) hp' = some r) (hb : r.c = true) : OpOk P o a ρ ok w st r := by
  simp only [evOp] at h
  split at h <;> try (cases h; done)
  rename_i t u s x h1 h2
  split at h <;> try (cases h; done)
  rename_i htu
  have htu := Nat.eq_of_beq_eq_true htu
  subst htu
  have e1 : ts = #[t, t] := by apply Array.ext'; simpa using h1
  have e2 : args = #[s, x] := by apply Array.ext'; simpa using h2
  subst e1 e2
  split at h <;> try (cases h; done)
  rename_i ca cb h3 h4
  have ha := opd1_ok hN.E h3
  have hx := opd1_ok hN.E h4
  unfold evAppend at h
  split at h <;> try (cases h; done)
  rename_i e _ _ _ _ _ hi
  split at h <;> try (cases h; done)
  rename_i kind size bytes cap zero ty hj
  split at h <;> try (cases h; done)
  rename_i ys hys
  have hu := (hT t _ hi).sl rfl
  have hTI := hT e _ hj
  obtain ⟨info, z, i1, i2, i3, i4, i5⟩ := hTI.info
  simp only at i2 i3 i5
  have htn : ty.n = size := hTI.ty ty rfl
  have hpos : 0 < size := hTI.pos
  have hcap : cap * bytes ≤ 140737488355328 := hTI.cap
  have hcap' : cap ≤ 140737488355328 := hTI.cap'
  have hzs : z.cells.size = size := by have := hTI.zl; rw [← i5] at this; simpa using this
  have run : ∀ {v : Value} {w' : World}, (Builtin.append_ #[t, t] o.type #[a.eval s, a.eval x]).run P w = .ok v w' → (execOp a.eval o).run P w = .ok (.value v) w' := by
    intro v w' hv
    simp only [execOp, ho, resolve, Sem.run_bind, Sem.run_pure, Result.andThen_ok, invoke, builtin, List.map_toArray, List.map_cons, List.map_nil, hv]
  obtain ⟨A, c, news, g1, g2, g3⟩ := src_ok hN hx hys
  rw [htn] at g3
  have hnl : news.length = ys.length * size := by rw [g2.len, htn]
  split at h <;> try (cases h; done)
  · rename_i l
    split at h <;> try (cases h; done)
    rename_i f u xs hl
    split at h <;> try (cases h; done)
    rename_i xs' hxs
    cases h
    obtain ⟨rfl, rfl, hxs⟩ := sameSl_some hxs
    cases hxs
    have hle := Nat.le_of_ble_eq_true hb
    have hl' := hN.sub _ _ hl
    obtain ⟨_, inner, h5, h6⟩ := hN.H.ob l _ hl'
    rw [htn] at h5
    have hs : a.eval s = ρ l := ha.2.1
    obtain ⟨v', w', r1, r2, r3, r4, r5, r6, r7, r8⟩ := append_run (P := P) (ty := o.type) hu i1 i4 i2 i3 hzs hpos h5 g1 hnl g3 g2.one (by omega) (Nat.le_trans (Nat.mul_le_mul_right _ hle) hcap)
    rw [← hs] at r1
    have hS : Same ok ok w w' := fun b hb => ⟨hb, r7 b (hN.H.okl b hb) fun e' => hN.H.sep l _ b hl' rfl e' hb⟩
    refine ⟨_, w', rset ρ st.nx v', ok, run r1, eff_turn hN.H hl' rfl r3 r4 r5 r6 r7 ?_ r8, .inl ⟨v', rfl, fun q hq => ?_⟩⟩
    · refine ⟨inner ++ news, ?_, (h6.app g2).move hS⟩
      rw [htn]
      simpa [rset] using r2
    · cases hq
      refine ⟨_, rfl, Nat.lt_succ_self _, by simp [rset], ?_⟩
      rcases r2.2 with ⟨e', _⟩ | ⟨_, _, _, e', _⟩ <;> rw [e'] <;> rfl
  · cases h
    have hle := Nat.le_of_ble_eq_true hb
    have hs : a.eval s = .slice none 0 0 := ha.1
    obtain ⟨v', w', r1, r2, r3, r4, r5, r6, r7, r8⟩ := append_run (P := P) (ty := o.type) hu i1 i4 i2 i3 hzs hpos (World.ownsRow_nil w 0 e size) g1 hnl g3 g2.one (by omega) (Nat.le_trans (Nat.mul_le_mul_right _ (by omega)) hcap)
    rw [← hs] at r1
    have hS : Same ok ok w w' := fun b hb => ⟨hb, r7 b (hN.H.okl b hb) fun e' => by cases e'⟩
    refine ⟨_, w', rset ρ st.nx v', ok, run r1, eff_new hN.H r3 r4 r5 r6 (fun b hb => r7 b hb fun e' => by cases e') ?_ ?_, .inl ⟨v', rfl, fun q hq => ?_⟩⟩
    · refine ⟨news, ?_, g2.move hS⟩
      rw [htn]
      simpa [rset] using r2
    · intro _ b hbv
      rcases r8 b hbv with h | h
      · exact h
      · cases h
    · cases hq
      refine ⟨_, rfl, Nat.lt_succ_self _, by simp [rset], ?_⟩
      rcases r2.2 with ⟨e', _⟩ | ⟨_, _, _, e', _⟩ <;> rw [e'] <;> rfl

/-- every operation -/
theorem rows_take {ok : Nat → Prop} {w : World} {t : Ty} {xs : List t.T} {vs : List Value} (h : Rows ok w t xs vs) (k : Nat) (hk : k ≤ xs.length) : Rows ok w t (xs.take k) (vs.take (k * t.n)) := by
  obtain ⟨css, rfl, h⟩ := h
  refine ⟨css.take k, ?_, h.take k⟩
  induction h generalizing k with
  | nil => simp
  | @cons a b as bs h ht ih =>
    have hl := K_len h
    cases k with
    | zero => simp
    | succ k =>
      have hk' : k ≤ as.length := by simpa using hk
      have := ih k hk'
      simp only [List.take_succ_cons, List.flatten_cons, ← this]
      rw [List.take_append, hl, Nat.add_mul, Nat.one_mul, Nat.add_sub_cancel, List.take_of_length_le (by omega)]
theorem rows_drop {ok : Nat → Prop} {w : World} {t : Ty} {xs : List t.T} {vs : List Value} (h : Rows ok w t xs vs) (k : Nat) (hk : k ≤ xs.length) : Rows ok w t (xs.drop k) (vs.drop (k * t.n)) := by
  obtain ⟨css, rfl, h⟩ := h
  refine ⟨css.drop k, ?_, h.drop k⟩
  induction h generalizing k with
  | nil => simp
  | @cons a b as bs h ht ih =>
    have hl := K_len h
    cases k with
    | zero => simp
    | succ k =>
      have hk' : k ≤ as.length := by simpa using hk
      have := ih k hk'
      simp only [List.drop_succ_cons, List.flatten_cons, ← this]
      rw [List.drop_append, hl, Nat.add_mul, Nat.one_mul, Nat.add_sub_cancel, List.drop_of_length_le (by omega), List.nil_append]
theorem rows_rep {ok : Nat → Prop} {w : World} {t : Ty} {z : t.T} {vs : List Value} (h : K ok w t z vs) : ∀ n, Rows ok w t (List.replicate n z) (List.replicate n vs).flatten
  | 0 => ⟨[], rfl, .nil⟩
  | n + 1 => by
    have h1 : Rows ok w t [z] vs := ⟨[vs], by simp, .cons h .nil⟩
    have := h1.app (rows_rep h n)
    simpa [List.replicate_succ] using this
theorem zeroCells_list (z : Array Value) : ∀ n, (Builtin.zeroCells z n).toList = (List.replicate n z.toList).flatten := by
  intro n
  unfold Builtin.zeroCells
  rw [Array.toList_map, Array.toList_range]
  induction n with
  | zero => simp
  | succ n ih =>
    rw [Nat.add_mul, Nat.one_mul, List.range_add, List.map_append, ih, List.replicate_succ', List.flatten_append, List.flatten_singleton]
    congr 1
    rw [List.map_map]
    apply List.ext_getElem
    · simp
    · intro i h1 h2
      have hi : i < z.size := by simpa using h1
      simp [Nat.mul_add_mod_self_right, Nat.add_comm (n * z.size), Nat.add_mul_mod_self_right, Nat.mod_eq_of_lt hi, hi]

theorem clear_ok (cx : Cx) (hT : TabOk P cx.tab) (hN : Now P ρ ok w st a hp') {args : Array Operand} {ts : Array TypeId} (ho : o.op = .call { callee := .builtin .clear, args, argTypes := ts }) {r : Res}
    (h : evOp cx st.nx (.call { callee := .builtin .clear, args, argTypes := ts }) (opd st.env) hp' = some r) : OpOk P o a ρ ok w st r := by
  simp only [evOp] at h
  split at h <;> try (cases h; done)
  rename_i t x h1 h2
  have e1 : ts = #[t] := by apply Array.ext'; simpa using h1
  have e2 : args = #[x] := by apply Array.ext'; simpa using h2
  subst e1 e2
  generalize hcc : cells1 (opd st.env x) = cc at h
  unfold evClear at h
  split at h <;> try (cases h; done)
  rename_i l n lo len
  split at h <;> try (cases h; done)
  rename_i e _ _ _ _ _ f u xs ht hl
  split at h <;> try (cases h; done)
  rename_i i hi
  split at h <;> try (cases h; done)
  rename_i hb
  split at h <;> try (cases h; done)
  rename_i z hz
  cases h
  obtain ⟨hn, hsz⟩ := Bool.and_eq_true_iff.1 hb
  have hn := Nat.eq_of_beq_eq_true hn
  have hsz := Nat.eq_of_beq_eq_true hsz
  subst hn
  obtain ⟨_, A, cap, hv, hlc, hx⟩ := opd1_ok hN.E hcc
  have hTI := hT e i hi
  have hu : P.underlying t = some (.slice e) := (hT t _ ht).sl rfl
  have hl' := hN.sub _ _ hl
  have run : ∀ {w' : World}, (Builtin.clear_ #[t] o.type #[a.eval x]).run P w = .ok (.tuple #[]) w' → (execOp a.eval o).run P w = .ok (.value (.tuple #[])) w' := by
    intro w' hn
    simp only [execOp, ho, resolve, Sem.run_bind, Sem.run_pure, Result.andThen_ok, invoke, builtin, List.map_toArray, List.map_cons, List.map_nil, hn]
  have htup : ∀ {ρ : Nat → Value} {ok : Nat → Prop} {w : World} {nx : Nat} (s : Slot), some (Slot.tup []) = some s → SlotR ρ ok w nx s (.tuple #[]) := fun s hs => by cases hs; exact ⟨[], rfl, .nil⟩
  by_cases h0 : len = 0
  · subst h0
    have e3 : xs.take lo ++ List.replicate 0 z ++ xs.drop (lo + 0) = xs := by simp
    rw [e3]
    refine ⟨_, w, ρ, ok, run (by rw [hv]; cases A <;> simp [Builtin.clear_, run_underlying hu]), ?_, .inl ⟨_, rfl, htup⟩⟩
    exact eff_set hN.H hl' rfl rfl rfl ⟨rfl, fun _ => Nat.le_refl _⟩ rfl (fun _ _ => rfl) (hN.H.ob l _ hl').2
  · obtain ⟨b, L, C, hρ, hA, hle⟩ := hx.resolve_left h0
    obtain ⟨_, inner, h10, h11⟩ := hN.H.ob l _ hl'
    rcases h10.2 with ⟨h12, _⟩ | ⟨g, cap', cur, h12, _, h13, h14, h15, h16, h17⟩
    · rw [hρ] at h12; cases h12
    rw [hρ] at h12
    injection h12 with e2 e3 e4
    injection e2 with e2
    injection e2 with e2
    subst e2 e3
    obtain ⟨zv, hz1, hz2⟩ := run_zero (w := w) hTI
    have hin : inner.length = xs.length * u.n := h10.1
    have hK : K ok w u z i.zero := co_ok hN.H (hp' := fun _ => none) (fun _ _ h => by cases h) (fun _ h => h) (of_all hTI.z1) (fun l f v ys hm hc b hb => by cases hm) hz
    have hzl : i.zero.length = u.n := K_len hK
    have hrep : (List.replicate len i.zero).flatten.length = len * u.n := by simp [hzl]
    have hcs : (lo + len) * u.n ≤ xs.length * u.n := Nat.mul_le_mul_right _ hle
    have hcur : xs.length * u.n ≤ cur.size := by rw [h16]; exact Nat.mul_le_mul_right _ h14
    have hmul : lo * u.n + len * u.n = (lo + len) * u.n := by rw [Nat.add_mul]
    have hst := run_storeCells_at P b (lo * u.n) f (List.replicate len i.zero).flatten 0 cur w h13 (by rw [hrep]; omega) (fun v hv => by
      obtain ⟨q, hq, hvq⟩ := List.mem_flatten.1 hv
      rw [List.eq_of_mem_replicate hq] at hvq
      exact hTI.z1 v hvq)
    rw [Nat.add_zero, hrep, hmul] at hst
    have hrun : (Builtin.clear_ #[t] o.type #[a.eval x]).run P w = .ok (.tuple #[]) (w.setRow b (cur.toList.take (lo * u.n) ++ (List.replicate len i.zero).flatten ++ cur.toList.drop ((lo + len) * u.n)).toArray) := by
      obtain ⟨m, rfl⟩ : ∃ m, len = m + 1 := ⟨len - 1, by omega⟩
      rw [hv, hA]
      simp only [Builtin.clear_, List.getElem?_toArray, List.getElem?_cons_zero, Sem.run_bind, run_underlying hu, Result.andThen_ok, hz1, zeroCells_list, hz2]
      simp [hst]
    refine ⟨_, _, ρ, ok, run hrun, eff_set hN.H hl' rfl rfl rfl ⟨rfl, fun _ => Nat.le_refl _⟩ (by simp) (fun c hc => setRow_other w b c _ fun e' => hc (by rw [hρ, e']; rfl)) ?_, .inl ⟨_, rfl, htup⟩⟩
    have hS : Same ok ok w (w.setRow b (cur.toList.take (lo * u.n) ++ (List.replicate len i.zero).flatten ++ cur.toList.drop ((lo + len) * u.n)).toArray) :=
      fun c hc => ⟨hc, setRow_other w b c _ fun e' => hN.H.sep l _ b hl' rfl (by rw [hρ]; rfl) (e' ▸ hc)⟩
    have hrows := ((rows_take h11 lo (by omega)).app (rows_rep hK len)).app (rows_drop h11 (lo + len) hle)
    refine ⟨_, ?_, hrows.move hS⟩
    have hxl : (xs.take lo ++ List.replicate len z ++ xs.drop (lo + len)).length = xs.length := by simp; omega
    refine ⟨?_, .inr ⟨b, cap', _, by rw [hρ, e4, hxl], Nat.zero_le _, setRow_heap w b cur _ f _ h13, by rw [hxl]; exact h14, h15, ?_, ?_⟩⟩
    · rw [hrows.len]
    · have hcl : cur.toList.length = cur.size := by simp
      simp only [List.size_toArray, List.length_append, List.length_take, List.length_drop, hrep, hcl]; omega
    · rw [hxl, ← h17]
      have hcl : cur.toList.length = cur.size := by simp
      have hx1 : xs.length * u.n = lo * u.n + len * u.n + (xs.length - (lo + len)) * u.n := by rw [← Nat.add_mul, ← Nat.add_mul]; congr 1; omega
      apply List.ext_getElem?
      intro k
      simp only [List.getElem?_take, List.getElem?_append, List.getElem?_drop, List.length_append, List.length_take, List.length_drop, hrep, hcl]
      repeat' split
      all_goals first | rfl | omega | (congr 1; omega) | skip
theorem raw_eq {ρ : Nat → Value} {ok : Nat → Prop} {w : World} {nx : Nat} : ∀ {c : Cell} {u v : Value}, CellR ρ ok w nx c v → c.raw = some u → v = u
  | .int _ _, _, _, h, e => by cases e; exact h
  | .bool _, _, _, h, e => by cases e; exact h
  | .str _, _, _, h, e => by cases e; exact h
  | .val _, _, _, h, e => by cases e; exact h.1
  | .sl _ _ _, _, _, _, e => by cases e
  | .ref _, _, _, _, e => by cases e
  | .sub _ _ _ _, _, _, _, e => by cases e
  | .ptr _ _, _, _, _, e => by cases e
  | .elp _ _ _ _, _, _, _, e => by cases e
  | .rdp _ _ _, _, _, _, e => by cases e
  | .ifc _, _, _, _, e => by cases e
  | .np _, _, _, _, e => by cases e
theorem raws_eq {ρ : Nat → Value} {ok : Nat → Prop} {w : World} {nx : Nat} : ∀ {cs : List Cell} {vs us : List Value}, All2 (CellR ρ ok w nx) cs vs → raws cs = some us → vs = us
  | _, _, _, .nil, e => by cases e; rfl
  | c :: r, _, _, .cons h t, e => by
    simp only [raws] at e
    split at e <;> try (cases e; done)
    rename_i v vs h1 h2
    cases e
    rw [raw_eq h h1, raws_eq t h2]
theorem rawS_eq (hE : RepE ρ ok w st.nx st.env a.tmps) {x : Operand} {v : Value} (h : rawS (opd st.env x) = some v) : a.eval x = v := by
  unfold rawS at h
  split at h <;> try (cases h; done)
  rename_i b cs hs
  split at h <;> try (cases h; done)
  rename_i vs hv
  have hx := opd_ok hE hs
  cases b with
  | true =>
    obtain ⟨us, e, hu⟩ := hx
    cases h
    rw [e, raws_eq hu hv]
  | false =>
    obtain ⟨c, e, hu⟩ := hx
    subst e
    simp only [raws] at hv
    split at hv <;> try (cases hv; done)
    rename_i u us h1 h2
    cases h2
    cases hv
    cases h
    exact raw_eq hu h1
theorem makeInterface_ok (cx : Cx) (hT : TabOk P cx.tab) (hN : Now P ρ ok w st a hp') {t : Nat} {x : Operand} (ho : o.op = .makeInterface t x) {r : Res} (h : evOp cx st.nx (.makeInterface t x) (opd st.env) hp' = some r) : OpOk P o a ρ ok w st r := by
  simp only [evOp] at h
  split at h <;> try (cases h; done)
  rename_i i v h1 h2
  split at h <;> try (cases h; done)
  rename_i hc
  cases h
  have hv := rawS_eq hN.E h2
  obtain ⟨info, d, z, _, h3, h4, _⟩ := (hT t i h1).ex
  refine OpOk.cell hN (v := .iface t v) ?_ ⟨rfl, rfl⟩
  simp only [execOp, ho, Instr.makeInterface, Sem.run_bind, run_underlying h3, Result.andThen_ok, hv]
  cases d <;> first | (simp only [Sem.run_pure, Result.andThen_ok]; done) | skip
  rename_i ms
  exfalso
  revert h4 hc
  cases i.kind <;> simp [kindB, TK.conc]
theorem assert_ok (cx : Cx) (hT : TabOk P cx.tab) (hN : Now P ρ ok w st a hp') {x : Operand} {xt t : Nat} (ho : o.op = .typeAssert x xt t true) {r : Res} (h : evAssert cx t (cells1 (opd st.env x)) = some r) : OpOk P o a ρ ok w st r := by
  unfold evAssert at h
  split at h <;> try (cases h; done)
  rename_i i u v h1 h2
  split at h <;> try (cases h; done)
  rename_i hc
  simp only [Bool.and_eq_true] at hc
  obtain ⟨c1, c2, c3⟩ := hc
  have c2 := Nat.eq_of_beq_eq_true c2
  subst c2
  split at h <;> try (cases h; done)
  rename_i g cs hs
  cases h
  have hv := (opd1_ok hN.E h2).1
  have hr : VR ρ ok w st.nx g cs v := by
    have := opd_ok (x := .const v) hN.E (s := .v g cs) (by simp only [opd, c3, if_true, hs])
    exact this
  obtain ⟨info, d, z, _, h3, h4, _⟩ := (hT u i h1).ex
  refine OpOk.pure hN (v := .tuple #[v, .bool true]) ?_ fun s hs => by cases hs; exact ⟨[v, .bool true], rfl, .cons hr (.cons ⟨_, rfl, rfl⟩ .nil)⟩
  simp only [execOp, ho, hv, Instr.typeAssert, Sem.run_bind, run_underlying h3, Result.andThen_ok]
  cases d <;> first | (simp only [if_true, Sem.run_pure, Result.andThen_ok]; done) | skip
  rename_i ms
  exfalso
  revert h4 c1
  cases i.kind <;> simp [kindB, TK.conc]
/-! ### maps -/
theorem All2.symmOne {α β : Type} {R : α → β → Prop} {as : List α} {b : β} (h : All2 R as [b]) : ∃ a, as = [a] ∧ R a b := by
  cases h with
  | cons h t => cases t; exact ⟨_, rfl, h⟩
theorem All2.snoc {α β : Type} {R : α → β → Prop} {as : List α} {bs : List β} (h : All2 R as bs) {a : α} {b : β} (k : R a b) : All2 R (as ++ [a]) (bs ++ [b]) := h.app (.cons k .nil)
theorem makeMap_ok (cx : Cx) (hT : TabOk P cx.tab) (hN : Now P ρ ok w st a hp') {t : Nat} (ho : o.op = .makeMap t none) {r : Res} (h : evMake cx st.nx t = some r) : OpOk P o a ρ ok w st r := by
  unfold evMake at h
  split at h <;> try (cases h; done)
  split at h <;> try (cases h; done)
  split at h <;> try (cases h; done)
  cases h
  have hr : (execOp a.eval o).run P w = .ok (.value (.map (some w.heap.size))) (w.alloc (.map #[] 0)) := by
    simp only [execOp, ho, Instr.makeMap, Option.map_none, Sem.run_bind, run_newObj, Result.andThen_ok, Sem.run_pure]
    rfl
  refine ⟨_, _, _, ok, hr, eff_new hN.H (v := .map (some w.heap.size)) rfl rfl ⟨rfl, fun _ => Nat.le_refl _⟩ (by simp) (fun b hb => Below.heap_alloc w _ b hb) ?_ ?_, .inl ⟨_, rfl, fun s hs => ?_⟩⟩
  · exact ⟨w.heap.size, #[], 0, by simp [rset], heap_alloc_new w _, .nil, MapKept.stamped_empty 0⟩
  · intro _ b hb
    cases hb
    exact Nat.le_refl _
  · cases hs
    exact ⟨_, rfl, Nat.lt_succ_self _, by simp [rset], rfl⟩

theorem ent_key {ok : Nat → Prop} {w : World} {g : Bool} {t : Ty} {kvs : List (ByteArray × t.T)} {es : List MapEntry} (h : All2 (EntR ok w g t) kvs es) : ∀ x ∈ es, MapKept.IsKey .string x.key := by
  induction h with
  | nil => intro x hx; cases hx
  | cons h _ ih =>
    intro x hx
    rcases List.mem_cons.1 hx with rfl | hx
    · rw [h.1]; trivial
    · exact ih x hx
/-- the search for a key -/
theorem find_ent {ok : Nat → Prop} {w : World} {g : Bool} {t : Ty} {kvs : List (ByteArray × t.T)} {es : List MapEntry} (h : All2 (EntR ok w g t) kvs es) (s : ByteArray) : ∀ i,
    (getKV s kvs = none ∧ Instr.findNow .string (.string s) es i = some none) ∨
    ∃ j p e, getKV s kvs = some p.2 ∧ Instr.findNow .string (.string s) es i = some (some (i + j, e.val)) ∧ kvs[j]? = some p ∧ es[j]? = some e ∧ p.1 = s ∧ EntR ok w g t p e ∧ ∀ y, putKV s y kvs = kvs.set j (s, y) := by
  induction h with
  | nil => intro i; exact .inl ⟨rfl, rfl⟩
  | @cons p e kvs es h _ ih =>
    intro i
    obtain ⟨k, x⟩ := p
    have hk : e.key = .string k := h.1
    by_cases hks : k = s
    · refine .inr ⟨0, (k, x), e, by simp [getKV, hks], ?_, rfl, rfl, hks, h, fun y => by simp [putKV, hks]⟩
      have hbq : (s == s) = true := (MapKept.bytes_beq _ _).2 rfl
      simp [Instr.findNow, Instr.sameNow, hk, hks, hbq]
    · have hne : (s == k) = false := by
        cases hb : s == k with
        | false => rfl
        | true => exact absurd ((MapKept.bytes_beq _ _).1 hb).symm hks
      have e1 : Instr.findNow .string (.string s) (e :: es) i = Instr.findNow .string (.string s) es (i + 1) := by
        rw [Instr.findNow, hk]
        simp only [Instr.sameNow, hne]
      rw [e1]
      rcases ih (i + 1) with ⟨g1, g2⟩ | ⟨j, p, e', g1, g2, g3, g4, g5, g6, g7⟩
      · exact .inl ⟨by simp [getKV, hks, g1], g2⟩
      · exact .inr ⟨j + 1, p, e', by simp [getKV, hks, g1], by rw [g2, show i + 1 + j = i + (j + 1) by omega], by simpa using g3, by simpa using g4, g5, g6, fun y => by simp [putKV, hks, g7 y]⟩
theorem putKV_none {α : Type} (s : ByteArray) (y : α) : ∀ {l : List (ByteArray × α)}, getKV s l = none → putKV s y l = l ++ [(s, y)]
  | [], _ => rfl
  | (k, x) :: r, h => by
    unfold getKV at h
    split at h
    · cases h
    · rename_i hk
      simp [putKV, hk, putKV_none s y h]
theorem none_key {ok : Nat → Prop} {w : World} {g : Bool} {t : Ty} {kvs : List (ByteArray × t.T)} {es : List MapEntry} {s : ByteArray} (h : All2 (EntR ok w g t) kvs es) : getKV s kvs = none → ∀ x ∈ es, x.key ≠ .string s := by
  induction h with
  | nil => intro _ x hx; cases hx
  | @cons p e kvs es h _ ih =>
    intro hn x hx
    obtain ⟨k, y⟩ := p
    unfold getKV at hn
    split at hn
    · cases hn
    · rename_i hk
      rcases List.mem_cons.1 hx with rfl | hx
      · rw [h.1]; intro e; injection e with e; exact hk e
      · exact ih hn x hx
theorem All2.set {α β : Type} {R : α → β → Prop} : ∀ {as : List α} {bs : List β}, All2 R as bs → ∀ (j : Nat) {a : α} {b : β}, R a b → All2 R (as.set j a) (bs.set j b)
  | _, _, .nil, j, a, b, _ => by simp; exact .nil
  | _, _, .cons h t, 0, a, b, k => .cons k t
  | _, _, .cons h t, j + 1, a, b, k => .cons h (All2.set t j k)

theorem insert_ok (cx : Cx) (hT : TabOk P cx.tab) (hN : Now P ρ ok w st a hp') {t : Nat} {m k x : Operand} (ho : o.op = .insert t m k x ∨ o.op = .mapUpdate t m k x) {r : Res} (h : evInsert cx hp' t (cells1 (opd st.env m)) (cells1 (opd st.env k)) (opd st.env x) = some r) : OpOk P o a ρ ok w st r := by
  unfold evInsert at h
  split at h <;> try (cases h; done)
  rename_i kt e _ _ _ _ _ l s g cs ht hm hk hx
  split at h <;> try (cases h; done)
  rename_i b u kvs hkt hl
  split at h <;> try (cases h; done)
  rename_i hb
  obtain ⟨hg, hnm⟩ := Bool.and_eq_true_iff.1 hb
  have hg : g = b := eq_of_beq hg
  subst hg
  have hnm : l ∉ names (frzs hp' cs) := fun hm => by rw [memN_iff.2 hm] at hnm; cases hnm
  split at h <;> try (cases h; done)
  rename_i y hy
  cases h
  obtain ⟨h1, h2, h3⟩ := opd1_ok (c := .ref l) hN.E hm
  have hs : a.eval k = .string s := opd1_ok (c := .str s) hN.E hk
  have hv : VR ρ ok w st.nx g cs (a.eval x) := opd_ok hN.E hx
  have hu := (hT t _ ht).map rfl
  have huk := (hT kt _ hkt).str rfl
  have hl' := hN.sub _ _ hl
  have hF : FrzList st.hp (frzs hp' cs) := (frzs_list hp' cs).sub hN.sub
  have e1 := eff_frz hN.H hF
  -- the value, as data
  obtain ⟨vs, hvs, hev⟩ : ∃ vs, All2 (CellR ρ ok w st.nx) cs vs ∧ (match g with | true => a.eval x = .agg vs.toArray | false => vs = [a.eval x]) := by
    cases g with
    | true => obtain ⟨vs, e', h'⟩ := hv; exact ⟨vs, h', e'⟩
    | false => obtain ⟨c, e', h'⟩ := hv; subst e'; exact ⟨[a.eval x], .cons h' .nil, rfl⟩
  have hK : K (okWith ok ρ (names (frzs hp' cs))) w u y vs := co_ok hN.H hN.sub (fun b hb => .inl hb) hvs (fun m f v ys hm' hc b hb => .inr ⟨m, frzs_cov hp' cs m f v ys hm' hc, hb⟩) hy
  have hl1 : ups st.hp (frzs hp' cs) l = some (.mp g u kvs) := by
    rcases frz_at hF l with ⟨hm', _⟩ | ⟨_, h10⟩
    · exact absurd hm' hnm
    · rw [h10]; exact hl'
  obtain ⟨_, rr, es, clock, g1, g2, g3, gS⟩ := e1.1.ob l _ hl1
  have hrun : ∀ (es' : Array MapEntry) (c' : Nat), (Instr.mapUpdate t (.map (some rr)) (.string s) (a.eval x)).run P w = .ok () { w with heap := w.heap.setIfInBounds rr (.map es' c') } →
      (execOp a.eval o).run P w = .ok .skip { w with heap := w.heap.setIfInBounds rr (.map es' c') } := by
    intro es' c' hm'
    rcases ho with ho | ho <;> simp only [execOp, ho, h2, g1, hs, Sem.run_bind, hm', Result.andThen_ok, Sem.run_pure]
  have hS : ∀ ob, Same (okWith ok ρ (names (frzs hp' cs))) (okWith ok ρ (names (frzs hp' cs))) w { w with heap := w.heap.setIfInBounds rr ob } :=
    fun ob c hc => ⟨hc, by
      have : rr ≠ c := fun e' => e1.1.sep l _ c hl1 rfl (by rw [g1, e']; rfl) hc
      simp [Array.getElem?_setIfInBounds_ne this]⟩
  have fin : ∀ (es' : Array MapEntry) (c' : Nat), (Instr.mapUpdate t (.map (some rr)) (.string s) (a.eval x)).run P w = .ok () { w with heap := w.heap.setIfInBounds rr (.map es' c') } →
      All2 (EntR (okWith ok ρ (names (frzs hp' cs))) w g u) (putKV s y kvs) es'.toList → MapKept.Stamped es' c' → OpOk P o a ρ ok w st ⟨true, none, frzs hp' cs ++ [(l, some (.mp g u (putKV s y kvs)))], 0⟩ := by
    intro es' c' hm' hes hst
    refine ⟨_, _, ρ, _, hrun es' c' hm', e1.trans (m := 0) (eff_set e1.1 hl1 rfl rfl rfl ⟨rfl, fun _ => Nat.le_refl _⟩ (by simp) (fun c hc => ?_) ?_), .inr ⟨rfl, rfl⟩⟩
    · have : rr ≠ c := fun e' => hc (by rw [g1, e']; rfl)
      simp [Array.getElem?_setIfInBounds_ne this]
    · refine ⟨rr, es', c', g1, ?_, hes.imp fun _ _ => EntR.move (hS _), hst⟩
      have := (Array.getElem?_eq_some_iff.1 g2).1
      simp [this]
  have hchk := MapKept.run_checkKey (P := P) (w := w) (kt := kt) huk (k := .string s) trivial
  rcases find_ent g3 s 0 with ⟨k1, k2⟩ | ⟨j, p, e', k1, k2, k3, k4, k5, k6, k7⟩
  · refine fin (es.push { key := .string s, val := a.eval x, born := clock }) (clock + 1) ?_ ?_ (MapKept.stamped_push gS (none_key g3 k1))
    · unfold Instr.mapUpdate
      simp only [Sem.run_bind, run_underlying hu, Result.andThen_ok, MapKept.run_getObj_map g2, hchk false 9999, Instr.findKey, run_underlying huk, k2, Sem.run_pure, MapKept.run_setObj_map _ g2]
    · rw [putKV_none s y k1, Array.toList_push]
      exact g3.snoc ⟨rfl, vs, hK, by cases g <;> exact hev⟩
  · have hj : j < es.size := by
      have := (List.getElem?_eq_some_iff.1 k4).1
      simpa using this
    have hkey : e'.key = .string s := by rw [k6.1, k5]
    have hesj : es[j]? = some e' := by simpa using k4
    have hstay : (Instr.keyThatStays (.string s) (.string s)).run P w = .ok (.string s) w := by
      unfold Instr.keyThatStays
      rw [if_pos (show Instr.sameBits 10000 (.string s) (.string s) = true from (MapKept.bytes_beq _ _).2 rfl)]
      rfl
    refine fin (es.modify j fun e => { e with key := .string s, val := a.eval x }) clock ?_ ?_ (MapKept.stamped_modify gS j _ (fun _ _ => rfl) (fun e _ he => by rw [hesj] at he; cases he; exact hkey.symm))
    · unfold Instr.mapUpdate
      have hk' : (Option.map (fun x => x.key) es[j]?).getD (Value.string s) = .string s := by rw [hesj]; simp [hkey]
      simp only [Sem.run_bind, run_underlying hu, Result.andThen_ok, MapKept.run_getObj_map g2, hchk false 9999, Instr.findKey, run_underlying huk, k2, Sem.run_pure, hk', hstay, MapKept.run_setObj_map _ g2, Nat.zero_add]
    · rw [k7 y]
      have : (es.modify j fun e => { e with key := .string s, val := a.eval x }).toList = es.toList.set j { e' with key := .string s, val := a.eval x } := by
        rw [Array.toList_modify]
        apply List.ext_getElem?
        intro n
        rw [List.getElem?_modify, List.getElem?_set]
        by_cases hn : j = n
        · subst hn
          rw [if_pos rfl, k4]
          simp [hj]
        · rw [if_neg hn]
          cases hq : es.toList[n]? <;> simp [hn]
      rw [this]
      exact All2.set g3 j ⟨rfl, vs, hK, by cases g <;> exact hev⟩

theorem lookup_ok (cx : Cx) (hT : TabOk P cx.tab) (hN : Now P ρ ok w st a hp') {t : Nat} {m k : Operand} {two : Bool} (ho : o.op = .lookup t m k two) {r : Res} (h : evLookup cx hp' t (cells1 (opd st.env m)) (cells1 (opd st.env k)) two = some r) : OpOk P o a ρ ok w st r := by
  unfold evLookup at h
  split at h <;> try (cases h; done)
  rename_i kt e _ _ _ _ _ l s ht hm hk
  split at h <;> try (cases h; done)
  rename_i i b u kvs hkt hi hl
  split at h <;> try (cases h; done)
  rename_i hb
  have hb : b = i.agg := eq_of_beq hb
  split at h <;> try (cases h; done)
  rename_i z hz
  cases h
  obtain ⟨h1, h2, h3⟩ := opd1_ok (c := .ref l) hN.E hm
  have hs : a.eval k = .string s := opd1_ok (c := .str s) hN.E hk
  have hu := (hT t _ ht).map rfl
  have huk := (hT kt _ hkt).str rfl
  have hTI := hT e i hi
  obtain ⟨_, rr, es, clock, g1, g2, g3, _⟩ := hN.H.ob l _ (hN.sub _ _ hl)
  obtain ⟨zv, z1, z2, z3⟩ := run_zeroV w hTI
  have hKz : K ok w u z i.zero := co_ok hN.H (hp' := fun _ => none) (fun _ _ h => by cases h) (fun _ h => h) (of_all hTI.z1) (fun l f v ys hl => by cases hl) hz
  have hVz : VR ρ ok w st.nx b (u.ex z) zv := by
    rw [hb, ← z3]
    cases zv with
    | agg cs =>
      refine ⟨i.zero, ?_, ex_ok hKz⟩
      have : cs.toList = i.zero := z2
      rw [← this]
    | _ =>
      have z2 : [_] = i.zero := z2
      rw [← z2] at hKz
      obtain ⟨c, hc, hc2⟩ := (ex_ok (ρ := ρ) (nx := st.nx) hKz).symmOne
      exact ⟨c, hc, hc2⟩
  have hrun : ∀ (v : Value) (ok' : Bool), (Instr.lookup t (.map (some rr)) (.string s) two).run P w = .ok (if two then .tuple #[v, .bool ok'] else v) w →
      (execOp a.eval o).run P w = .ok (.value (if two then .tuple #[v, .bool ok'] else v)) w := by
    intro v ok' hl
    simp only [execOp, ho, h2, g1, hs, Sem.run_bind, hl, Result.andThen_ok, Sem.run_pure]
  have hchk := MapKept.run_checkKey (P := P) (w := w) (kt := kt) huk (k := .string s) trivial
  have fin : ∀ (v : Value) (y : u.T) (ok' : Bool), (Instr.lookup t (.map (some rr)) (.string s) two).run P w = .ok (if two then .tuple #[v, .bool ok'] else v) w → VR ρ ok w st.nx b (u.ex y) v → (getKV s kvs).getD z = y → (getKV s kvs).isSome = ok' →
      OpOk P o a ρ ok w st ⟨true, some (match two with | true => .tup [(b, u.ex ((getKV s kvs).getD z)), (false, [.bool (getKV s kvs).isSome])] | false => .v b (u.ex ((getKV s kvs).getD z))), [], 0⟩ := by
    intro v y ok' hl hvr e1 e2
    refine OpOk.pure hN (hrun v ok' hl) fun x hx => ?_
    rw [e1, e2] at hx
    cases two with
    | true => cases hx; exact ⟨[v, .bool ok'], rfl, .cons hvr (.cons ⟨_, rfl, rfl⟩ .nil)⟩
    | false => cases hx; exact hvr
  rcases find_ent g3 s 0 with ⟨k1, k2⟩ | ⟨j, p, e', k1, k2, k3, k4, k5, k6, k7⟩
  · refine (fun h => by cases two <;> exact h) (fin zv z false ?_ hVz (by rw [k1]; rfl) (by rw [k1]; rfl))
    unfold Instr.lookup
    simp only [Sem.run_bind, run_underlying hu, Result.andThen_ok, MapKept.run_getObj_map g2, Sem.run_pure, hchk es.isEmpty 9999, Instr.findKey, run_underlying huk, k2, z1]
  · refine (fun h => by cases two <;> exact h) (fin e'.val p.2 true ?_ ?_ (by rw [k1]; rfl) (by rw [k1]; rfl))
    · unfold Instr.lookup
      simp only [Sem.run_bind, run_underlying hu, Result.andThen_ok, MapKept.run_getObj_map g2, Sem.run_pure, hchk es.isEmpty 9999, Instr.findKey, run_underlying huk, k2]
    · obtain ⟨_, cs, hK, hm'⟩ := k6
      cases b with
      | true => exact ⟨cs, hm', ex_ok hK⟩
      | false =>
        have hm' : cs = [e'.val] := hm'
        subst hm'
        obtain ⟨c, hc, hc2⟩ := (ex_ok (ρ := ρ) (nx := st.nx) hK).symmOne
        exact ⟨c, hc, hc2⟩
theorem evOp_ok (cx : Cx) (hT : TabOk P cx.tab) (hE : EqOk P cx.eqs) (hN : Now P ρ ok w st a hp') {r : Res} (h : evOp cx st.nx o.op (opd st.env) hp' = some r) (hb : r.c = true) : OpOk P o a ρ ok w st r := by
  cases ho : o.op with
  | move x => rw [ho] at h; exact move_ok cx hN (.inl ho) h
  | assign x => rw [ho] at h; exact move_ok cx hN (.inr ho) h
  | pick c x y => rw [ho] at h; exact pick_ok cx hN ho h
  | alloc e => rw [ho] at h; exact alloc_ok cx hT hN ho h
  | box e x => rw [ho] at h; exact box_ok cx hT hN ho h
  | build t parts => rw [ho] at h; exact build_ok cx hT hN ho h
  | buildSlice t len parts => rw [ho] at h; exact buildSlice_ok cx hT hN ho h
  | load t x => rw [ho] at h; exact load_ok cx hT hN ho h
  | store t x y => rw [ho] at h; exact store_ok cx hT hN ho h
  | nilCheck x => rw [ho] at h; exact nilCheck_ok cx hN ho h
  | binOp op t x y u => rw [ho] at h; exact binOp_ok cx hT hE hN ho h hb
  | unOp op t x => rw [ho] at h; exact unOp_ok cx hN ho h
  | convert s d x => rw [ho] at h; exact convert_ok cx hT hN ho h
  | makeFunc fn first caps =>
    rw [ho] at h
    cases fn with
    | func f => exact makeFunc_ok cx hN ho h
    | _ => cases h
  | slice t x lo hi mx =>
    rw [ho] at h
    cases mx with
    | none => exact slice_ok cx hT hN ho h hb
    | some m => cases h
  | fieldAddr s x f => rw [ho] at h; exact fieldAddr_ok cx hT hN ho h
  | field t x f => rw [ho] at h; exact field_ok cx hT hN ho h
  | indexAddr t x y => rw [ho] at h; exact indexAddr_ok cx hT hN ho h hb
  | index t x y => rw [ho] at h; exact index_ok cx hT hN ho h hb
  | extract x n => rw [ho] at h; exact extract_ok cx hN ho h
  | makeInterface t x => rw [ho] at h; exact makeInterface_ok cx hT hN ho h
  | typeAssert x xt t two =>
    rw [ho] at h
    cases two with
    | true => exact assert_ok cx hT hN ho h
    | false => cases h
  | makeMap t res =>
    rw [ho] at h
    cases res with
    | none => exact makeMap_ok cx hT hN ho h
    | some x => cases h
  | insert t m k x => rw [ho] at h; exact insert_ok cx hT hN (.inl ho) h
  | mapUpdate t m k x => rw [ho] at h; exact insert_ok cx hT hN (.inr ho) h
  | lookup t m k two => rw [ho] at h; exact lookup_ok cx hT hN ho h
  | call c =>
    rw [ho] at h
    obtain ⟨callee, args, ts⟩ := c
    cases callee with
    | builtin b =>
      cases b with
      | len => exact len_ok cx hT hN ho h
      | append => exact append_ok cx hT hN ho h hb
      | clear => exact clear_ok cx hT hN ho h
      | _ => cases h
    | _ => cases h
  | _ => rw [ho] at h; cases h
end
end Lv
