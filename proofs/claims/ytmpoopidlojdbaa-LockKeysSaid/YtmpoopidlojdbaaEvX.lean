import Derived.Test.YtmpoopidlojdbaaEvW
import Derived.Shelf.SlSortCmp.NoneTotal
set_option linter.all false
set_option linter.unusedVariables false
set_option linter.unusedSimpArgs false
set_option linter.unusedSectionVars false
namespace Lv
open Go Go.RowKit Go.Sort Go.Shelf Go.Proofs

/-! ## slices.SortFunc -/
/-- ys is xs sorted, and nothing else is -/
structure IsSort {T : Type} (cmpF : T → T → Option Int) (xs ys : List T) : Prop where
  small : xs.length < 4611686018427387904
  ex : ∃ cmp : T → T → Int, (∀ x ∈ xs, ∀ y ∈ xs, cmpF x y = some (cmp x y)) ∧ (∀ x ∈ xs, ¬ cmp x x < 0) ∧ (∀ x ∈ xs, ∀ y ∈ xs, ∀ z ∈ xs, cmp x y < 0 → cmp y z < 0 → cmp x z < 0) ∧
    (∀ x ∈ xs, ∀ y ∈ xs, ∀ z ∈ xs, ¬ cmp x y < 0 → ¬ cmp y z < 0 → ¬ cmp x z < 0) ∧ (∀ x ∈ xs, ∀ y ∈ xs, ¬ cmp x y < 0 → ¬ cmp y x < 0 → x = y) ∧ ys.Perm xs ∧ ys.Pairwise fun x y => ¬ cmp y x < 0

theorem perm_sorted_eq {T : Type} {le : T → T → Prop} : ∀ {xs ys : List T}, xs.Perm ys → (∀ x ∈ xs, ∀ y ∈ xs, le x y → le y x → x = y) → xs.Pairwise le → ys.Pairwise le → xs = ys
  | [], ys, hp, _, _, _ => by rw [List.nil_perm.1 hp]
  | x :: xs, [], hp, _, _, _ => by cases hp.length_eq
  | x :: xs, y :: ys, hp, ha, h1, h2 => by
    obtain ⟨p1, p2⟩ := List.pairwise_cons.1 h1
    obtain ⟨q1, q2⟩ := List.pairwise_cons.1 h2
    have hxy : x = y := by
      have hx : x ∈ y :: ys := hp.subset List.mem_cons_self
      have hy : y ∈ x :: xs := hp.symm.subset List.mem_cons_self
      rcases List.mem_cons.1 hx with e | hx'
      · exact e
      · rcases List.mem_cons.1 hy with e | hy'
        · exact e.symm
        · exact ha x List.mem_cons_self y hy (p1 y hy') (q1 x hx')
    subst hxy
    rw [perm_sorted_eq (List.Perm.cons_inv hp) (fun a ha' b hb => ha a (List.mem_cons_of_mem _ ha') b (List.mem_cons_of_mem _ hb)) p2 q2]

theorem IsSort.uniq {T : Type} {cmpF : T → T → Option Int} {xs ys zs : List T} (h : IsSort cmpF xs ys) (k : IsSort cmpF xs zs) : ys = zs := by
  obtain ⟨c, a1, a2, a3, a4, a5, a6, a7⟩ := h.ex
  obtain ⟨d, b1, b2, b3, b4, b5, b6, b7⟩ := k.ex
  have e : ∀ x ∈ xs, ∀ y ∈ xs, c x y = d x y := fun x hx y hy => by
    have := a1 x hx y hy
    rw [b1 x hx y hy] at this
    exact (Option.some.inj this).symm
  refine perm_sorted_eq (le := fun x y => ¬ c y x < 0) (a6.trans b6.symm) (fun x hx y hy h1 h2 => a5 x (a6.subset hx) y (a6.subset hy) h2 h1) a7 (b7.imp_of_mem fun hx hy h => ?_)
  rw [e _ (b6.subset hy) _ (b6.subset hx)]
  exact h

open Classical in
noncomputable def sortL {T : Type} (cmpF : T → T → Option Int) : List T × Unit → Option (List T × Unit) := fun (xs, _) =>
  if h : ∃ ys, IsSort cmpF xs ys then some (choose h, ()) else none
theorem sortL_some {T : Type} {cmpF : T → T → Option Int} {xs ys : List T} (h : IsSort cmpF xs ys) : sortL cmpF (xs, ()) = some (ys, ()) := by
  unfold sortL
  have hh : ∃ ys, IsSort cmpF xs ys := ⟨ys, h⟩
  simp only [dif_pos hh]
  rw [(Classical.choose_spec hh).uniq h]

/-- a comparison of two structs -/
abbrev cmpSi (t : Ty) : Sh := ⟨argSl 0 [(t, true), (t, true)], [], [], 0⟩
def cmpSo : Sh := ⟨[(0, .v false [.int .i64])], [], [], 1000⟩
def cmpOf (t : Ty) (G : TS (cmpSi t) → Option (TS cmpSo)) (x y : t.T) : Option Int := (G (argX 0 [(t, true), (t, true)] (x, y, ()))).map fun p => p.1
def sortSi (g e : Nat) (t : Ty) : Sh := ⟨[(0, .v false [.ref 0]), (1, .v false [.fn g])], [(0, true, .arr e t)], [], 1⟩
def sortSo (e : Nat) (t : Ty) : Sh := ⟨[(0, .tup [])], [(0, true, .arr e t)], [], 1001⟩

theorem K_zero (ok : Nat → Prop) (w : World) : ∀ t : Ty, ∃ cs, K ok w t t.z cs
  | .int _ => ⟨_, rfl⟩
  | .bool => ⟨_, rfl⟩
  | .str => ⟨_, rfl⟩
  | .val => ⟨_, rfl, rfl⟩
  | .unit => ⟨_, rfl⟩
  | .pair a b => by
    obtain ⟨c, hc⟩ := K_zero ok w a
    obtain ⟨d, hd⟩ := K_zero ok w b
    exact ⟨c ++ d, c, d, rfl, hc, hd⟩
  | .sl e t => ⟨[.slice none 0 0], none, 0, rfl, Nat.le_refl _, .inl rfl⟩

theorem world_grow {w w' : World} (h1 : w'.os = w.os) (h2 : w'.tape = w.tape) (h3 : Quiet w w') (h4 : w.heap.size ≤ w'.heap.size) (h5 : ∀ b, b < w.heap.size → w'.heap[b]? = w.heap[b]?) : ∃ q os, w' = grow (w.drewN q) os := by
  refine ⟨w'.drawn - w.drawn, w'.heap.extract w.heap.size w'.heap.size, ?_⟩
  obtain ⟨hp, tp, dr, os, out⟩ := w
  obtain ⟨hp', tp', dr', os', out'⟩ := w'
  obtain ⟨q1, q2⟩ := h3
  simp only at h1 h2 q1 q2 h4 h5
  subst h1 h2 q1
  simp only [grow, World.drewN, World.mk.injEq, true_and, and_true]
  refine ⟨?_, by omega⟩
  apply Array.ext_getElem?
  intro i
  by_cases hi : i < hp.size
  · rw [h5 i hi, Array.getElem?_append_left hi]
  · rw [Array.getElem?_append_right (by omega), Array.getElem?_extract]
    split
    · congr 1; omega
    · rename_i hh
      exact Array.getElem?_eq_none (by omega)

set_option linter.unusedSectionVars false
section
variable {α : Type} [Inhabited α]
theorem flatten_at (enc : α → List Value) (k : Nat) (hk : ∀ x, (enc x).length = k) : ∀ (L : List α) (t : Nat), t < L.length * k → ((L.map enc).flatten)[t]? = some ((enc (L[t / k]!))[t % k]!)
  | [], t, h => by simp at h
  | x :: L, t, h => by
    have k0 : 0 < k := by rcases Nat.eq_zero_or_pos k with h' | h'; · subst h'; simp at h
                          · exact h'
    simp only [List.map_cons, List.flatten_cons]
    by_cases ht : t < k
    · rw [List.getElem?_append_left (by rw [hk]; exact ht), Nat.div_eq_of_lt ht, Nat.mod_eq_of_lt ht]
      simp only [List.getElem!_cons_zero]
      rw [List.getElem!_eq_getElem?_getD, List.getElem?_eq_getElem (by rw [hk]; exact ht)]
      rfl
    · rw [List.getElem?_append_right (by rw [hk]; omega), hk, flatten_at enc k hk L (t - k) (by simp only [List.length_cons, Nat.add_mul] at h; omega)]
      have e1 : t / k = (t - k) / k + 1 := by rw [Nat.div_eq_sub_div k0 (by omega)]
      have e2 : t % k = (t - k) % k := (Nat.mod_eq_sub_mod (by omega))
      rw [e1, e2]
      simp

theorem flatten_len (enc : α → List Value) (k : Nat) (hk : ∀ x, (enc x).length = k) : ∀ L : List α, ((L.map enc).flatten).length = L.length * k
  | [] => by simp
  | x :: L => by
    simp only [List.map_cons, List.flatten_cons, List.length_append, hk, flatten_len enc k hk L, List.length_cons, Nat.add_mul, Nat.one_mul]
    omega
theorem flatK_list (enc : α → List Value) (k : Nat) (hk : ∀ x, (enc x).length = k) (d : Array α) : (flatK enc k d).toList = (d.toList.map enc).flatten := by
  apply List.ext_getElem?
  intro t
  by_cases ht : t < d.size * k
  · rw [flatten_at enc k hk d.toList t (by simpa using ht)]
    rw [Array.getElem?_toList, getElem?_pos _ t (by simpa using ht)]
    congr 1
    have := get_flatK enc k d t ht
    rw [getElem!_pos _ t (by simpa using ht)] at this
    rw [this]
    have e : d[t / k]! = d.toList[t / k]! := by
      rw [List.getElem!_eq_getElem?_getD, Array.getElem!_eq_getD, Array.getD_eq_getD_getElem?, Array.getElem?_toList]
    rw [e]
  · have : ((d.toList.map enc).flatten).length = d.toList.length * k := flatten_len enc k hk d.toList
    rw [List.getElem?_eq_none (by simp; omega), List.getElem?_eq_none (by rw [this, Array.length_toList]; omega)]

theorem putCells_take (F cur : Array Value) (h : F.size ≤ cur.size) : (putCells id 0 F cur).size = cur.size ∧ (putCells id 0 F cur).toList.take F.size = F.toList := by
  refine ⟨by simp [putCells], ?_⟩
  apply List.ext_getElem?
  intro i
  rw [List.getElem?_take]
  split
  · rename_i hi
    rw [Array.getElem?_toList, Array.getElem?_toList]
    simp only [putCells, Array.getElem?_mapIdx]
    rw [getElem?_pos cur i (by omega), getElem?_pos F i hi]
    simp [hi]
  · rename_i hi
    rw [List.getElem?_eq_none (by simpa using hi)]
end

/-- elements with their cells -/
theorem rows_pairs {ok : Nat → Prop} {w : World} {t : Ty} {xs : List t.T} : ∀ {ys : List t.T} {css : List (List Value)}, All2 (K ok w t) ys css → (∀ y ∈ ys, y ∈ xs) →
    ∃ L : List {p : t.T × List Value // p.1 ∈ xs ∧ K ok w t p.1 p.2}, L.map (fun p => p.1.1) = ys ∧ L.map (fun p => p.1.2) = css
  | _, _, .nil, _ => ⟨[], rfl, rfl⟩
  | _, _, .cons (a := a) (b := b) h r, hm => by
    obtain ⟨L, e1, e2⟩ := rows_pairs r fun y hy => hm y (List.mem_cons_of_mem _ hy)
    exact ⟨⟨(a, b), hm a List.mem_cons_self, h⟩ :: L, by simp [e1], by simp [e2]⟩

theorem mapBlock_at {w : World} {blk b : Nat} {f : Array Value → Array Value} {c : Array Value} {e : TypeId} {fr : Nat × Nat} (h : w.heap[blk]? = some (.cells c e fr)) : (mapBlock w blk f).heap[blk]? = some (.cells (f c) e fr) := by
  simp [mapBlock, Array.getElem?_modify, h, onCells]
theorem mapBlock_ne {w : World} {blk b : Nat} {f : Array Value → Array Value} (h : b ≠ blk) : (mapBlock w blk f).heap[b]? = w.heap[b]? := by
  simp [mapBlock, Array.getElem?_modify, Ne.symm h]
theorem grow_at {w : World} {os : Array Obj} {b : Nat} (h : b < w.heap.size) : (grow w os).heap[b]? = w.heap[b]? := by
  simp only [grow]
  rw [Array.getElem?_append_left h]

theorem sort_spec {P : Program} {ρs : Shelf.Ren} {f g e : Nat} {t : Ty} {G : TS (cmpSi t) → Option (TS cmpSo)} (L : SlLaysF0.n6 P ρs) (hf : ρs.f 6 = f) (aE : ∀ w, (isAgg (ρs.t 24)).run P w = .ok true w) (zE : ∀ w, (Go.sizeOf (ρs.t 24)).run P w = .ok t.n w)
    (hen : Enters P g) (hG : SpecOk P g ⟨2, cmpSi t, cmpSo, G⟩) : SpecOk P f ⟨2, sortSi g e t, sortSo e t, sortL (cmpOf t G)⟩ := by
  subst hf
  rintro ⟨xs, u⟩ y hy ρ ok w args hsz hH hE
  have hy : sortL (cmpOf t G) (xs, u) = some y := hy
  unfold sortL at hy
  simp only at hy
  split at hy <;> try (cases hy; done)
  rename_i hex
  generalize hys : Classical.choose hex = ys at hy
  have hS : IsSort (cmpOf t G) xs ys := by rw [← hys]; exact Classical.choose_spec hex
  cases hy
  have hp : hpOut (sortSi g e t) id (xs, u) = Lv.put (fun _ => none) 0 (some (.arr e t xs)) := rfl
  rw [hp] at hH ⊢
  obtain ⟨_, inner, o0, r0⟩ := hH.ob 0 (.arr e t xs) rfl
  obtain ⟨v0, a0, c0, k0, g0⟩ := hE 0 (.v false [.ref 0]) rfl
  obtain ⟨v1, a1, c1, k1, g1⟩ := hE 1 (.v false [.val (.func (.func g) #[] #[])]) rfl
  cases k0; cases k1
  have g0' : v0 = ρ 0 := g0.2.1
  have g1' : v1 = .func (.func g) #[] #[] := g1.1
  subst g0' g1'
  have ha : args = #[ρ 0, .func (.func g) #[] #[]] := by
    obtain ⟨l⟩ := args
    match l, hsz, a0, a1 with
    | [x, y], _, a0, a1 => simp at a0 a1; rw [a0, a1]
  subst ha
  -- what is left to say
  have fin : ∀ (w' : World) (inner' : List Value), w'.ownsRow 0 e t.n (ρ 0) ys.length inner' → Rows ok w t ys inner' → w'.os = w.os → w'.tape = w.tape → Quiet w w' → w.heap.size ≤ w'.heap.size →
      (∀ b, b < w.heap.size → blk (ρ 0) ≠ some b → w'.heap[b]? = w.heap[b]?) →
      ∃ v ρ' ok', Ending.returned (.tuple #[]) = .returned v ∧ RepH ρ' ok' w' (hpOut (sortSo e t) id (ys, ())) (sortSo e t).nn ∧ RepE ρ' ok' w' (sortSo e t).nn (envOut (sortSo e t) id (ys, ())) #[v] ∧
        Exits (Lv.put (fun _ => none) 0 (some (.arr e t xs))) ρ ok w (hpOut (sortSo e t) id (ys, ())) ρ' ok' w' := by
    intro w' inner' q1 q2 q3 q4 q5 q6 q7
    have hM : Same ok ok w w' := fun b hb => ⟨hb, q7 b (hH.okl b hb) fun e' => hH.sep 0 _ b rfl rfl e' hb⟩
    have ho : hpOut (sortSo e t) id (ys, ()) = Lv.put (fun _ => none) 0 (some (.arr e t ys)) := rfl
    rw [ho]
    refine ⟨_, ρ, ok, rfl, ⟨?_, ?_, ?_, ?_⟩, ?_, ⟨q3, q4, q5, q6, ?_, fun b h => h, fun b h => .inl h, ?_, ?_⟩⟩
    · intro l o ho
      simp only [Lv.put] at ho
      split at ho
      · rename_i hl
        have := Nat.eq_of_beq_eq_true hl
        subst this
        cases ho
        exact ⟨Nat.succ_pos 1000, inner', q1, q2.move hM⟩
      · cases ho
    · intro b hb
      exact Nat.lt_of_lt_of_le (hH.okl b hb) q6
    · intro l o b ho hw hb
      simp only [Lv.put] at ho
      split at ho
      · rename_i hl
        have := Nat.eq_of_beq_eq_true hl
        subst this
        exact hH.sep 0 _ b rfl rfl hb
      · cases ho
    · intro l m o p b ho hp' _ _ _ _
      simp only [Lv.put] at ho hp'
      split at ho
      · rename_i hl
        split at hp'
        · rename_i hm
          rw [Nat.eq_of_beq_eq_true hl, Nat.eq_of_beq_eq_true hm]
        · cases hp'
      · cases ho
    · intro q sl hs
      have hs : Lv.put (fun _ => none) 0 (some (Slot.tup [])) q = some sl := hs
      simp only [Lv.put] at hs
      split at hs
      · rename_i ht
        have := Nat.eq_of_beq_eq_true ht
        subst this
        cases hs
        exact ⟨_, rfl, [], rfl, .nil⟩
      · cases hs
    · intro b hb hne
      exact q7 b hb (hne 0 _ rfl rfl)
    · intro l o ho hl
      simp only [Lv.put] at ho
      split at ho
      · rename_i hl'
        have := Nat.eq_of_beq_eq_true hl'
        subst this
        exact ⟨rfl, _, rfl, fun _ => rfl⟩
      · cases ho
    · intro l o b ho hl _ _
      simp only [Lv.put] at ho
      split at ho
      · rename_i hl'
        have := Nat.eq_of_beq_eq_true hl'
        omega
      · cases ho
  obtain ⟨cmp, s1, s2, s3, s4, s5, s6, s7⟩ := hS.ex
  by_cases hx : xs = []
  · subst hx
    have : ys = [] := List.Perm.eq_nil s6
    subst this
    obtain ⟨A, c, hv⟩ := own_slice o0
    rw [hv]
    refine (AnyF.slices_SortFunc_none L A c _ w).mono ?_
    rintro e' w' ⟨rfl, rfl⟩
    exact fin _ inner o0 r0 rfl rfl Quiet.rfl (Nat.le_refl _) fun _ _ _ => rfl
  · obtain ⟨b, cap, cur, hv, hg, hnc, hcm, hcs, htk⟩ := own_some o0 (List.length_pos_iff.2 hx)
    obtain ⟨css, hin, hall⟩ := r0
    obtain ⟨Ld, e1, e2⟩ := rows_pairs (xs := xs) hall fun y hy => hy
    obtain ⟨x0, hx0⟩ := List.exists_mem_of_ne_nil xs hx
    haveI : Inhabited {p : t.T × List Value // p.1 ∈ xs ∧ K ok w t p.1 p.2} := by
      match Ld, e1 with
      | [], e1 => exact absurd e1.symm hx
      | a :: _, _ => exact ⟨a⟩
    let enc : {p : t.T × List Value // p.1 ∈ xs ∧ K ok w t p.1 p.2} → List Value := fun p => p.1.2
    have hk : ∀ x, (enc x).length = t.n := fun x => K_len x.2.2
    have h1 : ∀ x, ∀ v ∈ enc x, v.oneCell' = true := fun x => K_one x.2.2
    let cf : {p : t.T × List Value // p.1 ∈ xs ∧ K ok w t p.1 p.2} → {p : t.T × List Value // p.1 ∈ xs ∧ K ok w t p.1 p.2} → Int := fun p q => cmp p.1.1 q.1.1
    have hO : SWO (ltOf cf) := by
      refine ⟨fun x => decide_eq_false (s2 _ x.2.1), fun x y z h1 h2 => decide_eq_true (s3 _ x.2.1 _ y.2.1 _ z.2.1 (of_decide_eq_true h1) (of_decide_eq_true h2)), fun x y z h1 h2 => decide_eq_false (s4 _ x.2.1 _ y.2.1 _ z.2.1 (of_decide_eq_false h1) (of_decide_eq_false h2))⟩
    have hdl : Ld.length = xs.length := by
      have := congrArg List.length e1
      rwa [List.length_map] at this
    have hfl : (flatK enc t.n Ld.toArray).toList = inner := by rw [flatK_list enc t.n hk, hin, ← e2]
    have hil : inner.length = xs.length * t.n := o0.1
    have hbw : b < w.heap.size := (Array.getElem?_eq_some_iff.1 hg).1
    have hnok : ¬ ok b := hH.sep 0 _ b rfl rfl (by rw [hv]; rfl)
    have hH0 : HoldsK enc t.n w b 0 Ld.toArray := by
      intro j hj
      have hj' : j < xs.length * t.n := by simpa [hdl] using hj
      refine ⟨?_, by simp [World.frozen?, hg]⟩
      have hc : cur.toList[j]? = some ((flatK enc t.n Ld.toArray)[j]!) := by
        have : (cur.toList.take (xs.length * t.n))[j]? = cur.toList[j]? := by rw [List.getElem?_take, if_pos hj']
        rw [← this, htk, ← hfl, Array.getElem?_toList, getElem?_pos _ j hj, getElem!_pos _ j hj]
      rw [Array.getElem?_toList] at hc
      simp only [World.cell?, hg, Nat.zero_add]
      simpa using hc
    have eg : ∀ args w, (callFunc g args).run P w = .ok (.enter g args) w := callFunc_run hen
    have hcmp : CmpLays P g #[] enc t.n cf b 0 Ld.toArray.size w := by
      intro m os dk hs x y
      have hM : Same ok ok w (sortWorldK enc t.n w b 0 m dk os) := fun q hq => ⟨hq, by
        have hqw := hH.okl q hq
        unfold sortWorldK putRowK putRow
        rw [grow_at (by simp [mapBlock, Sort.ahead]; exact hqw), mapBlock_ne (fun e => hnok (by rw [← e]; exact hq))]
        rfl⟩
      have hsz' : w.heap.size ≤ (sortWorldK enc t.n w b 0 m dk os).heap.size := by simp [sortWorldK, putRowK, putRow, mapBlock, grow, Sort.ahead]
      have hGy : G (argX 0 [(t, true), (t, true)] (x.1.1, y.1.1, ())) = some (cmp x.1.1 y.1.1, ()) := by
        have := s1 _ x.2.1 _ y.2.1
        unfold cmpOf at this
        cases hg' : G (argX 0 [(t, true), (t, true)] (x.1.1, y.1.1, ())) with
        | none => rw [hg'] at this; cases this
        | some p =>
          rw [hg'] at this
          have : p.1 = cmp x.1.1 y.1.1 := by simpa using this
          rw [← this]
          rfl
      rw [Array.append_empty]
      generalize hW : sortWorldK enc t.n w b 0 m dk os = W at hM hsz' ⊢
      have hkx := K_move hM x.2.2
      have hky := K_move hM y.2.2
      refine (hG _ _ hGy (fun _ => .bool true) ok W #[.agg (enc x).toArray, .agg (enc y).toArray] rfl ?_ ?_).mono ?_
      · exact ⟨fun l o h => (by cases h), fun q hq => Nat.lt_of_lt_of_le (hH.okl q hq) hsz', fun l o b h => (by cases h), fun l m o p b h => (by cases h)⟩
      · exact arg_repE (l := [(t, true), (t, true)]) (x := (x.1.1, y.1.1, ())) ⟨_, _, rfl, hkx, ⟨_, rfl⟩, _, _, rfl, hky, ⟨_, rfl⟩, rfl⟩ _ _
      · rintro e' w' ⟨v, ρ', ok', rfl, _, hE', hX⟩
        obtain ⟨v', z1, c, z2, z3⟩ := hE' 0 (.v false [.int .i64 (cmp x.1.1 y.1.1)]) rfl
        cases z2
        have z3 : v' = .int .i64 (cmp x.1.1 y.1.1) := z3
        subst z3
        have : v = .int .i64 (cmp x.1.1 y.1.1) := by simpa using z1
        subst this
        exact ⟨rfl, world_grow hX.os hX.tape hX.output hX.size fun q hq => hX.same q hq fun l o h => by cases h⟩
    have hsz62 : Ld.toArray.size < 4611686018427387904 := by simpa [hdl] using hS.small
    have hrun := AnyQ.slices_SortFunc L t.n aE zE enc hk h1 cf hO g #[] b 0 cap Ld.toArray w eg hcmp hH0 hbw hsz62
    have hsl : ρ 0 = .slice (some ⟨b, 0, none⟩) Ld.toArray.size cap := by rw [hv]; simp [hdl]
    rw [hsl]
    refine hrun.mono ?_
    rintro e' w' ⟨rfl, d', n, os, hp', hs', rfl⟩
    have hds : d'.size = xs.length := by rw [hp'.1]; simp [hdl]
    have hperm : d'.toList.Perm Ld := by
      have := hp'.2.2
      rw [show d'.extract 0 Ld.toArray.size = d' by rw [← hp'.1]; simp] at this
      simpa using this
    have hys' : d'.toList.map (fun p => p.1.1) = ys := by
      have hpz : (d'.toList.map (fun p => p.1.1)).Perm xs := by
        have := hperm.map (fun p => p.1.1)
        rwa [e1] at this
      refine perm_sorted_eq (le := fun x y => ¬ cmp y x < 0) (hpz.trans s6.symm) (fun x hx y hy h1 h2 => s5 x (hpz.subset hx) y (hpz.subset hy) h2 h1) ?_ s7
      rw [List.pairwise_map]
      refine List.pairwise_iff_getElem.2 fun i j hi hj hij => ?_
      have := hs' i j (Nat.zero_le _) hij (by simpa [hp'.1] using hj)
      rw [getElem!_pos d' i (by simpa using hi), getElem!_pos d' j (by simpa using hj)] at this
      have := of_decide_eq_false this
      simpa using this
    have hF : (flatK enc t.n d').size = xs.length * t.n := by simp [hds]
    have hle : (flatK enc t.n d').size ≤ cur.size := by rw [hF, hcs]; exact Nat.mul_le_mul_right _ hnc
    obtain ⟨pz, pt⟩ := putCells_take (flatK enc t.n d') cur hle
    have hgg : (sortWorldK enc t.n w b 0 n d' os).heap[b]? = some (.cells (putCells id 0 (flatK enc t.n d') cur) e (0, 0)) := by
      unfold sortWorldK putRowK putRow
      rw [grow_at (by simp [mapBlock, Sort.ahead]; exact hbw)]
      exact mapBlock_at (b := 0) (w := Sort.ahead w n) hg
    have hyl : ys.length = xs.length := by rw [← hys', List.length_map, Array.length_toList, hds]
    refine fin _ (flatK enc t.n d').toList ⟨?_, .inr ⟨b, cap, _, ?_, Nat.zero_le _, hgg, ?_, hcm, ?_, ?_⟩⟩ ⟨d'.toList.map (fun p => p.1.2), flatK_list enc t.n hk d', ?_⟩ rfl rfl ⟨rfl, ?_⟩ ?_ ?_
    · rw [Array.length_toList, hF, hyl]
    · rw [hyl, hv]
    · rw [hyl]; exact hnc
    · rw [pz, hcs]
    · rw [hyl, ← hF]; exact pt
    · rw [← hys']
      generalize d'.toList = l
      induction l with
      | nil => exact .nil
      | cons a l ih => exact .cons a.2.2 ih
    · show w.drawn ≤ w.drawn + n; omega
    · simp [sortWorldK, putRowK, putRow, mapBlock, grow, Sort.ahead]
    · intro q hq hne
      unfold sortWorldK putRowK putRow
      rw [grow_at (by simp [mapBlock, Sort.ahead]; exact hq), mapBlock_ne (fun e => hne (by rw [hv, e]; rfl))]
      rfl
end Lv
namespace Lv
open Go Go.RowKit
/-- a contract of the library's that turns nothing: two strings, a number -/
theorem str2_spec {P : Program} {f : Nat} {F : ByteArray → ByteArray → Int} (h : ∀ a b w, Calls P f #[.string a, .string b] w fun e w' => e = .returned (.int .i64 (F a b)) ∧ w' = w) :
    SpecOk P f ⟨2, ⟨[(0, .v false [.str]), (1, .v false [.str])], [], [], 0⟩, cmpSo, fun (a, b, _) => some (F a b, ())⟩ := by
  rintro ⟨a, b, u⟩ y hy ρ ok w args hn hH hE
  cases hy
  obtain ⟨v0, e0, c0, k0, r0⟩ := hE 0 (.v false [.str a]) rfl
  obtain ⟨v1, e1, c1, k1, r1⟩ := hE 1 (.v false [.str b]) rfl
  cases k0; cases k1
  have r0 : v0 = .string a := r0
  have r1 : v1 = .string b := r1
  subst r0 r1
  have ha : args = #[.string a, .string b] := by
    obtain ⟨l⟩ := args
    match l, hn, e0, e1 with
    | [x, y], _, e0, e1 => simp at e0 e1; subst e0 e1; rfl
  subst ha
  refine (h a b w).mono ?_
  rintro e w' ⟨rfl, rfl⟩
  refine ⟨_, ρ, ok, rfl, ⟨fun l o h => (by cases h), hH.okl, fun l o b h => (by cases h), fun l m o p b h => (by cases h)⟩, ?_,
    ⟨rfl, rfl, Quiet.rfl, Nat.le_refl _, fun _ _ _ => rfl, fun _ h => h, fun _ h => .inl h, fun _ _ h => (by cases h), fun _ _ _ h => (by cases h)⟩⟩
  intro t s hs
  have hs : Lv.put (fun _ => none) 0 (some (Slot.v false [.int .i64 (F a b)])) t = some s := hs
  simp only [Lv.put] at hs
  split at hs
  · rename_i ht
    have := Nat.eq_of_beq_eq_true ht
    subst this
    cases hs
    exact ⟨_, rfl, _, rfl, rfl⟩
  · cases hs
end Lv
