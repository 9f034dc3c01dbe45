import Derived.Test.YtnogebfcpicghaaGreatDoorEvV
import Derived.Lib.AppendZerosOnto
import Derived.Lib.Overlaps
import Derived.Laws.Externs
import Derived.Laws.CopyRow
import Derived.Lib.JoinLaws
set_option linter.all false
set_option linter.unusedVariables false
set_option linter.unusedSimpArgs false
set_option linter.unusedSectionVars false
namespace Lv
variable [HasG]
open Go Go.RowKit

section
variable {P : Program}
/-- copy, into a row of the call's own, of elements of whatever size -/
theorem run_copy_own (w : World) (dT sT ty elem size : Nat) (g o dLen dCap : Nat) (a : Addr) (sLen sCap : Nat) (cur : Array Value) (t : TypeId) (cs : List Value)
    (hu : P.underlying dT = some (.slice elem)) (hs : (P.info? elem).map (·.size) = some size)
    (hg : w.heap[g]? = some (.cells cur t (0, 0))) (hn : cs.length = Nat.min sLen dLen * size)
    (hsrc : ∀ j v, cs[j]? = some v → w.cell? (a.add j) = some v) (hfit : o + cs.length ≤ cur.size) (h1 : ∀ v ∈ cs, v.oneCell' = true) :
    (Builtin.copy_ #[dT, sT] ty #[.slice (some ⟨g, o, none⟩) dLen dCap, .slice (some a) sLen sCap]).run P w =
      .ok (goInt (Nat.min sLen dLen)) (w.setRow g (cur.toList.take o ++ cs ++ cur.toList.drop (o + cs.length)).toArray) := by
  have hl := run_loadCells_list (P := P) w a cs hsrc
  have hst := run_storeCells_at P g o t cs 0 cur w hg (by simpa using hfit) h1
  cases hq : P.info? elem with
  | none => simp [hq] at hs
  | some i =>
    have hi : i.size = size := by simpa [hq] using hs
    simp [Builtin.copy_, run_underlying hu, Builtin.lenOf, Builtin.firstCells, Go.sizeOf, typeInfo, hq, hi, ← hn, hl, hst]

theorem wp_copy_run' (w : World) {o : Oper} {a : Act} {K : Act → World → Prop} {Q : Exit → Act → World → Prop} (d s : Operand) (t t' : TypeId)
    (ho : o.op = .call { callee := .builtin .copy, args := #[d, s], argTypes := #[t, t'] }) (v u : Value) (hd : a.eval d = v) (hs : a.eval s = u) {v' : Value} {w' : World}
    (hr : (Builtin.copy_ #[t, t'] o.type #[v, u]).run P w = .ok v' w') (h : K (a.put o.dst v') w') : o.wp P a w K Q := by
  unfold Oper.wp execOp
  simp only [ho, resolve, invoke, builtin, Sem.run_bind, Sem.run_pure, Result.andThen_ok, List.map_toArray, List.map_cons, List.map_nil, hd, hs, hr]
  exact h

theorem wpList_copy_run' (w : World) {ops : Array Oper} {rest : List Oper} {o : Oper} {a : Act} {Q : Exit → Act → World → Prop} (hgd : o.guard = none) (d s : Operand) (t t' : TypeId)
    (ho : o.op = .call { callee := .builtin .copy, args := #[d, s], argTypes := #[t, t'] }) (v u : Value) (hd : a.eval d = v) (hs : a.eval s = u) {v' : Value} {w' : World}
    (hr : (Builtin.copy_ #[t, t'] o.type #[v, u]).run P w = .ok v' w') (h : wpList P ops Q rest (a.put o.dst v') w') : wpList P ops Q (o :: rest) a w :=
  wpList_plain hgd fun _ hK => wp_copy_run' w d s t t' ho v u hd hs hr (hK _ _ h)

theorem step_copy_run' {ops : Array Oper} {o : Oper} {a : Act} {w : World} {K : Act → World → Prop} {Q : Exit → Act → World → Prop} {E : Prop}
    (hg : o.guard = none) (d x : Operand) (dT sT : TypeId) (hop : o.op = Op.call { callee := Callee.builtin Builtin.copy, args := #[d, x], argTypes := #[dT, sT] })
    (v u : Value) (hd : a.eval d = v) (hx : a.eval x = u) {v' : Value} {w' : World} (hr : (Builtin.copy_ #[dT, sT] o.type #[v, u]).run P w = .ok v' w') (hK : K (a.put o.dst v') w') :
    if Region.wanted o (yielded ops a.tmps) = true then Oper.wp P o a w K Q else E := by
  have hw : Region.wanted o (yielded ops a.tmps) = true := by simp [Region.wanted, hg]
  rw [if_pos hw]
  unfold Oper.wp
  simp [execOp, hop, resolve, invoke, builtin, hd, hx, hr, Result.andThen]
  exact hK
end
end Lv
namespace Lv
variable [HasG]
open Go Go.RowKit
/-- slices.Insert at rows of the call's own -/
def InsOk (P : Program) (f e size bytes : Nat) : Prop := ∀ (w : World) (sv vv : Value) (n m i : Nat) (cs vs : List Value), w.ownsRow 0 e size sv n cs → w.ownsRow 0 e size vv m vs → (∀ b, blk sv = some b → blk vv ≠ some b) →
  i ≤ n → 0 < m → (n + m) * bytes ≤ 140737488355328 → n + m ≤ 140737488355328 → (∀ u ∈ cs, u.oneCell' = true) → (∀ u ∈ vs, u.oneCell' = true) →
  Calls P f #[sv, .int .i64 i, vv] w fun e' w' => ∃ v', e' = .returned v' ∧ w'.ownsRow 0 e size v' (n + m) (cs.take (i * size) ++ vs ++ cs.drop (i * size)) ∧ w'.os = w.os ∧ w'.tape = w.tape ∧ Quiet w w' ∧ w.heap.size ≤ w'.heap.size ∧
    (∀ b, b < w.heap.size → blk sv ≠ some b → w'.heap[b]? = w.heap[b]?) ∧ (∀ b, blk v' = some b → w.heap.size ≤ b ∨ blk sv = some b)

theorem add_block (a : Addr) (j : Nat) : (a.add j).block = a.block := by unfold Addr.add; split <;> rfl
section
variable {w : World} {e size : Nat} {v : Value} {n : Nat} {xs : List Value}
theorem own_some (h : w.ownsRow 0 e size v n xs) (hn : 0 < n) : ∃ g cap cur, v = .slice (some ⟨g, 0, none⟩) n cap ∧ w.heap[g]? = some (.cells cur e (0, 0)) ∧ n ≤ cap ∧ cap ≤ maxLen ∧ cur.size = cap * size ∧ cur.toList.take (n * size) = xs := by
  rcases h.2 with ⟨_, h0⟩ | ⟨g, cap, cur, h1, _, h2, h3, h4, h5, h6⟩
  · omega
  · exact ⟨g, cap, cur, h1, h2, h3, h4, h5, h6⟩
theorem own_slice (h : w.ownsRow 0 e size v n xs) : ∃ A c, v = .slice A n c := by
  rcases h.2 with ⟨h0, h1⟩ | ⟨g, cap, cur, h1, _⟩
  · subst h1; exact ⟨none, 0, h0⟩
  · exact ⟨_, _, h1⟩
theorem own_cap {A : Option Addr} {c : Nat} (h : w.ownsRow 0 e size (.slice A n c) n xs) : n ≤ c := by
  rcases h.2 with ⟨h0, h1⟩ | ⟨g, cap, cur, h1, _, h2, h3, h4, h5, h6⟩
  · omega
  · cases h1; exact h3
theorem own_cap63 {A : Option Addr} {c : Nat} (h : w.ownsRow 0 e size (.slice A n c) n xs) : c ≤ 9223372036854775807 := by
  rcases h.2 with ⟨h0, h1⟩ | ⟨g, cap, cur, h1, _, h2, h3, h4, h5, h6⟩
  · cases h0; omega
  · cases h1; exact h4
theorem own_nil {c : Nat} (h : w.ownsRow 0 e size (.slice none n c) n xs) : n = 0 ∧ c = 0 := by
  rcases h.2 with ⟨h0, h1⟩ | ⟨g, cap, cur, h1, _, h2, h3, h4, h5, h6⟩
  · cases h0; exact ⟨rfl, rfl⟩
  · cases h1
end

/-- the row of an insertion in place -/
theorem ins_row {cur cs vs : List Value} {i n m size c : Nat} (hcur : cur.length = c * size) (ht : cur.take (n * size) = cs) (hv : vs.length = m * size) (hin : i ≤ n) (hroom : n + m ≤ c)
    {row1 row2 : List Value} (h1 : row1 = cur.take ((i + m) * size) ++ cs.drop (i * size) ++ cur.drop ((i + m) * size + (cs.drop (i * size)).length)) (h2 : row2 = row1.take (i * size) ++ vs ++ row1.drop (i * size + vs.length)) :
    row1.length = c * size ∧ row2.length = c * size ∧ row2.take ((n + m) * size) = cs.take (i * size) ++ vs ++ cs.drop (i * size) := by
  have e1 : (i + m) * size = i * size + m * size := Nat.add_mul _ _ _
  have e2 : (n + m) * size = n * size + m * size := Nat.add_mul _ _ _
  have e3 : i * size ≤ n * size := Nat.mul_le_mul_right _ hin
  have e4 : (n + m) * size ≤ c * size := Nat.mul_le_mul_right _ hroom
  rw [e1] at h1
  rw [e2] at e4 ⊢
  generalize i * size = a at *
  generalize m * size = b at *
  generalize n * size = k at *
  generalize c * size = L at *
  have hcs : cs.length = k := by rw [← ht, List.length_take]; omega
  have hd : (cs.drop a).length = k - a := by rw [List.length_drop, hcs]
  have ha : cur.take a = cs.take a := by rw [← ht, List.take_take, Nat.min_eq_left e3]
  have l1 : row1.length = L := by rw [h1]; simp only [List.length_append, List.length_take, hd, List.length_drop]; omega
  have t1 : row1.take a = cs.take a := by
    rw [h1, List.append_assoc, List.take_append_of_le_length (by rw [List.length_take]; omega), List.take_take, Nat.min_eq_left (by omega), ha]
  have d1 : row1.drop (a + b) = cs.drop a ++ cur.drop (a + b + (cs.drop a).length) := by
    rw [h1, List.append_assoc]
    exact List.drop_left' (by rw [List.length_take]; omega)
  rw [t1, hv, d1] at h2
  refine ⟨l1, ?_, ?_⟩
  · rw [h2]; simp only [List.length_append, List.length_take, hd, List.length_drop, hv, hcs]; omega
  · rw [h2, ← List.append_assoc]
    exact List.take_left' (by simp only [List.length_append, List.length_take, hd, hv, hcs]; omega)

/-- .. and in a new one -/
theorem ins_new {z1 z2 cs vs : List Value} {i n m size G : Nat} (hcs : cs.length = n * size) (hz1 : z1.length = (n + m - i) * size) (hz2 : z2.length = (G - (n + m)) * size) (hv : vs.length = m * size) (hin : i ≤ n) (hG : n + m ≤ G)
    {row row1 row2 : List Value} (h0 : row = cs.take (i * size) ++ z1 ++ z2) (h1 : row1 = row.take (i * size) ++ vs ++ row.drop (i * size + vs.length)) (h2 : row2 = row1.take ((i + m) * size) ++ cs.drop (i * size) ++ row1.drop ((i + m) * size + (cs.drop (i * size)).length)) :
    row.length = G * size ∧ row1.length = G * size ∧ row2.length = G * size ∧ row2.take ((n + m) * size) = cs.take (i * size) ++ vs ++ cs.drop (i * size) := by
  have e1 : (i + m) * size = i * size + m * size := Nat.add_mul _ _ _
  have e2 : (n + m) * size = n * size + m * size := Nat.add_mul _ _ _
  have e3 : i * size ≤ n * size := Nat.mul_le_mul_right _ hin
  have e4 : (n + m) * size ≤ G * size := Nat.mul_le_mul_right _ hG
  rw [Nat.sub_mul] at hz1 hz2
  rw [e1] at h2
  rw [e2] at e4 hz1 hz2 ⊢
  generalize i * size = a at *
  generalize m * size = b at *
  generalize n * size = k at *
  generalize G * size = L at *
  have hd : (cs.drop a).length = k - a := by rw [List.length_drop, hcs]
  have ht : (cs.take a).length = a := by rw [List.length_take]; omega
  have l0 : row.length = L := by rw [h0]; simp only [List.length_append, ht, hz1, hz2]; omega
  have t0 : row.take a = cs.take a := by
    rw [h0, List.append_assoc]
    exact List.take_left' ht
  have l1 : row1.length = L := by rw [h1]; simp only [List.length_append, List.length_take, List.length_drop, l0, hv]; omega
  have t1 : row1.take (a + b) = cs.take a ++ vs := by
    rw [h1, t0]
    exact List.take_left' (by simp only [List.length_append, ht, hv])
  refine ⟨l0, l1, ?_, ?_⟩
  · rw [h2]; simp only [List.length_append, List.length_take, List.length_drop, l1, hcs]; omega
  · rw [h2, t1]
    exact List.take_left' (by simp only [List.length_append, ht, hd, hv]; omega)
end Lv
namespace Lv
variable [HasG]
open Go Go.RowKit
def insSi (e : Nat) (t : Ty) : Sh := ⟨[(0, .v false [.ref 0]), (1, .v false [.int .i64]), (2, .v false [.ref 1])], [(0, true, .arr e t), (1, true, .arr e t)], [], 2, []⟩
def insSo (e : Nat) (t : Ty) : Sh := ⟨[(0, .v false [.ref 1000])], [(1000, false, .arr e t)], [], 1001, []⟩
open Classical in
/-- slices.Insert of at least one -/
noncomputable def insL {α : Type} (cap : Nat) : Int × List α × List α × Unit → Option (List α × Unit) := fun (i, s, v, _) =>
  if 0 ≤ i ∧ i.toNat ≤ s.length ∧ 0 < v.length ∧ s.length + v.length ≤ cap then some (s.take i.toNat ++ v ++ s.drop i.toNat, ()) else none

theorem insL_some {α : Type} {cap : Nat} {i : Int} {s v : List α} (h1 : 0 ≤ i) (h2 : i.toNat ≤ s.length) (h3 : 0 < v.length) (h4 : s.length + v.length ≤ cap) : insL cap (i, s, v, ()) = some (s.take i.toNat ++ v ++ s.drop i.toNat, ()) := by
  unfold insL
  simp only [if_pos (show 0 ≤ i ∧ i.toNat ≤ s.length ∧ 0 < v.length ∧ s.length + v.length ≤ cap from ⟨h1, h2, h3, h4⟩)]
theorem ins_spec {P : Program} {f e size bytes cap : Nat} {t : Ty} (h : InsOk P f e size bytes) (hn : t.n = size) (hc : cap * bytes ≤ 140737488355328) (hc' : cap ≤ 140737488355328) : SpecOk P f ⟨3, insSi e t, insSo e t, insL (α := t.T) cap⟩ := by
  subst hn
  rintro ⟨i, s, v, u⟩ y hy ρ ok w args hsz hH hE
  have hy : insL (α := t.T) cap (i, s, v, u) = some y := hy
  unfold insL at hy
  simp only at hy
  split at hy <;> try (cases hy; done)
  rename_i hcond
  obtain ⟨hi0, hi1, hm, hcap⟩ := hcond
  cases hy
  have hp : hpOut (insSi e t) id (i, s, v, u) = Lv.put (Lv.put (fun _ => none) 1 (some (.arr e t v))) 0 (some (.arr e t s)) := rfl
  rw [hp] at hH ⊢
  have hO0 := hH.ob 0 (.arr e t s) rfl
  have hO1 := hH.ob 1 (.arr e t v) rfl
  obtain ⟨_, in0, o0, r0⟩ := hO0
  obtain ⟨_, in1, o1, r1⟩ := hO1
  obtain ⟨v0, a0, c0, k0, g0⟩ := hE 0 (.v false [.ref 0]) rfl
  obtain ⟨v1, a1, c1, k1, g1⟩ := hE 1 (.v false [.int .i64 i]) rfl
  obtain ⟨v2, a2, c2, k2, g2⟩ := hE 2 (.v false [.ref 1]) rfl
  cases k0; cases k1; cases k2
  have g0 : v0 = ρ 0 := g0.2.1
  have g1 : v1 = .int .i64 i := g1
  have g2 : v2 = ρ 1 := g2.2.1
  subst g0 g1 g2
  have ha : args = #[ρ 0, .int .i64 ((i.toNat : Nat) : Int), ρ 1] := by
    rw [Int.toNat_of_nonneg hi0]
    obtain ⟨l⟩ := args
    match l, hsz, a0, a1, a2 with
    | [x, y, z], _, a0, a1, a2 => simp at a0 a1 a2; rw [a0, a1, a2]
  subst ha
  have hb : (s.length + v.length) * bytes ≤ 140737488355328 := Nat.le_trans (Nat.mul_le_mul_right _ hcap) hc
  refine (h w (ρ 0) (ρ 1) s.length v.length i.toNat in0 in1 o0 o1 (fun b hb hb' => by
    have := hH.dis 0 1 _ _ b rfl rfl rfl rfl hb hb'
    omega) hi1 hm hb (by omega) r0.one r1.one).mono ?_
  rintro e' w' ⟨v', rfl, q1, q2, q3, q4, q5, q6, q7⟩
  have hS : Same ok ok w w' := fun b hb => ⟨hb, q6 b (hH.okl b hb) fun e' => hH.sep 0 _ b rfl rfl e' hb⟩
  refine ⟨v', fun l => if l = 1000 then v' else ρ l, ok, rfl, ⟨?_, ?_, ?_, ?_, hH.gl.move hS⟩, ?_, ⟨q2, q3, q4, q5, ?_, fun b h => h, fun b h => .inl h, ?_, ?_⟩⟩
  · intro l o ho
    have ho : Lv.put (fun _ => none) 1000 (some (.arr e t (s.take i.toNat ++ v ++ s.drop i.toNat))) l = some o := ho
    simp only [Lv.put] at ho
    split at ho
    · rename_i hl
      have := Nat.eq_of_beq_eq_true hl
      subst this
      cases ho
      refine ⟨Nat.lt_succ_self 1000, _, ?_, (((rows_take r0 i.toNat hi1).app r1).app (rows_drop r0 i.toNat hi1)).move hS⟩
      simp only [if_true]
      have hl : (s.take i.toNat ++ v ++ s.drop i.toNat).length = s.length + v.length := by simp; omega
      exact hl ▸ q1
    · cases ho
  · intro b hb
    exact Nat.lt_of_lt_of_le (hH.okl b hb) q5
  · intro l o b ho hw hb
    have ho : Lv.put (fun _ => none) 1000 (some (.arr e t (s.take i.toNat ++ v ++ s.drop i.toNat))) l = some o := ho
    simp only [Lv.put] at ho
    split at ho
    · rename_i hl
      have := Nat.eq_of_beq_eq_true hl
      subst this
      simp only [if_true] at hb
      rcases q7 b hb with h | h
      · intro hok
        have := hH.okl b hok
        omega
      · exact hH.sep 0 _ b rfl rfl h
    · cases ho
  · intro l m o p b ho hp' _ _ _ _
    have ho : Lv.put (fun _ => none) 1000 (some (.arr e t (s.take i.toNat ++ v ++ s.drop i.toNat))) l = some o := ho
    have hp' : Lv.put (fun _ => none) 1000 (some (.arr e t (s.take i.toNat ++ v ++ s.drop i.toNat))) m = some p := hp'
    simp only [Lv.put] at ho hp'
    split at ho
    · rename_i hl
      split at hp'
      · rename_i hm
        rw [Nat.eq_of_beq_eq_true hl, Nat.eq_of_beq_eq_true hm]
      · cases hp'
    · cases ho
  · intro q sl hs
    have hs : Lv.put (fun _ => none) 0 (some (Slot.v false [.ref 1000])) q = some sl := hs
    simp only [Lv.put] at hs
    split at hs
    · rename_i ht
      have := Nat.eq_of_beq_eq_true ht
      subst this
      cases hs
      refine ⟨v', rfl, _, rfl, Nat.lt_succ_self 1000, by simp, ?_⟩
      rcases q1.2 with ⟨e', _⟩ | ⟨_, _, _, e', _⟩ <;> rw [e'] <;> rfl
    · cases hs
  · intro b hb hne
    exact q6 b hb (hne 0 _ rfl rfl)
  · intro l o ho hl
    have ho : Lv.put (fun _ => none) 1000 (some (.arr e t (s.take i.toNat ++ v ++ s.drop i.toNat))) l = some o := ho
    simp only [Lv.put] at ho
    split at ho
    · rename_i hl'
      have := Nat.eq_of_beq_eq_true hl'
      omega
    · cases ho
  · intro l o b ho _ _ hb
    have ho : Lv.put (fun _ => none) 1000 (some (.arr e t (s.take i.toNat ++ v ++ s.drop i.toNat))) l = some o := ho
    simp only [Lv.put] at ho
    split at ho
    · rename_i hl'
      have := Nat.eq_of_beq_eq_true hl'
      subst this
      simp only [if_true] at hb
      rcases q7 b hb with h | h
      · exact .inl h
      · exact .inr ⟨0, _, rfl, rfl, h⟩
    · cases ho
end Lv
