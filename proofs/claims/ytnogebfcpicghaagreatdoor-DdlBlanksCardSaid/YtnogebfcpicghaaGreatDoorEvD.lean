import Derived.Test.YtnogebfcpicghaaGreatDoorEvC
set_option linter.all false
set_option linter.unusedVariables false
set_option linter.unusedSimpArgs false
set_option linter.unusedSectionVars false
namespace Lv
variable [HasG]
open Go

/-! ## The types' table, against the program's -/
def fieldsB : List (Nat × Nat) → List Field → Bool
  | [], [] => true
  | (t, o) :: r, f :: s => Nat.beq t f.type && (Nat.beq o f.offset && fieldsB r s)
  | _, _ => false
def kindB : TK → TypeDesc → Bool
  | .int k, .int l => kb k l
  | .bool, .bool => true
  | .str, .string => true
  | .sl e, .slice f => Nat.beq e f
  | .st fs, .struct gs => fieldsB fs gs.toList
  | .arr n e, .array m f => Nat.beq n m && Nat.beq e f
  | .ptr, .pointer _ => true
  | .other, .map _ _ => true
  | .other, .func _ _ _ => true
  | .other, .interface _ => true
  | .ifc, .interface _ => true
  | .map k e, .map k' e' => Nat.beq k k' && Nat.beq e e'
  | _, _ => false
def zB : Value → Value → Bool
  | .int k a, .int l b => kb k l && decide (a = b)
  | .bool a, .bool b => a == b
  | .string s, .string u => Nat.beq s.size 0 && Nat.beq u.size 0
  | .slice none 0 0, .slice none 0 0 => true
  | .pointer none, .pointer none => true
  | .map none, .map none => true
  | .nilFunc, .nilFunc => true
  | .nilIface, .nilIface => true
  | _, _ => false
def zsB : List Value → List Value → Bool
  | [], [] => true
  | a :: r, b :: s => zB a b && zsB r s
  | _, _ => false
def aggV : Value → Bool
  | .agg _ => true
  | _ => false
def rowB (P : Program) (t : Nat) (i : TI) : Bool :=
  match P.info? t, P.underlying t with
  | some info, some d => kindB i.kind d && (Nat.beq info.size i.size && (Nat.beq info.bytes i.bytes && ((match info.zero with | some z => zsB z.cells.toList i.zero && (aggV z == i.agg) | none => false) &&
      ((match i.kind with | .st fs => fs.all fun f => Nat.blt 0 (P.cellsOf f.1) | _ => true) && ((match i.ty with | some ty => Nat.beq ty.n i.size | none => true) &&
      (Nat.ble (i.cap * i.bytes) 140737488355328 && (Nat.ble i.cap 140737488355328 && (Nat.blt 0 i.size && (Nat.beq i.zero.length i.size && (i.agg || Nat.beq i.size 1))))))))))
  | _, _ => false
def rowsB (P : Program) : List (Nat × TI) → Bool
  | [] => true
  | (t, i) :: r => rowB P t i && rowsB P r

theorem zB_eq : ∀ {a b : Value}, zB a b = true → a = b := by
  intro a b h
  unfold zB at h
  split at h <;> first | rfl | (cases h; done) | skip
  · have := Bool.and_eq_true_iff.1 h
    rw [kb_eq this.1, of_decide_eq_true this.2]
  · rw [eq_of_beq h]
  · rename_i s u
    have := Bool.and_eq_true_iff.1 h
    have h1 := Nat.eq_of_beq_eq_true this.1
    have h2 := Nat.eq_of_beq_eq_true this.2
    have e : ∀ x : ByteArray, x.size = 0 → x = ⟨#[]⟩ := fun x hx => by
      cases x with
      | mk d => congr 1; exact Array.eq_empty_of_size_eq_zero hx
    rw [e s h1, e u h2]
theorem zB_one : ∀ {a b : Value}, zB a b = true → b.oneCell' = true := by
  intro a b h
  unfold zB at h
  split at h <;> first | rfl | (cases h; done)
theorem zsB_eq : ∀ {a b : List Value}, zsB a b = true → a = b ∧ ∀ u ∈ b, u.oneCell' = true
  | [], [], _ => ⟨rfl, fun u hu => by cases hu⟩
  | a :: r, b :: s, h => by
    have h' := Bool.and_eq_true_iff.1 h
    obtain ⟨h1, h2⟩ := zsB_eq h'.2
    refine ⟨by rw [zB_eq h'.1, h1], fun u hu => ?_⟩
    rcases List.mem_cons.1 hu with rfl | hu
    · exact zB_one h'.1
    · exact h2 u hu

structure TIOk (P : Program) (t : Nat) (i : TI) : Prop where
  ex : ∃ info d z, P.info? t = some info ∧ P.underlying t = some d ∧ kindB i.kind d = true ∧ info.size = i.size ∧ info.bytes = i.bytes ∧ info.zero = some z ∧ z.cells.toList = i.zero ∧ aggV z = i.agg
  z1 : ∀ u ∈ i.zero, u.oneCell' = true
  fs : ∀ fs, i.kind = .st fs → ∀ f ∈ fs, 0 < P.cellsOf f.1
  ty : ∀ ty, i.ty = some ty → ty.n = i.size
  cap : i.cap * i.bytes ≤ 140737488355328
  cap' : i.cap ≤ 140737488355328
  pos : 0 < i.size
  zl : i.zero.length = i.size
  one : i.agg = true ∨ i.size = 1
def TabOk (P : Program) (tab : Nat → Option TI) : Prop := ∀ t i, tab t = some i → TIOk P t i

theorem rowB_ok {P : Program} {t : Nat} {i : TI} (h : rowB P t i = true) : TIOk P t i := by
  unfold rowB at h
  split at h
  · rename_i info d h1 h2
    simp only [Bool.and_eq_true] at h
    obtain ⟨a1, a2, a3, a4, a5, a6, a7, a8, a9, a10, a11⟩ := h
    split at a4
    · rename_i z hz
      obtain ⟨a4, az⟩ := Bool.and_eq_true_iff.1 a4
      obtain ⟨z1, z2⟩ := zsB_eq a4
      refine ⟨⟨info, d, z, h1, h2, a1, Nat.eq_of_beq_eq_true a2, Nat.eq_of_beq_eq_true a3, hz, z1, eq_of_beq az⟩, z2, ?_, ?_, Nat.le_of_ble_eq_true a7, Nat.le_of_ble_eq_true a8, Nat.le_of_ble_eq_true a9, Nat.eq_of_beq_eq_true a10, ?_⟩
      · intro fs hf f hm
        rw [hf] at a5
        exact Nat.le_of_ble_eq_true (List.all_eq_true.1 a5 f hm)
      · intro ty hty
        rw [hty] at a6
        exact Nat.eq_of_beq_eq_true a6
      · rcases Bool.or_eq_true_iff.1 a11 with h | h
        · exact .inl h
        · exact .inr (Nat.eq_of_beq_eq_true h)
    · cases a4
  · cases h
theorem tabOk_of {P : Program} : ∀ {rows : List (Nat × TI)}, rowsB P rows = true → TabOk P (tabAt rows)
  | [], _ => fun t i h => by cases h
  | (u, j) :: r, h => fun t i hi => by
    have h' := Bool.and_eq_true_iff.1 h
    unfold tabAt at hi
    by_cases e : Nat.beq u t = true
    · rw [if_pos e] at hi; cases hi
      rw [← Nat.eq_of_beq_eq_true e]
      exact rowB_ok h'.1
    · rw [if_neg e] at hi
      exact tabOk_of h'.2 t i hi

section
variable {P : Program} {t : Nat} {i : TI} (w : World)
theorem TIOk.info (h : TIOk P t i) : ∃ info z, P.info? t = some info ∧ info.size = i.size ∧ info.bytes = i.bytes ∧ info.zero = some z ∧ z.cells.toList = i.zero := by
  obtain ⟨info, d, z, h1, _, _, h4, h5, h6, h7, _⟩ := h.ex
  exact ⟨info, z, h1, h4, h5, h6, h7⟩
theorem run_sz (h : TIOk P t i) : (Go.sizeOf t).run P w = .ok i.size w := by
  obtain ⟨info, z, h1, h2, _⟩ := h.info
  simp [Go.sizeOf, typeInfo, h1, h2]
theorem cellsOf_sz (h : TIOk P t i) : P.cellsOf t = i.size := by
  obtain ⟨info, z, h1, h2, _⟩ := h.info
  simp [Program.cellsOf, h1, h2]
def aggD : TypeDesc → Bool
  | .struct _ => true
  | .array _ _ => true
  | _ => false
def aggK : TK → Bool
  | .st _ => true
  | .arr _ _ => true
  | _ => false
theorem kindB_agg {k : TK} {d : TypeDesc} (h : kindB k d = true) : aggK k = aggD d := by
  cases k <;> cases d <;> first | rfl | cases h
theorem run_agg (h : TIOk P t i) : (isAgg t).run P w = .ok i.agg w := by
  obtain ⟨info, d, z, _, h2, h3, _⟩ := h.ex
  have h4 : i.agg = aggD d := (kindB_agg h3) ▸ rfl
  rw [h4]
  cases d <;> simp [isAgg, run_underlying h2, aggD]
theorem run_zero (h : TIOk P t i) : ∃ z, (zeroValue t).run P w = .ok z w ∧ z.cells.toList = i.zero := by
  obtain ⟨info, z, h1, _, _, h4, h5⟩ := h.info
  exact ⟨z, by simp [zeroValue, typeInfo, h1, h4], h5⟩
theorem run_zeroV (h : TIOk P t i) : ∃ z, (zeroValue t).run P w = .ok z w ∧ z.cells.toList = i.zero ∧ aggV z = i.agg := by
  obtain ⟨info, d, z, h1, _, _, _, _, h4, h5, h6⟩ := h.ex
  exact ⟨z, by simp [zeroValue, typeInfo, h1, h4], h5, h6⟩
theorem TIOk.sl {e : Nat} (h : TIOk P t i) (hk : i.kind = .sl e) : P.underlying t = some (.slice e) := by
  obtain ⟨info, d, z, _, h2, h3, _⟩ := h.ex
  rw [hk] at h3
  cases d <;> simp [kindB] at h3
  rw [h2, h3]
theorem TIOk.arr {n e : Nat} (h : TIOk P t i) (hk : i.kind = .arr n e) : P.underlying t = some (.array n e) := by
  obtain ⟨info, d, z, _, h2, h3, _⟩ := h.ex
  rw [hk] at h3
  cases d <;> simp [kindB] at h3
  rw [h2, h3.1, h3.2]
theorem TIOk.ifc (h : TIOk P t i) (hk : i.kind = .ifc) : ∃ ms, P.underlying t = some (.interface ms) := by
  obtain ⟨info, d, z, _, h2, h3, _⟩ := h.ex
  rw [hk] at h3
  cases d <;> simp [kindB] at h3
  exact ⟨_, h2⟩
theorem TIOk.map {k e : Nat} (h : TIOk P t i) (hk : i.kind = .map k e) : P.underlying t = some (.map k e) := by
  obtain ⟨info, d, z, _, h2, h3, _⟩ := h.ex
  rw [hk] at h3
  cases d <;> simp [kindB] at h3
  rw [h2, h3.1, h3.2]
theorem TIOk.str (h : TIOk P t i) (hk : i.kind = .str) : P.underlying t = some .string := by
  obtain ⟨info, d, z, _, h2, h3, _⟩ := h.ex
  rw [hk] at h3
  cases d <;> simp [kindB] at h3
  exact h2
theorem TIOk.bool (h : TIOk P t i) (hk : i.kind = .bool) : P.underlying t = some .bool := by
  obtain ⟨info, d, z, _, h2, h3, _⟩ := h.ex
  rw [hk] at h3
  cases d <;> simp [kindB] at h3
  exact h2
theorem TIOk.int {k : IntKind} (h : TIOk P t i) (hk : i.kind = .int k) : P.underlying t = some (.int k) := by
  obtain ⟨info, d, z, _, h2, h3, _⟩ := h.ex
  rw [hk] at h3
  cases d <;> simp [kindB] at h3
  rw [h2, kb_eq h3]
theorem fieldsB_get : ∀ {fs : List (Nat × Nat)} {gs : List Field}, fieldsB fs gs = true → ∀ (n : Nat) u o, fs[n]? = some (u, o) → ∃ g, gs[n]? = some g ∧ g.type = u ∧ g.offset = o
  | [], [], _, n, u, o, h => by simp at h
  | (a, b) :: r, g :: s, h, n, u, o, hn => by
    simp only [fieldsB, Bool.and_eq_true] at h
    cases n with
    | zero =>
      simp at hn
      exact ⟨g, by simp, by rw [← Nat.eq_of_beq_eq_true h.1, hn.1], by rw [← Nat.eq_of_beq_eq_true h.2.1, hn.2]⟩
    | succ n => simpa using fieldsB_get h.2.2 n u o (by simpa using hn)
theorem fieldsB_len : ∀ {fs : List (Nat × Nat)} {gs : List Field}, fieldsB fs gs = true → fs.length = gs.length
  | [], [], _ => rfl
  | (a, b) :: r, g :: s, h => by
    simp only [fieldsB, Bool.and_eq_true] at h
    simp [fieldsB_len h.2.2]
theorem TIOk.st {fs : List (Nat × Nat)} (h : TIOk P t i) (hk : i.kind = .st fs) : ∃ gs : Array Field, P.underlying t = some (.struct gs) ∧ fieldsB fs gs.toList = true := by
  obtain ⟨info, d, z, _, h2, h3, _⟩ := h.ex
  rw [hk] at h3
  cases d <;> simp [kindB] at h3
  exact ⟨_, h2, h3⟩
end

/-! ## Operands -/
theorem oneV_eq (v : Value) : oneV v = v.oneCell' := by cases v <;> rfl
theorem of_ok {ρ ok w nx} {v : Value} (h : v.oneCell' = true) : CellR ρ ok w nx (Cell.of v) v := by
  cases v <;> first | rfl | exact ⟨rfl, h⟩
theorem of_all {ρ ok w nx} : ∀ {vs : List Value}, (∀ u ∈ vs, u.oneCell' = true) → All2 (CellR ρ ok w nx) (vs.map Cell.of) vs
  | [], _ => .nil
  | v :: r, h => .cons (of_ok (h v (by simp))) (of_all fun u hu => h u (List.mem_cons_of_mem _ hu))
theorem slotOf_ok {ρ ok w nx} {v : Value} (h : plainV v = true) : SlotR ρ ok w nx (Slot.of v) v := by
  cases v
  case agg cs =>
    refine ⟨cs.toList, rfl, of_all fun u hu => ?_⟩
    rw [← oneV_eq]
    exact List.all_eq_true.1 h u hu
  case tuple => cases h
  all_goals exact ⟨_, rfl, of_ok rfl⟩
theorem opd_ok {ρ ok w nx env} {a : Act} (he : RepE ρ ok w nx env a.tmps) {x : Operand} {s : Slot} (h : opd env x = some s) : SlotR ρ ok w nx s (a.eval x) := by
  cases x with
  | tmp t =>
    obtain ⟨v, h1, h2⟩ := he t s h
    have : a.eval (.tmp t) = v := by simp [Act.eval, Array.getD_eq_getD_getElem?, h1]
    rw [this]; exact h2
  | const v =>
    simp only [opd] at h
    split at h
    · cases h; rename_i hp; exact slotOf_ok hp
    · cases h
  | global g => cases h; exact ⟨_, rfl, rfl, rfl⟩
  | func f => cases h; exact ⟨_, rfl, rfl, rfl⟩
theorem cells1_some {s : Option Slot} {c : Cell} (h : cells1 s = some c) : s = some (.v false [c]) := by
  unfold cells1 at h
  split at h
  · cases h; rfl
  · cases h
theorem opd1_ok {ρ ok w nx env} {a : Act} (he : RepE ρ ok w nx env a.tmps) {x : Operand} {c : Cell} (h : cells1 (opd env x) = some c) : CellR ρ ok w nx c (a.eval x) := by
  obtain ⟨d, h1, h2⟩ := opd_ok he (cells1_some h)
  cases h1; exact h2
theorem opdCs_ok {ρ ok w nx env} {a : Act} (he : RepE ρ ok w nx env a.tmps) {x : Operand} {cs : List Cell} (h : cellsOf (opd env x) = some cs) : ∃ vs, (a.eval x).cells.toList = vs ∧ All2 (CellR ρ ok w nx) cs vs := by
  unfold cellsOf at h
  split at h
  · rename_i agg ds hd
    cases h
    have := opd_ok he hd
    cases agg with
    | true => obtain ⟨vs, e, h⟩ := this; rw [e]; exact ⟨vs, rfl, h⟩
    | false =>
      obtain ⟨c, e, h⟩ := this
      subst e
      refine ⟨[a.eval x], ?_, .cons h .nil⟩
      have h1 := h.one
      revert h1
      cases a.eval x <;> simp [Value.cells, Value.oneCell']
  · cases h

/-! ## Data taken, data told -/
theorem ex_ok {ρ ok w nx} : ∀ {t : Ty} {x : t.T} {vs : List Value}, K ok w t x vs → All2 (CellR ρ ok w nx) (t.ex x) vs
  | .int _, _, _, h => by cases h; exact .cons rfl .nil
  | .bool, _, _, h => by cases h; exact .cons rfl .nil
  | .str, _, _, h => by cases h; exact .cons rfl .nil
  | .val, _, _, h => by obtain ⟨h1, h2⟩ := h; cases h1; exact .cons ⟨rfl, h2⟩ .nil
  | .unit, _, _, h => by cases h; exact .nil
  | .pair a b, x, vs, h => by
    obtain ⟨c, d, rfl, h1, h2⟩ := h
    exact (ex_ok h1).app (ex_ok h2)
  | .sl e t, xs, vs, h => by
    obtain ⟨A, cap, rfl, h1⟩ := h
    exact .cons ⟨A, cap, rfl, h1⟩ .nil
theorem ex_len : ∀ (t : Ty) (x : t.T), (t.ex x).length = t.n
  | .int _, _ => rfl
  | .bool, _ => rfl
  | .str, _ => rfl
  | .val, _ => rfl
  | .unit, _ => rfl
  | .pair a b, x => by simp [Ty.ex, ex_len a x.1, ex_len b x.2, Ty.n]
  | .sl _ _, _ => rfl

theorem castL_K {ok w} {e : Nat} {t u : Ty} (h : u.b t = true) {xs : List u.T} {v : Value} (hk : K ok w (.sl e u) xs [v]) : K ok w (.sl e t) (castL u t h xs) [v] := by
  obtain rfl := Ty.b_eq h
  exact hk
theorem castL_len {t u : Ty} (h : u.b t = true) (xs : List u.T) : (castL u t h xs).length = xs.length := by
  obtain rfl := Ty.b_eq h
  rfl
theorem sameSl_some {e f : Nat} {t u : Ty} {xs : List u.T} {ys : List t.T} (h : sameSl e t f u xs = some ys) : e = f ∧ u = t ∧ HEq ys xs := by
  unfold sameSl at h
  split at h
  · rename_i h1
    split at h
    · rename_i h2
      cases h
      obtain rfl := Ty.b_eq h2
      exact ⟨Nat.eq_of_beq_eq_true h1, rfl, HEq.rfl⟩
    · cases h
  · cases h

/-- the names of own arrays that cells bear -/
def Covers (hp : Heap) (u : Ups) (cs : List Cell) : Prop := ∀ l e t xs, hp l = some (.arr e t xs) → (Cell.ref l ∈ cs ∨ ∃ n lo len, Cell.sub l n lo len ∈ cs) → l ∈ names u

theorem frzs_cov (hp : Heap) : ∀ cs, Covers hp (frzs hp cs) cs
  | [] => fun l e t xs _ h => by rcases h with h | ⟨_, _, _, h⟩ <;> cases h
  | c :: r => by
    have ih := frzs_cov hp r
    intro l e t xs hl hm
    have one : ∀ m, l = m → l ∈ names (frz1 hp m) := fun m e' => by subst e'; simp [frz1, hl, names]
    rcases hm with hm | ⟨n, lo, len, hm⟩
    · rcases List.mem_cons.1 hm with h | h
      · subst h
        simp only [frzs, names, List.map_append, List.mem_append]
        exact .inl (one l rfl)
      · have := ih l e t xs hl (.inl h)
        cases c <;> simp only [frzs, names, List.map_append, List.mem_append] at this ⊢ <;> first | exact this | exact .inr this
    · rcases List.mem_cons.1 hm with h | h
      · subst h
        simp only [frzs, names, List.map_append, List.mem_append]
        exact .inl (one l rfl)
      · have := ih l e t xs hl (.inr ⟨n, lo, len, h⟩)
        cases c <;> simp only [frzs, names, List.map_append, List.mem_append] at this ⊢ <;> first | exact this | exact .inr this

theorem Row.part {α : Type} {R : α → List Value → Prop} {n : Nat} {ok : Nat → Prop} {w : World} {b : Nat} {o : Nat} {xs : List α} (hb : ok b)
    (h : ∀ i x, xs[i]? = some x → ∃ cs, R x cs ∧ ∀ j v, cs[j]? = some v → w.cell? ⟨b, o + i * n + j, none⟩ = some v) (lo len : Nat) : Row R n ok w (some ⟨b, o + lo * n, none⟩) ((xs.drop lo).take len) := by
  refine .inr ⟨b, o + lo * n, rfl, hb, fun i x hi => ?_⟩
  rw [List.getElem?_take] at hi
  split at hi
  · rw [List.getElem?_drop] at hi
    obtain ⟨cs, h1, h2⟩ := h _ _ hi
    refine ⟨cs, h1, fun j v hj => ?_⟩
    have := h2 j v hj
    rwa [show o + (lo + i) * n + j = o + lo * n + i * n + j by rw [Nat.add_mul]; omega] at this
  · cases hi

/-- cells taken as a slice of data, in a world where their own arrays are data -/
theorem coSl_ok {ρ ok w hp nx} (hH : RepH ρ ok w hp nx) {hp' : Heap} (hs : ∀ l o, hp' l = some o → hp l = some o) {ok' : Nat → Prop} (hm : ∀ b, ok b → ok' b) {e : Nat} {t : Ty} {c : Cell} {xs : List t.T} {v : Value}
    (hc : CellR ρ ok w nx c v) (hok : ∀ l f u ys, hp' l = some (.arr f u ys) → (Cell.ref l = c ∨ ∃ n lo len, Cell.sub l n lo len = c) → ∀ b, blk (ρ l) = some b → ok' b)
    (h : coSl e t hp' c = some xs) : K ok' w (.sl e t) xs [v] := by
  have hS : Same ok ok' w w := fun b hb => ⟨hm b hb, rfl⟩
  cases c with
  | sl f u ys =>
    obtain ⟨rfl, rfl, h⟩ := sameSl_some h
    cases h
    exact K_move hS hc
  | ref l =>
    simp only [coSl] at h
    obtain ⟨h1, rfl, h3⟩ := hc
    split at h
    · rename_i f u ys hl
      obtain ⟨rfl, rfl, h⟩ := sameSl_some h
      cases h
      obtain ⟨_, inner, h4, h5⟩ := hH.ob l _ (hs _ _ hl)
      exact arr_data h4 h5 hm (hok l _ _ _ hl (.inl rfl))
    · rename_i f u ys hl
      obtain ⟨rfl, rfl, h⟩ := sameSl_some h
      cases h
      exact K_move hS (hH.ob l _ (hs _ _ hl)).2
    · cases h
  | sub l n lo len =>
    simp only [coSl] at h
    obtain ⟨h1, A, cap, rfl, h3, h4⟩ := hc
    have fin : ∀ (f : Nat) (u : Ty) (ys : List u.T), n = u.n → K ok' w (.sl f u) ys [ρ l] → sameSl e t f u ((ys.drop lo).take len) = some xs → K ok' w (.sl e t) xs [.slice A len cap] := by
      intro f u ys hnu hk hx
      obtain ⟨rfl, rfl, hx⟩ := sameSl_some hx
      cases hx
      obtain ⟨A', cap', hv, hle, hr⟩ := hk
      have hv : ρ l = .slice A' ys.length cap' := by injection hv
      rcases h4 with rfl | ⟨b, L, C, h5, h6, h7⟩
      · exact ⟨A, cap, by simp, by simp, .inl (by simp)⟩
      · rw [h5] at hv
        injection hv with e1 e2 e3
        have hlen : ((ys.drop lo).take len).length = len := by simp; omega
        refine ⟨A, cap, by rw [hlen], by rw [hlen]; exact h3, ?_⟩
        rcases hr with hr | ⟨b', o', hA, hb, hr⟩
        · subst hr; exact .inl (by simp)
        · rw [hA] at e1
          injection e1 with e1
          injection e1 with e4 e5
          subst e4 e5
          rw [h6, hnu]
          have := Row.part (R := K ok' w u) hb hr lo len
          rwa [Nat.zero_add] at this
    split at h
    · rename_i f u ys hl
      have hl' := hs _ _ hl
      obtain ⟨_, inner, h5, h6⟩ := hH.ob l _ hl'
      split at h
      · rename_i hnu
        exact fin f u ys (Nat.eq_of_beq_eq_true hnu) (arr_data h5 h6 hm (hok l _ _ _ hl (.inr ⟨n, lo, len, rfl⟩))) h
      · cases h
    · rename_i f u ys hl
      have hl' := hs _ _ hl
      split at h
      · rename_i hnu
        exact fin f u ys (Nat.eq_of_beq_eq_true hnu) (K_move hS (hH.ob l _ hl').2) h
      · cases h
    · cases h
  | val u =>
    obtain ⟨rfl, h1⟩ := hc
    unfold coSl at h
    split at h <;> rename_i heq <;> first | (cases heq; done) | (cases h; done) | skip
    all_goals first | (cases heq; cases h; exact ⟨none, 0, rfl, Nat.le_refl _, .inl rfl⟩) | skip
  | _ => cases h

/-- the own arrays that cells bear are data now -/
def Frozen (ρ : Nat → Value) (ok' : Nat → Prop) (hp' : Heap) (cs : List Cell) : Prop :=
  ∀ (l f : Nat) (u : Ty) (ys : List u.T), hp' l = some (.arr f u ys) → (Cell.ref l ∈ cs ∨ ∃ n lo len, Cell.sub l n lo len ∈ cs) → ∀ b, blk (ρ l) = some b → ok' b
theorem Frozen.sub {ρ ok' hp' cs ds} (h : Frozen ρ ok' hp' cs) (hd : ∀ c ∈ ds, c ∈ cs) : Frozen ρ ok' hp' ds := fun l f u ys hl hm =>
  h l f u ys hl (hm.imp (hd _) fun ⟨n, lo, len, hm⟩ => ⟨n, lo, len, hd _ hm⟩)
theorem Frozen.of {ρ : Nat → Value} {ok : Nat → Prop} {hp' : Heap} {u : Ups} {cs : List Cell} (hc : Covers hp' u cs) : Frozen ρ (okWith ok ρ (names u)) hp' cs := fun l f _ ys hl hm b hb =>
  .inr ⟨l, hc l f _ ys hl hm, hb⟩

theorem raw_ok {ρ ok w nx} {c : Cell} {v u : Value} (hc : CellR ρ ok w nx c v) (h : c.raw = some u) : v = u ∧ u.oneCell' = true := by
  cases c <;> simp only [Cell.raw] at h <;> first | (cases h; done) | (cases h; exact ⟨hc, rfl⟩) | (cases h; exact hc)

theorem co_ok {ρ ok w hp nx} (hH : RepH ρ ok w hp nx) {hp' : Heap} (hs : ∀ l o, hp' l = some o → hp l = some o) {ok' : Nat → Prop} (hm : ∀ b, ok b → ok' b) :
    ∀ {t : Ty} {cs : List Cell} {vs : List Value} {x : t.T}, All2 (CellR ρ ok w nx) cs vs → Frozen ρ ok' hp' cs → t.co hp' cs = some x → K ok' w t x vs
  | .int k, cs, vs, x, hc, _, h => by
    simp only [Ty.co] at h
    unfold coInt at h
    split at h <;> try (cases h; done)
    split at h
    · rename_i hk
      cases h
      obtain ⟨v, rfl, hv⟩ := hc.one
      rw [kb_eq hk]
      exact congrArg (fun a => [a]) hv
    · cases h
  | .bool, cs, vs, x, hc, _, h => by
    simp only [Ty.co] at h
    unfold coBool at h
    split at h <;> try (cases h; done)
    cases h
    obtain ⟨v, rfl, hv⟩ := hc.one
    exact congrArg (fun a => [a]) hv
  | .str, cs, vs, x, hc, _, h => by
    simp only [Ty.co] at h
    unfold coStr at h
    split at h <;> try (cases h; done)
    cases h
    obtain ⟨v, rfl, hv⟩ := hc.one
    exact congrArg (fun a => [a]) hv
  | .val, cs, vs, x, hc, _, h => by
    simp only [Ty.co] at h
    unfold coRaw at h
    split at h <;> try (cases h; done)
    obtain ⟨v, rfl, hv⟩ := hc.one
    obtain ⟨rfl, h2⟩ := raw_ok hv h
    exact ⟨rfl, h2⟩
  | .unit, cs, vs, x, hc, _, h => by
    simp only [Ty.co] at h
    unfold coUnit at h
    split at h <;> try (cases h; done)
    cases hc
    rfl
  | .pair a b, cs, vs, x, hc, hf, h => by
    simp only [Ty.co] at h
    split at h <;> try (cases h; done)
    rename_i y z h1 h2
    cases h
    refine ⟨vs.take a.n, vs.drop a.n, (List.take_append_drop _ _).symm, ?_, ?_⟩
    · exact co_ok hH hs hm (hc.take a.n) (hf.sub fun c hc => List.mem_of_mem_take hc) h1
    · exact co_ok hH hs hm (hc.drop a.n) (hf.sub fun c hc => List.mem_of_mem_drop hc) h2
  | .sl e t, cs, vs, x, hc, hf, h => by
    simp only [Ty.co] at h
    unfold coSl1 at h
    split at h <;> try (cases h; done)
    obtain ⟨v, rfl, hv⟩ := hc.one
    exact coSl_ok hH hs hm hv (fun l f u ys hl hx => hf l f u ys hl (hx.imp (fun e => by simp [e]) fun ⟨n, lo, len, e⟩ => ⟨n, lo, len, by simp [e]⟩)) h

theorem coAll_ok {ρ ok w hp nx} (hH : RepH ρ ok w hp nx) {hp' : Heap} (hs : ∀ l o, hp' l = some o → hp l = some o) {ok' : Nat → Prop} (hm : ∀ b, ok b → ok' b) {t : Ty} :
    ∀ {css : List (List Cell)} {vss : List (List Value)} {xs : List t.T}, All2 (fun cs vs => All2 (CellR ρ ok w nx) cs vs) css vss → Frozen ρ ok' hp' css.flatten → coAll hp' t css = some xs → Rows ok' w t xs vss.flatten
  | [], _, xs, .nil, _, h => by cases h; exact ⟨[], rfl, .nil⟩
  | cs :: r, _, xs, .cons (bs := vr) hc hr, hf, h => by
    simp only [coAll] at h
    split at h <;> try (cases h; done)
    rename_i y ys h1 h2
    cases h
    obtain ⟨css, e, h3⟩ := coAll_ok hH hs hm hr (hf.sub fun c hc => by simp only [List.flatten_cons, List.mem_append]; exact .inr hc) h2
    exact ⟨_ :: css, by rw [List.flatten_cons, List.flatten_cons, e], .cons (co_ok hH hs hm hc (hf.sub fun c hc => by simp only [List.flatten_cons, List.mem_append]; exact .inl hc) h1) h3⟩
end Lv
