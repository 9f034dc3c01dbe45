import Derived.Test.YtnogebfcpicghaaGreatDoorEvT
import Derived.Laws.StructEq
import Derived.ChangeKeysEq
set_option linter.all false
set_option linter.unusedVariables false
set_option linter.unusedSimpArgs false
set_option linter.unusedSectionVars false
namespace Lv
variable [HasG]
open Go Go.RowKit

/-! ## '==' of structs -/
section
variable (P : Program) (tab : Nat → Option TI)
def fieldB (rec : TypeId → Ty → Bool) (f : Field) (off : Nat) (ty : Ty) : Bool :=
  !(f.name == "_") && (Nat.beq f.offset off && ((match tab f.type with | some i => Nat.beq i.size ty.n | none => false) && rec f.type ty))
def eqFsB (rec : TypeId → Ty → Bool) : List Field → Nat → Ty → Bool
  | [f], off, ty => fieldB tab rec f off ty
  | f :: g :: r, off, .pair a b => fieldB tab rec f off a && eqFsB rec (g :: r) (off + a.n) b
  | _, _, _ => false
def elB (e : Nat) (n : Nat) : Bool := match tab e with | some i => Nat.beq i.size n | none => false
def eqArB (rec : TypeId → Ty → Bool) (e : Nat) : Nat → Ty → Bool
  | 1, ty => elB tab e ty.n && rec e ty
  | n + 2, .pair a b => (elB tab e a.n && rec e a) && eqArB rec e (n + 1) b
  | _, _ => false
def eqB : Nat → TypeId → Ty → Bool
  | 0, _, _ => false
  | d + 1, t, ty => match P.underlying t with
    | some .bool => ty.b .bool
    | some (.int _) => (match ty with | .int _ => true | _ => false)
    | some .string => ty.b .str
    | some (.struct fs) => !P.stoodInHeld t && eqFsB tab (eqB d) fs.toList 0 ty
    | some (.array n e) => eqArB tab (eqB d) e n ty
    | _ => false
end

section
variable {P : Program} {tab : Nat → Option TI}

def valAt (P : Program) (t : TypeId) (vs : List Value) : Value := match P.underlying t with
  | some (.struct _) => .agg vs.toArray
  | some (.array _ _) => .agg vs.toArray
  | _ => vs.getD 0 undef

theorem part_run (hT : TabOk P tab) {w : World} {t : TypeId} {i : TI} (hi : tab t = some i) {pre vs rest : List Value} (hl : vs.length = i.size) (hu : (∃ fs, P.underlying t = some (.struct fs)) ∨ (∃ n e, P.underlying t = some (.array n e)) ∨ P.underlying t = some .bool ∨ (∃ k, P.underlying t = some (.int k)) ∨ P.underlying t = some .string) :
    (part t (pre ++ vs ++ rest).toArray pre.length).run P w = .ok (valAt P t vs) w := by
  have hTI := hT t i hi
  have hagg := run_agg w hTI
  have hsz := run_sz w hTI
  have scalar : i.agg = false → (∀ fs, P.underlying t ≠ some (.struct fs)) → (∀ n e, P.underlying t ≠ some (.array n e)) → (part t (pre ++ vs ++ rest).toArray pre.length).run P w = .ok (valAt P t vs) w := by
    intro ha hn hn'
    have h1 : i.size = 1 := hTI.one.resolve_left (by simp [ha])
    rw [h1] at hl
    match vs, hl with
    | [v], _ =>
      have hg : ((pre ++ [v] ++ rest).toArray)[pre.length]? = some v := by simp
      have hv : valAt P t [v] = v := by
        unfold valAt
        split
        · rename_i fs h; exact absurd h (hn fs)
        · rename_i n e h; exact absurd h (hn' n e)
        · rfl
      unfold part
      simp only [Sem.run_bind, hagg, ha, Result.andThen_ok, Bool.false_eq_true, if_false, hg, hv, Sem.run_pure]
  obtain ⟨info, d, z, _, h2, h3, _⟩ := hTI.ex
  have hd : i.agg = aggD d := kindB_agg h3
  have aggr : i.agg = true → valAt P t vs = .agg vs.toArray → (part t (pre ++ vs ++ rest).toArray pre.length).run P w = .ok (valAt P t vs) w := by
    intro ha hv
    unfold part
    simp only [Sem.run_bind, hagg, ha, Result.andThen_ok, if_true, hsz, Sem.run_pure, hv]
    congr 2
    rw [← hl]
    apply Array.toList_inj.1
    simp [List.extract_eq_take_drop, List.drop_append_of_le_length, List.append_assoc]
  rcases hu with ⟨fs, h⟩ | ⟨n, e, h⟩ | h | ⟨k, h⟩ | h
  · rw [h] at h2; cases h2
    exact aggr hd (by unfold valAt; rw [h])
  · rw [h] at h2; cases h2
    exact aggr hd (by unfold valAt; rw [h])
  · rw [h] at h2; cases h2
    exact scalar hd (fun fs e => by rw [h] at e; cases e) fun n f e => by rw [h] at e; cases e
  · rw [h] at h2; cases h2
    exact scalar hd (fun fs e => by rw [h] at e; cases e) fun n f e => by rw [h] at e; cases e
  · rw [h] at h2; cases h2
    exact scalar hd (fun fs e => by rw [h] at e; cases e) fun n f e => by rw [h] at e; cases e

theorem eqB_under {d : Nat} {t : TypeId} {ty : Ty} (h : eqB P tab d t ty = true) : (∃ fs, P.underlying t = some (.struct fs)) ∨ (∃ n e, P.underlying t = some (.array n e)) ∨ P.underlying t = some .bool ∨ (∃ k, P.underlying t = some (.int k)) ∨ P.underlying t = some .string := by
  cases d with
  | zero => cases h
  | succ d =>
    simp only [eqB] at h
    split at h
    · rename_i h'; exact .inr (.inr (.inl h'))
    · rename_i k h'; exact .inr (.inr (.inr (.inl ⟨k, h'⟩)))
    · rename_i h'; exact .inr (.inr (.inr (.inr h')))
    · rename_i fs h'; exact .inl ⟨fs, h'⟩
    · rename_i n e h'; exact .inr (.inl ⟨n, e, h'⟩)
    · cases h

theorem eqB_ok (hT : TabOk P tab) {ok : Nat → Prop} {w : World} : ∀ (d : Nat) (t : TypeId) (ty : Ty), eqB P tab d t ty = true → ∀ (x y : ty.T) (vs us : List Value), K ok w ty x vs → K ok w ty y us → ∀ k,
    (Op.equalIn (d + k) t (valAt P t vs) (valAt P t us)).run P w = .ok (ty.eq x y) w := by
  intro d
  induction d with
  | zero => intro t ty h; cases h
  | succ d ih =>
    intro t ty h x y vs us hx hy k
    rw [show d + 1 + k = (d + k) + 1 by omega]
    have field : ∀ (f : Field) (off : Nat) (a : Ty), fieldB tab (eqB P tab d) f off a = true → ∀ (x y : a.T) (pre pre' vs us rest rest' : List Value), pre.length = off → pre'.length = off → K ok w a x vs → K ok w a y us →
        (f.name == "_") = false ∧ (part f.type (pre ++ vs ++ rest).toArray f.offset).run P w = .ok (valAt P f.type vs) w ∧ (part f.type (pre' ++ us ++ rest').toArray f.offset).run P w = .ok (valAt P f.type us) w ∧
          (Op.equalIn (d + k) f.type (valAt P f.type vs) (valAt P f.type us)).run P w = .ok (a.eq x y) w := by
      intro f off a hf x y pre pre' vs us rest rest' h1 h2 hx hy
      simp only [fieldB, Bool.and_eq_true] at hf
      obtain ⟨g1, g2, g3, g4⟩ := hf
      have g2 := Nat.eq_of_beq_eq_true g2
      split at g3
      · rename_i i hi
        have g3 := Nat.eq_of_beq_eq_true g3
        have hu := eqB_under g4
        refine ⟨by simpa using g1, ?_, ?_, ih f.type a g4 x y vs us hx hy k⟩
        · rw [g2, ← h1]; exact part_run hT hi (by rw [K_len hx, g3]) hu
        · rw [g2, ← h2]; exact part_run hT hi (by rw [K_len hy, g3]) hu
      · cases g3
    have fields : ∀ (fs : List Field) (off : Nat) (a : Ty), eqFsB tab (eqB P tab d) fs off a = true → ∀ (x y : a.T) (pre pre' vs us : List Value), pre.length = off → pre'.length = off → K ok w a x vs → K ok w a y us →
        (Op.eqFields (d + k) (pre ++ vs).toArray (pre' ++ us).toArray fs).run P w = .ok (a.eq x y) w := by
      intro fs
      induction fs with
      | nil => intro off a hf; simp [eqFsB] at hf
      | cons f r ihr =>
        intro off a hf x y pre pre' vs us h1 h2 hx hy
        cases r with
        | nil =>
          simp only [eqFsB] at hf
          obtain ⟨g1, g2, g3, g4⟩ := field f off a hf x y pre pre' vs us [] [] h1 h2 hx hy
          rw [List.append_nil] at g2 g3
          have hn' : f.name ≠ "_" := by simpa using g1
          simp only [Op.eqFields, if_pos hn', Sem.run_bind, g2, g3, g4, Result.andThen_ok]
          cases a.eq x y <;> simp
        | cons g r =>
          cases a with
          | pair a b =>
            simp only [eqFsB, Bool.and_eq_true] at hf
            obtain ⟨c, e, rfl, hc, he⟩ := hx
            obtain ⟨c', e', rfl, hc', he'⟩ := hy
            obtain ⟨g1, g2, g3, g4⟩ := field f off a hf.1 x.1 y.1 pre pre' c c' e e' h1 h2 hc hc'
            have hr := ihr (off + a.n) b hf.2 x.2 y.2 (pre ++ c) (pre' ++ c') e e' (by rw [List.length_append, h1, K_len hc]) (by rw [List.length_append, h2, K_len hc']) he he'
            have hn' : f.name ≠ "_" := by simpa using g1
            rw [← List.append_assoc, ← List.append_assoc, Op.eqFields]
            simp only [if_pos hn', Sem.run_bind, g2, g3, g4, Result.andThen_ok]
            show _ = Result.ok (a.eq x.1 y.1 && b.eq x.2 y.2) w
            cases a.eq x.1 y.1
            · simp
            · simpa using hr
          | _ => simp [eqFsB] at hf
    have items : ∀ (e : Nat) (n : Nat) (a : Ty), eqArB tab (eqB P tab d) e n a = true → ∀ (x y : a.T) (c : Nat) (pre pre' vs us : List Value), pre.length = c * P.cellsOf e → pre'.length = c * P.cellsOf e → K ok w a x vs → K ok w a y us →
        (Op.eqItems (d + k) e (P.cellsOf e) (pre ++ vs).toArray (pre' ++ us).toArray (List.range' c n)).run P w = .ok (a.eq x y) w := by
      intro e n
      have one : ∀ {a : Ty}, (elB tab e a.n && eqB P tab d e a) = true → ∀ (x y : a.T) (c : Nat) (pre pre' vs us rest rest' : List Value), pre.length = c * P.cellsOf e → pre'.length = c * P.cellsOf e → K ok w a x vs → K ok w a y us →
          (part e (pre ++ vs ++ rest).toArray (c * P.cellsOf e)).run P w = .ok (valAt P e vs) w ∧ (part e (pre' ++ us ++ rest').toArray (c * P.cellsOf e)).run P w = .ok (valAt P e us) w ∧ a.n = P.cellsOf e ∧
            (Op.equalIn (d + k) e (valAt P e vs) (valAt P e us)).run P w = .ok (a.eq x y) w := by
        intro a h x y c pre pre' vs us rest rest' h1 h2 hx hy
        obtain ⟨g1, g2⟩ := Bool.and_eq_true_iff.1 h
        unfold elB at g1
        split at g1
        · rename_i i hi
          have g1 := Nat.eq_of_beq_eq_true g1
          have hu := eqB_under g2
          refine ⟨?_, ?_, by rw [cellsOf_sz (hT e i hi), g1], ih e a g2 x y vs us hx hy k⟩
          · rw [← h1]; exact part_run hT hi (by rw [K_len hx, g1]) hu
          · rw [← h2]; exact part_run hT hi (by rw [K_len hy, g1]) hu
        · cases g1
      induction n with
      | zero => intro a h; simp [eqArB] at h
      | succ n ihn =>
        intro a h x y c pre pre' vs us h1 h2 hx hy
        cases n with
        | zero =>
          obtain ⟨g2, g3, _, g4⟩ := one (a := a) h x y c pre pre' vs us [] [] h1 h2 hx hy
          rw [List.append_nil] at g2 g3
          show (Op.eqItems (d + k) e (P.cellsOf e) (pre ++ vs).toArray (pre' ++ us).toArray [c]).run P w = _
          rw [Op.eqItems]
          simp only [Sem.run_bind, g2, g3, g4, Result.andThen_ok]
          cases a.eq x y <;> rfl
        | succ n =>
          cases a with
          | pair a b =>
            obtain ⟨q1, q2⟩ := Bool.and_eq_true_iff.1 h
            obtain ⟨c', e', rfl, hc, he⟩ := hx
            obtain ⟨c'', e'', rfl, hc', he'⟩ := hy
            obtain ⟨g2, g3, g5, g4⟩ := one q1 x.1 y.1 c pre pre' c' c'' e' e'' h1 h2 hc hc'
            have hr := ihn b q2 x.2 y.2 (c + 1) (pre ++ c') (pre' ++ c'') e' e'' (by rw [List.length_append, h1, K_len hc, g5, Nat.add_mul, Nat.one_mul]) (by rw [List.length_append, h2, K_len hc', g5, Nat.add_mul, Nat.one_mul]) he he'
            rw [← List.append_assoc, ← List.append_assoc, List.range'_succ, Op.eqItems]
            simp only [Sem.run_bind, g2, g3, g4, Result.andThen_ok]
            show _ = Result.ok (a.eq x.1 y.1 && b.eq x.2 y.2) w
            cases a.eq x.1 y.1
            · simp
            · simpa using hr
          | _ => simp [eqArB] at h
    simp only [eqB] at h
    split at h
    · rename_i hu
      obtain rfl := Ty.b_eq h
      cases hx; cases hy
      simp only [valAt, hu, List.getD_cons_zero]
      exact equalIn_bool (d + k) hu x y
    · rename_i kk hu
      split at h
      · rename_i k2
        cases hx; cases hy
        simp only [valAt, hu, List.getD_cons_zero]
        simp only [Op.equalIn, Sem.run_bind, run_underlying hu, Result.andThen_ok, Sem.run_pure, if_true]
        rfl
      · cases h
    · rename_i hu
      obtain rfl := Ty.b_eq h
      cases hx; cases hy
      simp only [valAt, hu, List.getD_cons_zero]
      simp only [Op.equalIn, Sem.run_bind, run_underlying hu, Result.andThen_ok, Sem.run_pure]
      rfl
    · rename_i fs hu
      simp only [Bool.and_eq_true, Bool.not_eq_true'] at h
      have hv : ∀ l, valAt P t l = .agg l.toArray := fun l => by unfold valAt; rw [hu]
      have hf : P.fieldsOf t = fs := by simp [Program.fieldsOf, hu]
      rw [hv, hv, run_equalIn_struct (P := P) w (d + k) t _ _ (by rw [hf]; exact hu) h.1, hf]
      have := fields fs.toList 0 ty h.2 x y [] [] vs us rfl rfl hx hy
      simpa using this
    · rename_i n e hu
      have hv : ∀ l, valAt P t l = .agg l.toArray := fun l => by unfold valAt; rw [hu]
      have hi : ∃ i, P.info? e = some i := by
        have : ∃ i, tab e = some i := by
          have el : ∀ m, elB tab e m = true → ∃ i, tab e = some i := fun m hm => by
            unfold elB at hm
            split at hm
            · exact ⟨_, by assumption⟩
            · cases hm
          match n, ty, h with
          | 1, ty, h => exact el _ (Bool.and_eq_true_iff.1 h).1
          | n + 2, .pair a b, h => exact el _ (Bool.and_eq_true_iff.1 (Bool.and_eq_true_iff.1 h).1).1
        obtain ⟨i, hi⟩ := this
        obtain ⟨info, _, h1, _⟩ := (hT e i hi).info
        exact ⟨info, h1⟩
      obtain ⟨i, hi⟩ := hi
      rw [hv, hv, run_equalIn_array (P := P) w (d + k) _ _ hu hi, List.range_eq_range']
      have := items e n ty h x y 0 [] [] vs us (by simp) (by simp) hx hy
      simpa using this
    · cases h

def eqAt : List (Nat × Ty) → Nat → Option Ty
  | [], _ => none
  | (u, ty) :: r, t => if Nat.beq u t = true then some ty else eqAt r t
def eqsB (P : Program) (tab : Nat → Option TI) : List (Nat × Ty) → Bool
  | [] => true
  | (t, ty) :: r => (eqB P tab 50 t ty && ((match P.underlying t with | some (.struct _) => true | some (.array _ _) => true | _ => false) && !P.eqGuardType P.depth t)) && eqsB P tab r
theorem eqAt_mem : ∀ {l : List (Nat × Ty)} {t : Nat} {ty : Ty}, eqAt l t = some ty → (t, ty) ∈ l
  | (u, v) :: r, t, ty, h => by
    unfold eqAt at h
    split at h
    · rename_i e; cases h; rw [Nat.eq_of_beq_eq_true e]; exact List.mem_cons_self
    · exact List.mem_cons_of_mem _ (eqAt_mem h)
theorem eqsB_mem : ∀ {l : List (Nat × Ty)}, eqsB P tab l = true → ∀ p ∈ l, eqB P tab 50 p.1 p.2 = true ∧ (∀ l, valAt P p.1 l = .agg l.toArray) ∧ P.eqGuardType P.depth p.1 = false
  | (t, ty) :: r, h, p, hp => by
    obtain ⟨h1, h2⟩ := Bool.and_eq_true_iff.1 h
    rcases List.mem_cons.1 hp with rfl | hp
    · simp only [Bool.and_eq_true, Bool.not_eq_true'] at h1
      obtain ⟨a, b, c⟩ := h1
      refine ⟨a, fun l => ?_, c⟩
      unfold valAt
      split at b
      · rename_i fs e; rw [e]
      · rename_i fs f e; rw [e]
      · cases b
    · exact eqsB_mem h2 p hp
theorem eqOk_of (hT : TabOk P tab) {l : List (Nat × Ty)} (h : eqsB P tab l = true) : EqOk P (eqAt l) := by
  intro t ty ht op X Y ok w x y vs us hx hy hop
  obtain ⟨h1, hv, h3⟩ := eqsB_mem h _ (eqAt_mem ht)
  have he := eqB_ok hT 50 t ty h1 x y vs us hx hy 9950
  rw [hv, hv] at he
  have he : (Op.equal t (.agg vs.toArray) (.agg us.toArray)).run P w = .ok (ty.eq x y) w := he
  have hg : (eqGuard op t X Y (.agg vs.toArray) (.agg us.toArray)).run P w = .ok () w := by
    cases op <;> simp [eqGuard, run_program, h3]
  simp only [Sem.run_bind, hg, Result.andThen_ok]
  rcases hop with rfl | rfl
  · simp only [Go.binOp, Sem.run_bind, he, Result.andThen_ok, Sem.run_pure]
  · simp only [Go.binOp, Sem.run_bind, he, Result.andThen_ok, Sem.run_pure]
end

/-! ## Contracts in a table -/
/-- what an argument must be: that function; an own array -/
inductive AK where
  | fn (f : Nat) | own
def akOk (hp : Heap) (s : Option Slot) : AK → Bool
  | .fn f => match s with | some (.v false [.val (.func (.func g) ⟨[]⟩ ⟨[]⟩)]) => Nat.beq f g | _ => false
  | .own => match s with | some (.v false [.ref l]) => (match hp l with | some (.arr _ _ _) => true | _ => false) | _ => false
def akAll (hp : Heap) (as : List (Option Slot)) : List (Nat × AK) → Bool
  | [] => true
  | (i, k) :: r => akOk hp (as.getD i none) k && akAll hp as r
/-- is an argument that closure? -/
def cloK (as : List (Option Slot)) (hp : Heap) (i f : Nat) : Bool := match as.getD i none with
  | some (.v false [.ref l]) => (match hp l with | some (.clo g _ _) => Nat.beq g f | _ => false)
  | _ => false
def specAt : List (Nat × List (Nat × AK) × Spec) → Nat → List (Option Slot) → Heap → Option Spec
  | [], _, _, _ => none
  | (g, k, s) :: r, n, as, hp => if Nat.beq g n = true then (if akAll hp as k = true then some s else specAt r n as hp) else specAt r n as hp
def specPAt : List (Nat × List (Nat × AK) × SpecP) → Nat → List (Option Slot) → Heap → Option SpecP
  | [], _, _, _ => none
  | (g, k, s) :: r, n, as, hp => if Nat.beq g n = true then (if akAll hp as k = true then some s else specPAt r n as hp) else specPAt r n as hp

section
variable {P : Program} {tab : Nat → Option TI} {eqs : Nat → Option Ty} {pan : Nat}
theorem CxOk.nilP (hT : TabOk P tab) (hE : EqOk P eqs) : CxOk P ⟨tab, eqs, specAt [], pan, specPAt []⟩ := ⟨hT, hE, (fun g as hp sp h => by cases h), (fun g as hp sp h => by cases h)⟩
theorem specAt_cons {Q : Nat → Spec → Prop} {l : List (Nat × List (Nat × AK) × Spec)} (h : ∀ n as hp s, specAt l n as hp = some s → Q n s) {g : Nat} {k : List (Nat × AK)} {sp : Spec} (hg : Q g sp) : ∀ n as hp s, specAt ((g, k, sp) :: l) n as hp = some s → Q n s := by
  intro n as hp s hh
  unfold specAt at hh
  split at hh
  · rename_i e
    split at hh
    · cases hh
      rw [← Nat.eq_of_beq_eq_true e]
      exact hg
    · exact h n as hp s hh
  · exact h n as hp s hh
theorem specPAt_cons {Q : Nat → SpecP → Prop} {l : List (Nat × List (Nat × AK) × SpecP)} (h : ∀ n as hp s, specPAt l n as hp = some s → Q n s) {g : Nat} {k : List (Nat × AK)} {sp : SpecP} (hg : Q g sp) : ∀ n as hp s, specPAt ((g, k, sp) :: l) n as hp = some s → Q n s := by
  intro n as hp s hh
  unfold specPAt at hh
  split at hh
  · rename_i e
    split at hh
    · cases hh
      rw [← Nat.eq_of_beq_eq_true e]
      exact hg
    · exact h n as hp s hh
  · exact h n as hp s hh
theorem CxOk.consS {l : List (Nat × List (Nat × AK) × Spec)} {lp : List (Nat × List (Nat × AK) × SpecP)} (h : CxOk P ⟨tab, eqs, specAt l, pan, specPAt lp⟩) {g : Nat} (k : List (Nat × AK)) {sp : Spec} (hg : Enters P g) (hs : SpecOk P g sp) : CxOk P ⟨tab, eqs, specAt ((g, k, sp) :: l), pan, specPAt lp⟩ :=
  ⟨h.tab, h.eqs, specAt_cons h.spec ⟨hg, hs⟩, h.specP⟩
theorem CxOk.consP {l : List (Nat × List (Nat × AK) × Spec)} {lp : List (Nat × List (Nat × AK) × SpecP)} (h : CxOk P ⟨tab, eqs, specAt l, pan, specPAt lp⟩) {g : Nat} (k : List (Nat × AK)) {sp : SpecP} (hg : Enters P g) (hs : SpecPOk P g pan sp) : CxOk P ⟨tab, eqs, specAt l, pan, specPAt ((g, k, sp) :: lp)⟩ :=
  ⟨h.tab, h.eqs, h.spec, specPAt_cons h.specP ⟨hg, hs⟩⟩
theorem CxOk.nil (hT : TabOk P tab) (hE : EqOk P eqs) : CxOk P (cx3 tab eqs (specAt [])) := ⟨hT, hE, (fun g as hp sp h => by cases h), (fun g as hp sp h => by cases h)⟩
theorem CxOk.cons {l : List (Nat × List (Nat × AK) × Spec)} (h : CxOk P (cx3 tab eqs (specAt l))) {g : Nat} (k : List (Nat × AK)) {sp : Spec} (hg : Enters P g) (hs : SpecOk P g sp) : CxOk P (cx3 tab eqs (specAt ((g, k, sp) :: l))) :=
  ⟨h.tab, h.eqs, specAt_cons h.spec ⟨hg, hs⟩, h.specP⟩

theorem fnOk_mk {g : FuncId} {fn : Func} (h1 : P.funcs[g]? = some fn) (h2 : fn.body.isSome = true) (h3 : (fn.name == "runtime.NumGoroutine") = false) (h4 : allBlt fn.ntmps (writes (fn.body.getD .skip)) = true) :
    FnOk P g (fn.body.getD .skip) fn.results.toList fn.ntmps := by
  refine ⟨⟨fn, h1, ?_, rfl, rfl, by simpa using h3⟩, h4⟩
  cases hb : fn.body with
  | none => rw [hb] at h2; cases h2
  | some c => rfl

/-- a function that the kernel does not look into -/
noncomputable def stk {α : Sort _} (x : α) : α := Classical.choose (⟨x, rfl⟩ : ∃ y, y = x)
theorem stk_eq {α : Sort _} (x : α) : stk x = x := Classical.choose_spec (⟨x, rfl⟩ : ∃ y, y = x)
/-- a function walked -/
theorem fn_ok {cx : Cx} (hcx : CxOk P cx) {inl : Inl} (hinl : InlOk P cx.pan inl) (hm : P.follows .mixedOrders = true) {g : FuncId} {code : Code} {res : List ResultVar} {nt : Nat} (hfn : FnOk P g code res nt) (h : H) {n : Nat} {si so : Sh} (hso : shBelow so = true)
    {F : TS si → Option (TS so)} (hev : ∀ x, evF cx inl code res h si so x = F x) : SpecOk P g ⟨n, si, so, F⟩ :=
  evF_ok hcx hinl (drawnOk hcx hm) hfn h hso fun x y hx => by rw [hev]; exact hx
theorem fn_stk {cx : Cx} (hcx : CxOk P cx) {inl : Inl} (hinl : InlOk P cx.pan inl) (hm : P.follows .mixedOrders = true) {g : FuncId} {code : Code} {res : List ResultVar} {nt : Nat} (hfn : FnOk P g code res nt) (h : H) {n : Nat} {si so : Sh} (hso : shBelow so = true)
    {F : TS si → Option (TS so)} (hev : ∀ x, evF cx inl code res h si so x = F x) : SpecOk P g ⟨n, si, so, stk F⟩ := by
  rw [stk_eq]
  exact fn_ok hcx hinl hm hfn h hso hev
theorem fnP_stk {cx : Cx} (hcx : CxOk P cx) {inl : Inl} (hinl : InlOk P cx.pan inl) (hm : P.follows .mixedOrders = true) {g : FuncId} {code : Code} {res : List ResultVar} {nt : Nat} (hfn : FnOk P g code res nt) (h : H) {n : Nat} {si so : Sh} (hso : shBelow so = true)
    {F : TS si → Option (TS so ⊕ Int)} (hev : ∀ x, evFP cx inl code res h si so x = F x) : SpecPOk P g cx.pan ⟨n, si, so, stk F⟩ := by
  rw [stk_eq]
  exact evFP_ok hcx hinl (drawnOk hcx hm) hfn h hso fun x y hx => by rw [hev]; exact hx
end
end Lv
