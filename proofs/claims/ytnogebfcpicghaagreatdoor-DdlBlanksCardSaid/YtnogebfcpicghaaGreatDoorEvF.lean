import Derived.Test.YtnogebfcpicghaaGreatDoorEvE
set_option linter.all false
set_option linter.unusedVariables false
set_option linter.unusedSimpArgs false
set_option linter.unusedSectionVars false
namespace Lv
variable [HasG]
open Go Go.RowKit
section
variable {P : Program} {o : Oper} {a : Act} {ρ : Nat → Value} {ok : Nat → Prop} {w : World} {st : St} {hp' : Heap}

theorem move_ok (cx : Cx) (hN : Now P ρ ok w st a hp') {x : Operand} (ho : o.op = .move x ∨ o.op = .assign x) {r : Res} (h : some (⟨true, opd st.env x, [], 0⟩ : Res) = some r) : OpOk P o a ρ ok w st r := by
  cases h
  refine OpOk.pure hN (v := a.eval x) ?_ fun s hs => opd_ok hN.E hs
  rcases ho with ho | ho <;> simp only [execOp, ho] <;> rfl

theorem pick_ok (cx : Cx) (hN : Now P ρ ok w st a hp') {c x y : Operand} (ho : o.op = .pick c x y) {r : Res} (h : evOp cx st.nx (.pick c x y) (opd st.env) hp' = some r) : OpOk P o a ρ ok w st r := by
  simp only [evOp] at h
  split at h <;> try (cases h; done)
  rename_i b hb
  cases h
  obtain ⟨_, e, hc⟩ := opd_ok hN.E hb
  cases e
  have hc : a.eval c = .bool b := hc
  refine OpOk.pure hN (v := if b = true then a.eval x else a.eval y) ?_ fun s hs => ?_
  · simp only [execOp, ho, hc, asBool, Sem.run_bind, Sem.run_pure, Result.andThen_ok]
  · cases b with
    | true => rw [if_pos rfl]; exact opd_ok hN.E hs
    | false => rw [if_neg (by simp)]; exact opd_ok hN.E hs

theorem newVar_eff (hN : Now P ρ ok w st a hp') {e : Nat} {cs : List Cell} {vs : List Value} (hc : All2 (CellR ρ ok w st.nx) cs vs) :
    Eff ρ ok w st.hp st.nx [(st.nx, some (.box e cs))] 1 (rset ρ st.nx (.pointer (some ⟨w.heap.size, 0, none⟩))) ok (w.alloc (.cells vs.toArray e)) := by
  refine eff_new hN.H rfl rfl ⟨rfl, fun _ => Nat.le_refl _⟩ (by simp) (fun b hb => Below.heap_alloc w _ b hb) ?_ ?_
  · refine ⟨w.heap.size, vs, by simp [rset], heap_alloc_new w _, hc.imp fun _ _ => CellR.move (fun b hb => ⟨hb, Below.heap_alloc w _ b (hN.H.okl b hb)⟩) (fun l hl => by simp [rset, Nat.ne_of_lt hl]) (by omega)⟩
  · intro _ b hb
    cases hb
    exact Nat.le_refl _

theorem alloc_ok (cx : Cx) (hT : TabOk P cx.tab) (hN : Now P ρ ok w st a hp') {e : Nat} (ho : o.op = .alloc e) {r : Res} (h : evOp cx st.nx (.alloc e) (opd st.env) hp' = some r) : OpOk P o a ρ ok w st r := by
  simp only [evOp] at h
  split at h <;> try (cases h; done)
  rename_i i hi
  cases h
  obtain ⟨z, hz, hzc⟩ := run_zero w (hT e i hi)
  have hr : (execOp a.eval o).run P w = .ok (.value (.pointer (some ⟨w.heap.size, 0, none⟩))) (w.alloc (.cells i.zero.toArray e)) := by
    simp only [execOp, ho, Instr.alloc, Sem.run_bind, hz, Result.andThen_ok, newVar, newRow, run_newObj, Sem.run_pure]
    rw [← hzc]; rfl
  refine ⟨_, _, _, ok, hr, newVar_eff hN (of_all (hT e i hi).z1), .inl ⟨_, rfl, fun s hs => ?_⟩⟩
  cases hs
  exact ⟨_, rfl, Nat.lt_succ_self _, w.heap.size, by simp [rset], rfl⟩

theorem box_ok (cx : Cx) (hT : TabOk P cx.tab) (hN : Now P ρ ok w st a hp') {e : Nat} {x : Operand} (ho : o.op = .box e x) {r : Res} (h : evOp cx st.nx (.box e x) (opd st.env) hp' = some r) : OpOk P o a ρ ok w st r := by
  simp only [evOp] at h
  split at h <;> try (cases h; done)
  rename_i i cs hi hc
  split at h <;> try (cases h; done)
  cases h
  obtain ⟨vs, h1, h2⟩ := opdCs_ok hN.E hc
  have hr : (execOp a.eval o).run P w = .ok (.value (.pointer (some ⟨w.heap.size, 0, none⟩))) (w.alloc (.cells vs.toArray e)) := by
    simp only [execOp, ho, Instr.box, newVar, newRow, Sem.run_bind, run_newObj, Sem.run_pure, Result.andThen_ok]
    rw [← h1]; rfl
  refine ⟨_, _, _, ok, hr, newVar_eff hN h2, .inl ⟨_, rfl, fun s hs => ?_⟩⟩
  cases hs
  exact ⟨_, rfl, Nat.lt_succ_self _, w.heap.size, by simp [rset], rfl⟩

theorem nilCheck_ok (cx : Cx) (hN : Now P ρ ok w st a hp') {x : Operand} (ho : o.op = .nilCheck x) {r : Res} (h : evOp cx st.nx (.nilCheck x) (opd st.env) hp' = some r) : OpOk P o a ρ ok w st r := by
  simp only [evOp] at h
  split at h <;> try (cases h; done)
  all_goals
    rename_i hc
    cases h
    have hc := opd1_ok hN.E hc
  · obtain ⟨h1, b, h2, h3⟩ := hc
    exact OpOk.cell hN (v := a.eval x) (by simp [execOp, ho, h3]) ⟨h1, b, h2, h3⟩
  · obtain ⟨b, o', vs, h1, h2⟩ := hc
    exact OpOk.cell hN (v := a.eval x) (by simp [execOp, ho, h1]) ⟨b, o', vs, h1, h2⟩
  · obtain ⟨h1, b, L, C, h2, h3, h4⟩ := hc
    exact OpOk.cell hN (v := a.eval x) (by simp [execOp, ho, h4]) ⟨h1, b, L, C, h2, h3, h4⟩
  · obtain ⟨h1, h2⟩ := hc
    exact OpOk.cell hN (v := a.eval x) (by simp [execOp, ho, h1]) ⟨h1, h2⟩

theorem unOp_ok (cx : Cx) (hN : Now P ρ ok w st a hp') {op : UnOp} {t : Nat} {x : Operand} (ho : o.op = .unOp op t x) {r : Res} (h : evOp cx st.nx (.unOp op t x) (opd st.env) hp' = some r) : OpOk P o a ρ ok w st r := by
  simp only [evOp] at h
  split at h <;> try (cases h; done)
  all_goals
    rename_i hc
    cases h
    have hc := opd1_ok hN.E hc
  · have hc : a.eval x = .bool _ := hc
    exact OpOk.cell hN (v := .bool _) (by simp only [execOp, ho, Op.unary, hc]; rfl) rfl
  · have hc : a.eval x = .int _ _ := hc
    exact OpOk.cell hN (v := .int _ _) (by simp only [execOp, ho, Op.unary, Op.intArith, hc]; rfl) rfl

theorem convert_ok (cx : Cx) (hT : TabOk P cx.tab) (hN : Now P ρ ok w st a hp') {s d : Nat} {x : Operand} (ho : o.op = .convert s d x) {r : Res} (h : evOp cx st.nx (.convert s d x) (opd st.env) hp' = some r) : OpOk P o a ρ ok w st r := by
  simp only [evOp] at h
  split at h <;> try (cases h; done)
  · rename_i h1 h2 hc
    cases h
    have hc : a.eval x = .int _ _ := opd1_ok hN.E hc
    have u1 := (hT _ _ h1).int rfl
    have u2 := (hT _ _ h2).int rfl
    exact OpOk.cell hN (v := .int _ _) (by simp only [execOp, ho, convert, run_underlying u1, run_underlying u2, hc, Conv.intToInt, Sem.run_bind, Sem.run_pure, Result.andThen_ok]) rfl
  · rename_i h1 h2 hc
    cases h
    have hc : a.eval x = .string _ := opd1_ok hN.E hc
    have u1 := (hT _ _ h1).str rfl
    have u2 := (hT _ _ h2).str rfl
    exact OpOk.cell hN (v := .string _) (by simp only [execOp, ho, convert, run_underlying u1, run_underlying u2, hc, Sem.run_bind, Sem.run_pure, Result.andThen_ok]) rfl

theorem fieldPlace_run {u : Nat} {i : TI} {f : Field} (hf : 0 < P.cellsOf f.type) (b off : Nat) : (fieldPlace ⟨b, off, none⟩ f).run P w = .ok ⟨b, off + f.offset, none⟩ w := by
  unfold fieldPlace
  have : ∃ info, P.info? f.type = some info ∧ info.size ≠ 0 := by
    unfold Program.cellsOf at hf
    cases hi : P.info? f.type with
    | none => simp [hi] at hf
    | some info => simp [hi] at hf; exact ⟨info, rfl, by omega⟩
  obtain ⟨info, h1, h2⟩ := this
  simp [Go.sizeOf, typeInfo, h1, h2, add_at]

theorem fieldAddr_ok (cx : Cx) (hT : TabOk P cx.tab) (hN : Now P ρ ok w st a hp') {s : Nat} {x : Operand} {f : Nat} (ho : o.op = .fieldAddr s x f) {r : Res} (h : evOp cx st.nx (.fieldAddr s x f) (opd st.env) hp' = some r) : OpOk P o a ρ ok w st r := by
  have key : ∀ {i : TI} {fs : List (Nat × Nat)} {u off b base : Nat}, cx.tab s = some i → i.kind = .st fs → fs[f]? = some (u, off) → a.eval x = .pointer (some ⟨b, base, none⟩) →
      (execOp a.eval o).run P w = .ok (.value (.pointer (some ⟨b, base + off, none⟩))) w := by
    intro i fs u off b base h1 h2 h3 h4
    obtain ⟨gs, h5, h6⟩ := (hT s i h1).st h2
    obtain ⟨g, h7, h8, h9⟩ := fieldsB_get h6 f u off h3
    have h10 : gs[f]? = some g := by simpa using h7
    have h11 := (hT s i h1).fs fs h2 (u, off) (List.mem_of_getElem? h3)
    have h12 := fieldPlace_run (P := P) (w := w) (u := u) (i := i) (f := g) (by rw [h8]; exact h11) b base
    simp only [execOp, ho, Instr.fieldAt, Sem.run_bind, run_underlying h5, Result.andThen_ok, h10, h4, Instr.sureAddr, Sem.run_pure, h12, h9]
  simp only [evOp] at h
  split at h <;> try (cases h; done)
  all_goals
    rename_i h1 hc
    split at h <;> try (cases h; done)
    rename_i hf
    cases h
    have hc := opd1_ok hN.E hc
  · obtain ⟨h2, b, h3, h4⟩ := hc
    exact OpOk.cell hN (key h1 rfl hf h4) ⟨h2, b, h3, rfl⟩
  · obtain ⟨b, o', vs, h3, h4⟩ := hc
    exact OpOk.cell hN (key h1 rfl hf h3) ⟨b, o', vs, by rw [Nat.add_assoc], h4⟩
  · obtain ⟨h2, b, L, C, h3, h4, h5⟩ := hc
    exact OpOk.cell hN (key h1 rfl hf h5) ⟨h2, b, L, C, h3, h4, by rw [Nat.add_assoc]⟩

theorem extract_ok (cx : Cx) (hN : Now P ρ ok w st a hp') {x : Operand} {n : Nat} (ho : o.op = .extract x n) {r : Res} (h : evOp cx st.nx (.extract x n) (opd st.env) hp' = some r) : OpOk P o a ρ ok w st r := by
  simp only [evOp] at h
  split at h <;> try (cases h; done)
  rename_i l hl
  split at h <;> try (cases h; done)
  rename_i g cs hg
  cases h
  obtain ⟨vs, h1, h2⟩ := opd_ok hN.E hl
  obtain ⟨v, h3, h4⟩ := h2.get n _ hg
  refine OpOk.pure hN (v := v) ?_ fun s hs => by cases hs; exact h4
  simp only [execOp, ho, Instr.extract, h1, List.getElem?_toArray, h3]
  rfl

theorem index_ok (cx : Cx) (hT : TabOk P cx.tab) (hN : Now P ρ ok w st a hp') {t : Nat} {x y : Operand} (ho : o.op = .index t x y) {r : Res} (h : evOp cx st.nx (.index t x y) (opd st.env) hp' = some r) (hb : r.c = true) : OpOk P o a ρ ok w st r := by
  simp only [evOp] at h
  split at h <;> try (cases h; done)
  rename_i s k j h1 h2 h3
  cases h
  simp only [Bool.and_eq_true, decide_eq_true_eq] at hb
  obtain ⟨hb1, hb2⟩ := hb
  have hx : a.eval x = .string s := opd1_ok hN.E h2
  have hy : a.eval y = .int k j := opd1_ok hN.E h3
  have hlt : j.toNat < s.size := by omega
  refine OpOk.cell hN (v := .int .u8 (byteAt s j.toNat)) ?_ rfl
  have hs : s[j.toNat]? = some (s[j.toNat]'hlt) := by simp [hlt]
  have hb : byteAt s j.toNat = ((s[j.toNat]'hlt).toNat : Int) := by
    have h20 : s.data.toList[j.toNat]? = some (s[j.toNat]'hlt) := by
      rw [Array.getElem?_toList]
      exact Array.getElem?_eq_getElem hlt
    unfold byteAt
    rw [List.getD, h20]; rfl
  simp only [execOp, ho, Instr.index, hx, hy, asIntOf, Sem.run_bind, Sem.run_pure, Result.andThen_ok, run_underlying ((hT t _ h1).str rfl), hb1, if_true, hs, hb]

theorem binI_ok {op : BinOp} {k : IntKind} {x y : Int} {c : Bool} {d : Cell} (h : binI op k x y = some (c, d)) (hc : c = true) (h1 : op ≠ .shl) (h2 : op ≠ .shr) (t : TypeId) :
    ∃ v, (Go.binOp op t (.int k x) (.int k y)).run P w = .ok v w ∧ ∀ ρ ok nx, CellR ρ ok w nx d v := by
  cases op <;> simp only [binI] at h <;> first | (cases h; done) | skip
  all_goals first | (exact absurd rfl h1) | (exact absurd rfl h2) | skip
  all_goals
    cases h
    refine ⟨_, ?_, fun _ _ _ => rfl⟩
    simp only [Go.binOp, ne_eq, not_true, if_false]
    first
    | rfl
    | (simp only [Bool.not_eq_true', decide_eq_false_iff_not] at hc
       simp only [Op.intDiv, hc, if_false, Sem.run_pure])
theorem binS_ok {op : BinOp} {x y : ByteArray} {c : Bool} {d : Cell} (h : binS op x y = some (c, d)) (hc : c = true) (t : TypeId) :
    ∃ v, (Go.binOp op t (.string x) (.string y)).run P w = .ok v w ∧ ∀ ρ ok nx, CellR ρ ok w nx d v := by
  cases op <;> simp only [binS] at h <;> first | (cases h; done) | skip
  all_goals
    cases h
    refine ⟨_, ?_, fun _ _ _ => rfl⟩
    simp only [Go.binOp, Op.stringOp]
    first
    | rfl
    | (simp only [Bool.not_eq_true', decide_eq_false_iff_not] at hc
       simp only [hc, if_false, Sem.run_pure])
theorem shI_ok {op : BinOp} {k l : IntKind} {x y : Int} {c : Bool} {d : Cell} (h : shI op k x y = some (c, d)) (hc : c = true) (t : TypeId) :
    ∃ v, (Go.binOp op t (.int k x) (.int l y)).run P w = .ok v w ∧ ∀ ρ ok nx, CellR ρ ok w nx d v := by
  cases op <;> simp only [shI] at h <;> first | (cases h; done) | skip
  all_goals
    cases h
    refine ⟨_, ?_, fun _ _ _ => rfl⟩
    simp only [Bool.not_eq_true', decide_eq_false_iff_not] at hc
    simp only [Go.binOp, Op.shift, hc, if_false, Sem.run_pure]
/-- '==' at a type of scalars is its parts' -/
def EqOk (P : Program) (eqs : Nat → Option Ty) : Prop := ∀ t ty, eqs t = some ty → ∀ (op : BinOp) (X Y : Operand) (ok : Nat → Prop) (w : World) (x y : ty.T) (vs us : List Value), K ok w ty x vs → K ok w ty y us → (op = .eql ∨ op = .neq) →
  (do eqGuard op t X Y (.agg vs.toArray) (.agg us.toArray); Go.binOp op t (.agg vs.toArray) (.agg us.toArray) : Sem Value).run P w = .ok (.bool (match op with | .eql => ty.eq x y | _ => !ty.eq x y)) w

theorem eqGuard_int (op : BinOp) (t : TypeId) (X Y : Operand) (k l : IntKind) (i j : Int) : (eqGuard op t X Y (.int k i) (.int l j)).run P w = .ok () w := by cases op <;> rfl
theorem eqGuard_str (op : BinOp) (t : TypeId) (X Y : Operand) (s u : ByteArray) : (eqGuard op t X Y (.string s) (.string u)).run P w = .ok () w := by cases op <;> rfl
theorem eqGuard_bool (op : BinOp) (t : TypeId) (X Y : Operand) (b c : Bool) : (eqGuard op t X Y (.bool b) (.bool c)).run P w = .ok () w := by cases op <;> rfl

theorem equalIn_bool (d : Nat) {t : TypeId} (hu : P.underlying t = some .bool) (b c : Bool) : (Op.equalIn (d + 1) t (.bool b) (.bool c)).run P w = .ok (b == c) w := by
  simp only [Op.equalIn, Sem.run_bind, run_underlying hu, Result.andThen_ok, Sem.run_pure]
theorem equal_bool {t : TypeId} (hu : P.underlying t = some .bool) (b c : Bool) : (Op.equal t (.bool b) (.bool c)).run P w = .ok (b == c) w := equalIn_bool 9999 hu b c

theorem ifcB_ok {ρ ok nx} {c : Option Cell} {b : Bool} (h : ifcB c = some b) : ∃ d, c = some d ∧ ∀ v, CellR ρ ok w nx d v → CellR ρ ok w nx (.ifc b) v := by
  unfold ifcB at h
  split at h <;> cases h
  · exact ⟨_, rfl, fun v hv => hv⟩
  · exact ⟨_, rfl, fun v hv => .inl ⟨rfl, hv.1⟩⟩
  · exact ⟨_, rfl, fun v hv => .inr ⟨rfl, _, _, hv.1⟩⟩
theorem equalIn_ifc (d : Nat) {t : TypeId} {ms} (hu : P.underlying t = some (.interface ms)) {ρ ok nx} {b : Bool} {v : Value} (hv : CellR ρ ok w nx (.ifc b) v) : (Op.equalIn (d + 1) t v .nilIface).run P w = .ok b w := by
  rcases hv with ⟨rfl, rfl⟩ | ⟨rfl, t', u', rfl⟩ <;> simp only [Op.equalIn, Sem.run_bind, run_underlying hu, Result.andThen_ok, Sem.run_pure]
theorem equal_ifc {t : TypeId} {ms} (hu : P.underlying t = some (.interface ms)) {ρ ok nx} {b : Bool} {v : Value} (hv : CellR ρ ok w nx (.ifc b) v) : (Op.equal t v .nilIface).run P w = .ok b w := equalIn_ifc 9999 hu hv
theorem binOp_eql_ifc {t : TypeId} {ms} (hu : P.underlying t = some (.interface ms)) {ρ ok nx} {b : Bool} {v : Value} (hv : CellR ρ ok w nx (.ifc b) v) : (Go.binOp .eql t v .nilIface).run P w = .ok (.bool b) w := by
  have h := equal_ifc hu hv
  rcases hv with ⟨rfl, rfl⟩ | ⟨rfl, t', u', rfl⟩ <;> simp only [Go.binOp, Sem.run_bind, h, Result.andThen_ok, Sem.run_pure]
theorem binOp_neq_ifc {t : TypeId} {ms} (hu : P.underlying t = some (.interface ms)) {ρ ok nx} {b : Bool} {v : Value} (hv : CellR ρ ok w nx (.ifc b) v) : (Go.binOp .neq t v .nilIface).run P w = .ok (.bool (!b)) w := by
  have h := equal_ifc hu hv
  rcases hv with ⟨rfl, rfl⟩ | ⟨rfl, t', u', rfl⟩ <;> simp only [Go.binOp, Sem.run_bind, h, Result.andThen_ok, Sem.run_pure]
theorem eqGuard_nil {op : BinOp} (hop : op = .eql ∨ op = .neq) (t : TypeId) {x : Operand} (v : Value) : (eqGuard op t x (.const .nilIface) v .nilIface).run P w = .ok () w := by
  rcases hop with rfl | rfl <;> cases v <;> simp [eqGuard]
theorem binOp_ok (cx : Cx) (hT : TabOk P cx.tab) (hE : EqOk P cx.eqs) (hN : Now P ρ ok w st a hp') {op : BinOp} {t u : Nat} {x y : Operand} (ho : o.op = .binOp op t x y u) {r : Res} (h : evOp cx st.nx (.binOp op t x y u) (opd st.env) hp' = some r) (hb : r.c = true) : OpOk P o a ρ ok w st r := by
  have fin : ∀ {c : Bool} {d : Cell} {v : Value}, (eqGuard op t x y (a.eval x) (a.eval y)).run P w = .ok () w → (Go.binOp op t (a.eval x) (a.eval y)).run P w = .ok v w → CellR ρ ok w st.nx d v →
      OpOk P o a ρ ok w st ⟨c, some (.v false [d]), [], 0⟩ := by
    intro c d v h1 h3 h4
    refine OpOk.cell hN (v := v) ?_ h4
    simp only [execOp, ho, Sem.run_bind, h1, Result.andThen_ok, h3, Sem.run_pure]
  simp only [evOp] at h
  split at h
  · rename_i b hb'
    cases h
    unfold ifcX at hb'
    split at hb' <;> try (cases hb'; done)
    · rename_i b' h1 h2
      cases hb'
      obtain ⟨d, h2, hd⟩ := ifcB_ok (ρ := ρ) (ok := ok) (w := w) (nx := st.nx) h2
      have hx := hd _ (opd1_ok hN.E h2)
      obtain ⟨ms, hu⟩ := (hT t _ h1).ifc rfl
      exact fin (v := .bool b) (eqGuard_nil (.inl rfl) _ _) (binOp_eql_ifc hu hx) rfl
    · rename_i b' h1 h2
      cases hb'
      obtain ⟨d, h2, hd⟩ := ifcB_ok (ρ := ρ) (ok := ok) (w := w) (nx := st.nx) h2
      have hx := hd _ (opd1_ok hN.E h2)
      obtain ⟨ms, hu⟩ := (hT t _ h1).ifc rfl
      exact fin (v := .bool (!b')) (eqGuard_nil (.inr rfl) _ _) (binOp_neq_ifc hu hx) rfl
  unfold ofBin at h
  split at h <;> try (cases h; done)
  · rename_i k i l j h1 h2
    have hx : a.eval x = .int k i := opd1_ok (c := (.int k i)) hN.E (by rw [h1]; rfl)
    have hy : a.eval y = .int l j := opd1_ok (c := (.int l j)) hN.E (by rw [h2]; rfl)
    have g1 : (eqGuard op t x y (a.eval x) (a.eval y)).run P w = .ok () w := by rw [hx, hy]; exact eqGuard_int _ _ _ _ _ _ _ _
    split at h
    · cases hs : shI .shl k i j with
      | none => rw [hs] at h; cases h
      | some p =>
        obtain ⟨c, d⟩ := p
        rw [hs] at h; cases h
        obtain ⟨v, h3, h4⟩ := shI_ok (P := P) (w := w) (l := l) hs hb t
        exact fin g1 (by rw [hx, hy]; exact h3) (h4 _ _ _)
    · cases hs : shI .shr k i j with
      | none => rw [hs] at h; cases h
      | some p =>
        obtain ⟨c, d⟩ := p
        rw [hs] at h; cases h
        obtain ⟨v, h3, h4⟩ := shI_ok (P := P) (w := w) (l := l) hs hb t
        exact fin g1 (by rw [hx, hy]; exact h3) (h4 _ _ _)
    · rename_i n1 n2
      split at h <;> try (cases h; done)
      rename_i hk
      have hk := kb_eq hk
      subst hk
      cases hs : binI op k i j with
      | none => rw [hs] at h; cases h
      | some p =>
        obtain ⟨c, d⟩ := p
        rw [hs] at h; cases h
        obtain ⟨v, h3, h4⟩ := binI_ok (P := P) (w := w) hs hb n1 n2 t
        exact fin g1 (by rw [hx, hy]; exact h3) (h4 _ _ _)
  · rename_i s u' h1 h2
    have hx : a.eval x = .string s := opd1_ok (c := (.str s)) hN.E (by rw [h1]; rfl)
    have hy : a.eval y = .string u' := opd1_ok (c := (.str u')) hN.E (by rw [h2]; rfl)
    cases hs : binS op s u' with
    | none => rw [hs] at h; cases h
    | some p =>
      obtain ⟨c, d⟩ := p
      rw [hs] at h; cases h
      obtain ⟨v, h3, h4⟩ := binS_ok (P := P) (w := w) hs hb t
      exact fin (by rw [hx, hy]; exact eqGuard_str _ _ _ _ _ _) (by rw [hx, hy]; exact h3) (h4 _ _ _)
  · rename_i b c h1 h2
    have hx : a.eval x = .bool b := opd1_ok (c := (.bool b)) hN.E (by rw [h1]; rfl)
    have hy : a.eval y = .bool c := opd1_ok (c := (.bool c)) hN.E (by rw [h2]; rfl)
    have g1 : (eqGuard op t x y (a.eval x) (a.eval y)).run P w = .ok () w := by rw [hx, hy]; exact eqGuard_bool _ _ _ _ _ _
    split at h <;> try (cases h; done)
    rename_i hi
    have hu := (hT t _ hi).bool rfl
    split at h <;> try (cases h; done)
    · cases h
      exact fin g1 (v := .bool (b == c)) (by rw [hx, hy]; simp only [Go.binOp, Sem.run_bind, equal_bool hu, Result.andThen_ok, Sem.run_pure]) rfl
    · cases h
      exact fin g1 (v := .bool (!(b == c))) (by rw [hx, hy]; simp only [Go.binOp, Sem.run_bind, equal_bool hu, Result.andThen_ok, Sem.run_pure]) rfl
  · rename_i xs ys h1 h2
    split at h <;> try (cases h; done)
    rename_i ty hty
    split at h <;> try (cases h; done)
    rename_i p q hp hq
    obtain ⟨vs, hx, hxs⟩ := opd_ok hN.E h1
    obtain ⟨us, hy, hys⟩ := opd_ok hN.E h2
    have F : ∀ cs, Frozen ρ ok (fun _ => none) cs := fun cs l f u ys hl => by cases hl
    have k1 := co_ok hN.H (hp' := fun _ => none) (fun _ _ h => by cases h) (fun _ h => h) hxs (F _) hp
    have k2 := co_ok hN.H (hp' := fun _ => none) (fun _ _ h => by cases h) (fun _ h => h) hys (F _) hq
    split at h <;> try (cases h; done)
    · cases h
      have := hE t ty hty .eql x y ok w p q vs us k1 k2 (.inl rfl)
      refine OpOk.cell hN (v := .bool (ty.eq p q)) ?_ rfl
      simp only [execOp, ho, hx, hy]
      rw [Sem.run_bind, this]; rfl
    · cases h
      have := hE t ty hty .neq x y ok w p q vs us k1 k2 (.inr rfl)
      refine OpOk.cell hN (v := .bool (!ty.eq p q)) ?_ rfl
      simp only [execOp, ho, hx, hy]
      rw [Sem.run_bind, this]; rfl
end
end Lv
