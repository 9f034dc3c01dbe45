import Derived.Test.YtnogebfcpicghaaGreatDoorEvL
import Derived.Laws.Cover3
import Derived.Orders
set_option linter.all false
set_option linter.unusedVariables false
set_option linter.unusedSimpArgs false
set_option linter.unusedSectionVars false
namespace Lv
variable [HasG]
open Go Go.RowKit

def Enters (P : Program) (g : FuncId) : Prop := ∃ fn, P.funcs[g]? = some fn ∧ fn.body.isSome = true ∧ fn.name ≠ "runtime.NumGoroutine"
structure CxOk (P : Program) (cx : Cx) : Prop where
  tab : TabOk P cx.tab
  eqs : EqOk P cx.eqs
  spec : ∀ g as hp sp, cx.spec g as hp = some sp → Enters P g ∧ SpecOk P g sp
  specP : ∀ g as hp sp, cx.specP g as hp = some sp → Enters P g ∧ SpecPOk P g cx.pan sp

def InlOk (P : Program) (pan : Nat) (inl : Inl) : Prop := ∀ (R : Type) (g : Nat) (args : List (Option Slot)) (hp : Heap) (nx : Nat) (dt : List Nat) (κ : Option Slot → Heap → Nat → List Nat → Option R) (κp : Int → Heap → Nat → List Nat → Option R) (r : R), inl R g args hp nx dt κ κp = some r →
  Enters P g ∧ ∀ (ρ : Nat → Value) (ok : Nat → Prop) (w : World) (vals : Array Value), RepH ρ ok w hp nx → RepE ρ ok w nx (argEnv args) vals →
    Calls P g vals w fun e w' => (∃ v s hp' nx' dt' D ρ' ok', e = .returned v ∧ κ s hp' nx' dt' = some r ∧ dt' = D ++ dt ∧ RepH ρ' ok' w' hp' nx' ∧ (∀ sl, s = some sl → SlotR ρ' ok' w' nx' sl v) ∧ Goes ρ ok w hp nx D ρ' ok' w' hp' nx') ∨
      (∃ n hp' nx' dt' D ρ' ok', e = .panicked (panE pan n) ∧ κp n hp' nx' dt' = some r ∧ dt' = D ++ dt ∧ RepH ρ' ok' w' hp' nx' ∧ Goes ρ ok w hp nx D ρ' ok' w' hp' nx')

theorem inl0_ok (P : Program) (pan : Nat) : InlOk P pan inl0 := fun R g args hp nx dt κ κp r h => by cases h

/-- temporaries outside W are as they were -/
structure Tm (W : List Nat) (a a' : Act) : Prop where
  size : a'.tmps.size = a.tmps.size
  defers : a'.defers = a.defers
  same : ∀ t, t ∉ W → a'.tmps[t]? = a.tmps[t]?
theorem Tm.refl (W : List Nat) (a : Act) : Tm W a a := ⟨rfl, rfl, fun _ _ => rfl⟩
theorem Tm.trans {V W U : List Nat} {a b c : Act} (h : Tm V a b) (k : Tm W b c) (hV : ∀ t ∈ V, t ∈ U) (hW : ∀ t ∈ W, t ∈ U) : Tm U a c :=
  ⟨k.size.trans h.size, k.defers.trans h.defers, fun t ht => (k.same t fun h => ht (hW t h)).trans (h.same t fun h => ht (hV t h))⟩
theorem Tm.mono {V W : List Nat} {a b : Act} (h : Tm V a b) (hV : ∀ t ∈ V, t ∈ W) : Tm W a b := ⟨h.size, h.defers, fun t ht => h.same t fun h => ht (hV t h)⟩
theorem Tm.put (a : Act) (o : Oper) (v : Value) : Tm (dstOf o) a (a.put o.dst v) := by
  cases hd : o.dst with
  | none => exact ⟨rfl, rfl, fun _ _ => rfl⟩
  | some t =>
    refine ⟨by simp [Act.put], rfl, fun i hi => ?_⟩
    simp only [dstOf, hd, List.mem_singleton] at hi
    simp only [Act.put]
    exact Array.getElem?_setIfInBounds_ne (fun e => hi e.symm)

/-- how things stand behind a fragment -/
def After (st : St) (ρ : Nat → Value) (ok : Nat → Prop) (w : World) (a : Act) (W : List Nat) (st' : St) (a' : Act) (w' : World) : Prop :=
  ∃ ρ' ok' D, st'.dt = D ++ st.dt ∧ RepH ρ' ok' w' st'.hp st'.nx ∧ RepE ρ' ok' w' st'.nx st'.env a'.tmps ∧ Goes ρ ok w st.hp st.nx D ρ' ok' w' st'.hp st'.nx ∧ Tm W a a'

theorem After.trans {st ρ ok w a V st1 a1 w1 U} (h : After st ρ ok w a V st1 a1 w1) (hV : ∀ t ∈ V, t ∈ U) {W : List Nat} (hW : ∀ t ∈ W, t ∈ U) {st2 a2 w2}
    (k : ∀ ρ1 ok1, RepH ρ1 ok1 w1 st1.hp st1.nx → RepE ρ1 ok1 w1 st1.nx st1.env a1.tmps → After st1 ρ1 ok1 w1 a1 W st2 a2 w2) : After st ρ ok w a U st2 a2 w2 := by
  obtain ⟨ρ1, ok1, D, h1, h2, h3, h4, h5⟩ := h
  obtain ⟨ρ2, ok2, D2, k1, k2, k3, k4, k5⟩ := k ρ1 ok1 h2 h3
  exact ⟨ρ2, ok2, D2 ++ D, by rw [k1, h1, List.append_assoc], k2, k3, h4.trans k4, h5.trans k5 hV hW⟩

section
variable {P : Program} {cx : Cx} {inl : Inl} {R : Type}

theorem env_put {ρ ok w nx env} {a : Act} (he : RepE ρ ok w nx env a.tmps) {d : Option Nat} {v : Value} {s : Option Slot} (hs : ∀ x, s = some x → SlotR ρ ok w nx x v) (hd : ∀ t, d = some t → t < a.tmps.size) :
    RepE ρ ok w nx (setDst env d s) (a.put d v).tmps := by
  have := RepE.put he hs hd
  cases d <;> exact this

theorem callFunc_run {g : FuncId} (h : Enters P g) (args : Array Value) (w : World) : (callFunc g args).run P w = .ok (.enter g args) w := by
  obtain ⟨fn, h1, h2, h3⟩ := h
  have h4 : ¬ (fn.body.isNone = true) := by cases hb : fn.body with | none => rw [hb] at h2; cases h2 | some _ => simp
  simp only [callFunc, Sem.run_bind, run_program, Result.andThen_ok, h1, beq_iff_eq, h3, if_false, h4, Bool.false_eq_true, Sem.run_pure]

theorem argEnv_get : ∀ (l : List (Option Slot)) (n : Nat), argEnv l n = (l[n]?).getD none
  | [], n => by cases n <;> rfl
  | s :: r, 0 => rfl
  | s :: r, n + 1 => by simp only [argEnv, List.getElem?_cons_succ]; exact argEnv_get r n

/-- whom a call enters, with what -/
theorem callee_ok {ρ ok w} {st : St} {a : Act} {hp' : Heap} (hN : Now P ρ ok w st a hp') {f : Operand} {args : Array Operand} {ts : Array TypeId} {o : Oper} (ho : o.op = .call { callee := .value f, args, argTypes := ts })
    {g : Nat} {as : List (Option Slot)} (h : calleeOf hp' (cells1 (opd st.env f)) (args.toList.map (opd st.env)) = some (g, as)) :
    ∃ vals : Array Value, vals.size = as.length ∧ RepE ρ ok w st.nx (argEnv as) vals ∧ (Enters P g → (execOp a.eval o).run P w = .ok (.enter g vals) w) := by
  have hargs : ∀ (n : Nat) (s : Slot), (args.toList.map (opd st.env))[n]? = some (some s) → ∃ v, (args.map a.eval)[n]? = some v ∧ SlotR ρ ok w st.nx s v := by
    intro n s hs
    rw [List.getElem?_map] at hs
    cases hx : args.toList[n]? with
    | none => rw [hx] at hs; cases hs
    | some x =>
      rw [hx] at hs
      simp at hs
      refine ⟨a.eval x, ?_, opd_ok hN.E hs⟩
      have : args[n]? = some x := by simpa using hx
      simp [this]
  unfold calleeOf at h
  split at h <;> try (cases h; done)
  · rename_i g' hc
    cases h
    have hf : a.eval f = .func (.func g) #[] #[] := (opd1_ok (c := .val (.func (.func g) #[] #[])) hN.E hc).1
    refine ⟨args.map a.eval, by simp, ?_, fun hE => ?_⟩
    · intro t s hs
      rw [argEnv_get] at hs
      cases hx : (args.toList.map (opd st.env))[t]? with
      | none => rw [hx] at hs; cases hs
      | some y => rw [hx] at hs; simp at hs; subst hs; exact hargs t s hx
    · simp only [execOp, ho, resolve, hf, Deferred.ofValue, Sem.run_bind, Sem.run_pure, Result.andThen_ok, invoke]
      rw [callFunc_run hE]
      simp
  · rename_i l hc
    split at h <;> try (cases h; done)
    rename_i g' first caps hl
    cases h
    obtain ⟨_, fs, cs, h1, h2, h3⟩ := hN.H.ob l _ (hN.sub _ _ hl)
    have hf : a.eval f = .func (.func g) fs.toArray cs.toArray := (opd1_ok (c := .ref l) hN.E hc).2.1.trans h1
    refine ⟨(fs.toArray ++ args.map a.eval) ++ cs.toArray, by simp [h2.len, h3.len], ?_, fun hE => ?_⟩
    · intro t s hs
      rw [argEnv_get] at hs
      have hlf := h2.len
      have hlc := h3.len
      simp only [List.getElem?_append, List.length_append, List.length_map, Array.length_toList, List.getElem?_map] at hs
      simp only [Array.getElem?_append, List.size_toArray, Array.size_append, Array.size_map, List.getElem?_toArray]
      split at hs
      · rename_i ht
        rw [if_pos (by omega)]
        split at hs
        · rename_i ht2
          rw [if_pos (by omega)]
          have hx : first[t]? = some (first[t]'ht2) := List.getElem?_eq_getElem ht2
          rw [hx] at hs
          simp at hs
          subst hs
          obtain ⟨v, hv1, hv2⟩ := h2.get t _ hx
          exact ⟨v, hv1, _, rfl, hv2⟩
        · rename_i ht2
          rw [if_neg (by omega), ← hlf]
          have hx : args.toList[t - first.length]? = some (args.toList[t - first.length]'(by simp; omega)) := List.getElem?_eq_getElem _
          rw [hx] at hs
          simp only [Option.map_some, Option.getD_some] at hs
          exact hargs _ s (by rw [List.getElem?_map, hx, Option.map_some, hs])
      · rename_i ht
        rw [if_neg (by omega)]
        cases hx : caps[t - (first.length + args.size)]? with
        | none => rw [hx] at hs; cases hs
        | some c =>
          rw [hx] at hs
          simp at hs
          subst hs
          obtain ⟨v, hv1, hv2⟩ := h3.get _ _ hx
          exact ⟨v, by rw [← hlf]; exact hv1, _, rfl, hv2⟩
    · simp only [execOp, ho, resolve, hf, Deferred.ofValue, Sem.run_bind, Sem.run_pure, Result.andThen_ok, invoke]
      rw [callFunc_run hE]

theorem nilX_ok (hT : TabOk P cx.tab) {ρ ok w} {st : St} {a : Act} (hE : RepE ρ ok w st.nx st.env a.tmps) {t : Nat} {x : Operand} {q e q' : Bool} (h : nilX cx t (cells1 (opd st.env x)) q = some (e, q')) :
    q' = q ∧ ∃ A n c el, P.underlying t = some (.slice el) ∧ a.eval x = .slice A n c ∧ (e = false → A.isNone = false) := by
  unfold nilX at h
  split at h <;> try (cases h; done)
  rename_i e' _ _ _ _ _ f u xs h1 h2
  cases h
  refine ⟨rfl, ?_⟩
  obtain ⟨A, cap, k1, k2, k3⟩ := opd1_ok (c := .sl f u xs) hE h2
  cases k1' : xs with
  | nil =>
    have := List.cons.inj k1
    exact ⟨A, _, cap, e', (hT t _ h1).sl rfl, this.1, fun h => by simp [k1'] at h⟩
  | cons y r =>
    refine ⟨A, _, cap, e', (hT t _ h1).sl rfl, (List.cons.inj k1).1, fun _ => ?_⟩
    rcases k3 with k3 | ⟨b, o, k3, _⟩
    · rw [k1'] at k3; cases k3
    · rw [k3]; rfl
theorem nilQ_ok (hT : TabOk P cx.tab) {ρ ok w} {st : St} {a : Act} (hE : RepE ρ ok w st.nx st.env a.tmps) {o : Oper} {e q : Bool} (h : nilQ cx st.env o.op = some (e, q)) :
    ∃ b, (execOp a.eval o).run P w = .ok (.value (.bool b)) w ∧ (e = false → b = !q) := by
  generalize ho : o.op = op at h
  unfold nilQ at h
  split at h <;> try (cases h; done)
  · rename_i t x u
    obtain ⟨rfl, A, n, c, el, h1, h2, h3⟩ := nilX_ok hT hE h
    refine ⟨A.isNone, ?_, fun he => by rw [h3 he]; rfl⟩
    have hy : a.eval (.const (.slice none 0 0)) = .slice none 0 0 := rfl
    have hg : (eqGuard .eql t x (.const (.slice none 0 0)) (.slice A n c) (.slice none 0 0)).run P w = .ok () w := rfl
    have hq : (Op.equal t (.slice A n c) (.slice none 0 0)).run P w = .ok A.isNone w := run_equal_slice_nil w t el A n c h1
    have hb : (Go.binOp .eql t (.slice A n c) (.slice none 0 0)).run P w = .ok (.bool A.isNone) w := by
      simp only [Go.binOp, Sem.run_bind, hq, Result.andThen_ok, Sem.run_pure]
    simp only [execOp, ho, h2, hy, Sem.run_bind, hg, Result.andThen_ok, hb, Sem.run_pure]
  · rename_i t x u
    obtain ⟨rfl, A, n, c, el, h1, h2, h3⟩ := nilX_ok hT hE h
    refine ⟨!A.isNone, ?_, fun he => by rw [h3 he]⟩
    have hy : a.eval (.const (.slice none 0 0)) = .slice none 0 0 := rfl
    have hg : (eqGuard .neq t x (.const (.slice none 0 0)) (.slice A n c) (.slice none 0 0)).run P w = .ok () w := rfl
    have hq : (Op.equal t (.slice A n c) (.slice none 0 0)).run P w = .ok A.isNone w := run_equal_slice_nil w t el A n c h1
    have hb : (Go.binOp .neq t (.slice A n c) (.slice none 0 0)).run P w = .ok (.bool (!A.isNone)) w := by
      simp only [Go.binOp, Sem.run_bind, hq, Result.andThen_ok, Sem.run_pure]
    simp only [execOp, ho, h2, hy, Sem.run_bind, hg, Result.andThen_ok, hb, Sem.run_pure]

/-- a panic's post -/
def PanPost {R : Type} (pan : Nat) (κp : Int → St → Option R) (r : R) (st : St) (ρ : Nat → Value) (ok : Nat → Prop) (w : World) (a : Act) (W : List Nat) (Q : Exit → Act → World → Prop) : Prop :=
  ∀ n st' a' w', κp n st' = some r → After st ρ ok w a W st' a' w' → Q (.panic (panE pan n)) a' w'
theorem PanPost.mono {pan : Nat} {κp : Int → St → Option R} {r : R} {st : St} {ρ ok w a V W Q} (h : PanPost pan κp r st ρ ok w a W Q) (hV : ∀ t ∈ V, t ∈ W) : PanPost pan κp r st ρ ok w a V Q :=
  fun n st' a' w' h1 ⟨ρ', ok', D, g1, g2, g3, g4, g5⟩ => h n st' a' w' h1 ⟨ρ', ok', D, g1, g2, g3, g4, g5.mono hV⟩
theorem PanPost.next {pan : Nat} {κp : Int → St → Option R} {r : R} {st : St} {ρ ok w a W Q} (h : PanPost pan κp r st ρ ok w a W Q) {V U : List Nat} {st1 : St} {a1 : Act} {w1 : World} {ρ1 ok1 D} (hdt : st1.dt = D ++ st.dt)
    (g : Goes ρ ok w st.hp st.nx D ρ1 ok1 w1 st1.hp st1.nx) (ht : Tm V a a1) (hV : ∀ t ∈ V, t ∈ W) (hU : ∀ t ∈ U, t ∈ W) : PanPost pan κp r st1 ρ1 ok1 w1 a1 U Q :=
  fun n st' a' w' h1 ⟨ρ2, ok2, D2, j1, j2, j3, j4, j5⟩ => h n st' a' w' h1 ⟨ρ2, ok2, D2 ++ D, by rw [j1, hdt, List.append_assoc], j2, j3, g.trans j4, ht.trans j5 hV hU⟩

theorem step_ok (hcx : CxOk P cx) (hinl : InlOk P cx.pan inl) {o : Oper} {st : St} {κ : St → Option R} {κp : Int → St → Option R} {r : R} (h : step cx inl o st κ κp = some r) {ρ ok w} {a : Act}
    (hH : RepH ρ ok w st.hp st.nx) (hE : RepE ρ ok w st.nx st.env a.tmps) (hd : ∀ t ∈ dstOf o, t < a.tmps.size) (Q : Exit → Act → World → Prop) (hQp : PanPost cx.pan κp r st ρ ok w a (dstOf o) Q) :
    o.wp P a w (fun a' w' => ∃ st', κ st' = some r ∧ After st ρ ok w a (dstOf o) st' a' w') Q := by
  have hN : Now P ρ ok w st a st.hp := ⟨hH, hE, fun _ _ h => h⟩
  have hd' : ∀ t, o.dst = some t → t < a.tmps.size := fun t ht => hd t (by simp [dstOf, ht])
  -- an operation that calls nothing
  have plain : (match nilQ cx st.env o.op with
    | some (e, q) => bif e then both (fun b => κ ⟨setDst st.env o.dst (some (.v false [.bool b])), st.hp, st.nx, st.dt⟩)
        else κ ⟨setDst st.env o.dst (some (.v false [.bool (!q)])), st.hp, st.nx, st.dt⟩
    | none => match evOp cx st.nx o.op (opd st.env) st.hp with
      | some r => bif r.c then κ ⟨setDst st.env o.dst r.s, ups st.hp r.up, st.nx + r.nw, names r.up ++ st.dt⟩ else none
      | none => none) = some r → o.wp P a w (fun a' w' => ∃ st', κ st' = some r ∧ After st ρ ok w a (dstOf o) st' a' w') Q := by
    intro h
    split at h
    · rename_i e q hq
      obtain ⟨b, h1, h2⟩ := nilQ_ok hcx.tab hE hq
      have hk : κ ⟨setDst st.env o.dst (some (.v false [.bool b])), st.hp, st.nx, st.dt⟩ = some r := by
        cases e with
        | true =>
          have h : both (fun b => κ ⟨setDst st.env o.dst (some (.v false [.bool b])), st.hp, st.nx, st.dt⟩) = some r := h
          exact both_some h b
        | false => rw [h2 rfl]; exact h
      unfold Oper.wp
      rw [h1]
      exact ⟨_, hk, ρ, ok, [], rfl, hH, env_put hE (fun x hx => by cases hx; exact ⟨_, rfl, rfl⟩) hd', Goes.refl fun l o ho => (hH.ob l o ho).1, Tm.put a o _⟩
    split at h <;> try (cases h; done)
    rename_i res hres
    cases hc : res.c with
    | false => rw [hc] at h; cases h
    | true =>
      rw [hc] at h
      have h : κ ⟨setDst st.env o.dst res.s, ups st.hp res.up, st.nx + res.nw, names res.up ++ st.dt⟩ = some r := h
      obtain ⟨n, w', ρ', ok', h1, h2, h3⟩ := evOp_ok cx hcx.tab hcx.eqs hN hres hc
      have hE' := hE.move h2.2 hH
      unfold Oper.wp
      rw [h1]
      rcases h3 with ⟨v, rfl, hs⟩ | ⟨rfl, hs⟩
      · exact ⟨_, h, ρ', ok', names res.up, rfl, h2.1, env_put hE' hs hd', h2.2, Tm.put a o v⟩
      · exact ⟨_, h, ρ', ok', names res.up, rfl, h2.1, env_put hE' (fun x hx => by rw [hs] at hx; cases hx) hd', h2.2, Tm.put a o undef⟩
  unfold step at h
  split at h
  · rename_i f args ts ho
    split at h <;> try (cases h; done)
    rename_i g as hg
    obtain ⟨vals, hsz, hv, hrun⟩ := callee_ok hN ho hg
    split at h
    · rename_i sp hsp
      obtain ⟨hent, hspec⟩ := hcx.spec g _ _ sp hsp
      split at h <;> try (cases h; done)
      rename_i cr hcr
      unfold evCall at hcr
      split at hcr <;> try (cases hcr; done)
      rename_i hn
      split at hcr <;> try (cases hcr; done)
      rename_i hchk
      simp only [Bool.and_eq_true] at hchk
      obtain ⟨c1, c2, c3, c4⟩ := hchk
      split at hcr <;> try (cases hcr; done)
      rename_i x hx
      cases hcr
      obtain ⟨y, hy, hκ⟩ := Option.bind_eq_some_iff.1 h
      obtain ⟨ρi, oki, i1, i2, i3⟩ := call_eff hH (fun _ _ h => h) hv c1 (Nat.le_of_ble_eq_true c2) c3 c4 hx
      unfold Oper.wp
      rw [hrun hent]
      rw [Oper.upon_enter]
      refine (hspec x y hy ρi oki w vals (by rw [hsz]; exact Nat.eq_of_beq_eq_true hn) i1 i2).mono ?_
      rintro e w' ⟨v, ρ', ok', rfl, e1, e2, e3⟩
      obtain ⟨ρ2, e4, e5⟩ := i3 y v w' ρ' ok' e1 e2 e3
      have hE' := hE.move e4.2 hH
      exact ⟨_, hκ, ρ2, ok', _, rfl, e4.1, env_put hE' e5 hd', e4.2, Tm.put a o v⟩
    · split at h
      · rename_i sp hsp
        obtain ⟨hent, hspec⟩ := hcx.specP g _ _ sp hsp
        split at h <;> try (cases h; done)
        rename_i cr hcr
        unfold evCallP at hcr
        split at hcr <;> try (cases hcr; done)
        rename_i hn
        split at hcr <;> try (cases hcr; done)
        rename_i hchk
        simp only [Bool.and_eq_true] at hchk
        obtain ⟨c1, c2, c3, c4⟩ := hchk
        split at hcr <;> try (cases hcr; done)
        rename_i x hx
        cases hcr
        obtain ⟨z, hz, hκ⟩ := Option.bind_eq_some_iff.1 h
        cases z with
        | inl y =>
          obtain ⟨ρi, oki, i1, i2, i3⟩ := call_eff (sp := ⟨sp.n, sp.si, sp.so, fun _ => none⟩) hH (fun _ _ h => h) hv c1 (Nat.le_of_ble_eq_true c2) c3 c4 hx
          unfold Oper.wp
          rw [hrun hent]
          rw [Oper.upon_enter]
          refine (hspec x _ hz ρi oki w vals (by rw [hsz]; exact Nat.eq_of_beq_eq_true hn) i1 i2).mono ?_
          intro e w' he
          obtain ⟨v, ρ', ok', rfl, e1, e2, e3⟩ := he
          obtain ⟨ρ2, e4, e5⟩ := i3 y v w' ρ' ok' e1 e2 e3
          have hE' := hE.move e4.2 hH
          exact ⟨_, hκ, ρ2, ok', _, rfl, e4.1, env_put hE' e5 hd', e4.2, Tm.put a o v⟩
        | inr n =>
          obtain ⟨ρi, oki, i1, i2, i4⟩ := call_pan hH (fun _ _ h => h) hv c1 (Nat.le_of_ble_eq_true c2) hx
          unfold Oper.wp
          rw [hrun hent]
          rw [Oper.upon_enter]
          refine (hspec x _ hz ρi oki w vals (by rw [hsz]; exact Nat.eq_of_beq_eq_true hn) i1 i2).mono ?_
          intro e w' he
          obtain ⟨rfl, e1⟩ := he
          obtain ⟨ρ2, ok2, e4⟩ := i4 w' e1
          exact hQp n _ a w' hκ ⟨ρ2, ok2, _, rfl, e4.1, hE.move e4.2 hH, e4.2, Tm.refl _ _⟩
      · obtain ⟨hent, hcall⟩ := hinl R g as st.hp st.nx st.dt _ _ r h
        unfold Oper.wp
        rw [hrun hent]
        rw [Oper.upon_enter]
        refine (hcall ρ ok w vals hH hv).mono ?_
        rintro e w' (⟨v, s, hp', nx', dt', D, ρ', ok', rfl, hκ, hdt, e1, e2, e3⟩ | ⟨n, hp', nx', dt', D, ρ', ok', rfl, hκ, hdt, e1, e3⟩)
        · have hE' := hE.move e3 hH
          exact ⟨_, hκ, ρ', ok', D, hdt, e1, env_put hE' e2 hd', e3, Tm.put a o v⟩
        · exact hQp n _ a w' hκ ⟨ρ', ok', D, hdt, e1, hE.move e3 hH, e3, Tm.refl _ _⟩
  · rename_i x ho
    split at h <;> try (cases h; done)
    rename_i t n hx
    split at h <;> try (cases h; done)
    rename_i ht
    have ht := Nat.eq_of_beq_eq_true ht
    have hv := (opd1_ok hE hx).1
    unfold Oper.wp
    have hrun : (execOp a.eval o).run P w = .halt (.panic (bpan cx.pan n)) w := by
      simp only [execOp, ho, hv, Instr.panic]
      rw [← ht]
      rfl
    rw [hrun, Oper.upon_panic]
    exact hQp n st a w h ⟨ρ, ok, [], rfl, hH, hE, Goes.refl fun l o ho => (hH.ob l o ho).1, Tm.refl _ _⟩
  · exact plain h

theorem wp_op {o : Oper} {ops : Array Oper} {a : Act} {w : World} {K : Act → World → Prop} {Q : Exit → Act → World → Prop} {i : Nat} (ho : ops[i]? = some o)
    (h : if Region.wanted o (yielded ops a.tmps) then o.wp P a w K Q else K (a.put o.dst undef) w) : wpOp P ops Q i K a w := by
  unfold wpOp
  rw [ho]
  simp only
  split
  · rename_i hw; rw [if_pos hw] at h; exact .inl h
  · rename_i hw; rw [if_neg hw] at h; exact h

/-- one operation, with its guard -/
theorem ev1_ok (hcx : CxOk P cx) (hinl : InlOk P cx.pan inl) (ops : Array Oper) {o : Oper} {st : St} {κ : St → Option R} {κp : Int → St → Option R} {r : R} (h : ev1 cx inl ops o st κ κp = some r) {ρ ok w} {a : Act}
    (hH : RepH ρ ok w st.hp st.nx) (hE : RepE ρ ok w st.nx st.env a.tmps) (hdo : ∀ t ∈ dstOf o, t < a.tmps.size) {K : Act → World → Prop} {Q : Exit → Act → World → Prop}
    (hQ : ∀ st' a' w', κ st' = some r → After st ρ ok w a (dstOf o) st' a' w' → K a' w') (hQp : PanPost cx.pan κp r st ρ ok w a (dstOf o) Q) :
    if Region.wanted o (yielded ops a.tmps) then o.wp P a w K Q else K (a.put o.dst undef) w := by
  -- the operation is done, from a state with the same memory
  have doIt : ∀ env, RepE ρ ok w st.nx env a.tmps → step cx inl o ⟨env, st.hp, st.nx, st.dt⟩ κ κp = some r → o.wp P a w K Q := by
    intro env hEnv hs
    refine Oper.wp_mono ?_ (step_ok hcx hinl hs hH hEnv hdo Q hQp)
    rintro a1 w1 ⟨st1, h1, h2⟩
    exact hQ st1 a1 w1 h1 h2
  -- the operation is left out
  have skipIt : ∀ env, RepE ρ ok w st.nx env a.tmps → κ ⟨setDst env o.dst (some (.tup [])), st.hp, st.nx, st.dt⟩ = some r → K (a.put o.dst undef) w := by
    intro env hEnv hs
    have hEn := env_put (v := undef) (s := some (.tup [])) hEnv (fun x hx => by cases hx; exact ⟨[], rfl, .nil⟩) (d := o.dst) (fun t ht => hdo t (by simp [dstOf, ht]))
    exact hQ _ _ _ hs ⟨ρ, ok, [], rfl, hH, hEn, Goes.refl fun l o ho => (hH.ob l o ho).1, Tm.put a o undef⟩
  unfold ev1 at h
  split at h
  · rename_i hg
    rw [if_pos (by simp [Region.wanted, hg])]
    exact doIt st.env hE h
  · rename_i gd want hg
    split at h <;> try (cases h; done)
    rename_i t ht
    split at h
    case h_2 =>
      split at h <;> try (cases h; done)
      rename_i hu
      obtain ⟨v, hv1, vs, hv2, hv3⟩ := hE t _ hu
      cases hv3
      subst hv2
      have hy : yielded ops a.tmps gd = none := by simp [yielded, ht, hv1]
      rw [if_neg (by simp [Region.wanted, hg, hy])]
      exact skipIt _ hE h
    rename_i b hb
    obtain ⟨v, hv1, hv2⟩ := hE t _ (cells1_some hb)
    obtain ⟨c, e, hv2⟩ := hv2
    cases e
    have hv : v = .bool b := hv2
    subst hv
    have hy : yielded ops a.tmps gd = some b := by simp [yielded, ht, hv1]
    have hEb : ∀ b', b = b' → RepE ρ ok w st.nx (Lv.put st.env t (some (.v false [.bool b']))) a.tmps := by
      intro b' e i s hs
      subst e
      simp only [Lv.put] at hs
      split at hs
      · rename_i hi
        cases hs
        rw [Nat.eq_of_beq_eq_true hi]
        exact ⟨_, hv1, _, rfl, rfl⟩
      · exact hE i s hs
    cases b with
    | true =>
      simp only [cond_true] at h
      cases want with
      | true =>
        rw [if_pos (by simp [Region.wanted, hg, hy])]
        exact doIt _ (hEb true rfl) h
      | false =>
        rw [if_neg (by simp [Region.wanted, hg, hy])]
        exact skipIt _ (hEb true rfl) h
    | false =>
      simp only [cond_false] at h
      cases want with
      | false =>
        rw [if_pos (by simp [Region.wanted, hg, hy])]
        exact doIt _ (hEb false rfl) h
      | true =>
        rw [if_neg (by simp [Region.wanted, hg, hy])]
        exact skipIt _ (hEb false rfl) h

theorem evOps_ok (hcx : CxOk P cx) (hinl : InlOk P cx.pan inl) (ops : Array Oper) : ∀ (l : List Oper) (st : St) (κ : St → Option R) (κp : Int → St → Option R) (r : R), evOps cx inl ops l st κ κp = some r → ∀ ρ ok w (a : Act),
    RepH ρ ok w st.hp st.nx → RepE ρ ok w st.nx st.env a.tmps → (∀ o ∈ l, ∀ t ∈ dstOf o, t < a.tmps.size) → ∀ (Q : Exit → Act → World → Prop),
    (∀ st' a' w', κ st' = some r → After st ρ ok w a (l.flatMap dstOf) st' a' w' → Q .normal a' w') → PanPost cx.pan κp r st ρ ok w a (l.flatMap dstOf) Q → wpList P ops Q l a w
  | [], st, κ, κp, r, h, ρ, ok, w, a, hH, hE, _, Q, hQ, _ => hQ st a w h ⟨ρ, ok, [], rfl, hH, hE, Goes.refl fun l o ho => (hH.ob l o ho).1, Tm.refl _ _⟩
  | o :: l, st, κ, κp, r, h, ρ, ok, w, a, hH, hE, hd, Q, hQ, hQp => by
    have hdo : ∀ t ∈ dstOf o, t < a.tmps.size := hd o List.mem_cons_self
    have key := ev1_ok hcx hinl ops (K := wpList P ops Q l) h hH hE hdo (fun st1 a1 w1 h1 h2 => by
      obtain ⟨ρ1, ok1, D, k1, k2, k3, k4, k5⟩ := h2
      refine evOps_ok hcx hinl ops l st1 κ κp r h1 ρ1 ok1 w1 a1 k2 k3 (fun o' ho' t ht => by rw [k5.size]; exact hd o' (List.mem_cons_of_mem _ ho') t ht) Q (fun st2 a2 w2 g1 g2 => hQ st2 a2 w2 g1 ?_) (hQp.next k1 k4 k5 (fun t ht => by simp [ht]) (fun t ht => by simp only [List.flatMap_cons, List.mem_append]; exact .inr ht))
      obtain ⟨ρ2, ok2, D2, j1, j2, j3, j4, j5⟩ := g2
      exact ⟨ρ2, ok2, D2 ++ D, by rw [j1, k1, List.append_assoc], j2, j3, k4.trans j4, k5.trans j5 (fun t ht => by simp [ht]) (fun t ht => by simp only [List.flatMap_cons, List.mem_append]; exact .inr ht)⟩) (hQp.mono fun t ht => by simp [ht])
    unfold wpList
    split
    · rename_i hw; rw [if_pos hw] at key; exact .inl key
    · rename_i hw; rw [if_neg hw] at key; exact key

/-! ### in any order -/
theorem rdyOk_iff {ls : List Bool} : ∀ {es : List Edge}, rdyOk ls es = true ↔ ∀ e ∈ es, Region.binds .any e = true → ls.getD e.on false = true
  | [] => by simp [rdyOk]
  | e :: r => by
    simp only [rdyOk, Bool.and_eq_true, Bool.or_eq_true, Bool.not_eq_true', rdyOk_iff (es := r), List.mem_cons, forall_eq_or_imp]
    refine and_congr ?_ Iff.rfl
    cases Region.binds .any e <;> simp
theorem rdyL_mem {ls : List Bool} {j : Nat} : ∀ {l : List Oper} {i : Nat}, j ∈ rdyL ls i l ↔ i ≤ j ∧ ls.getD j true = false ∧ ∃ o, l[j - i]? = some o ∧ ∀ e ∈ o.after.toList, Region.binds .any e = true → ls.getD e.on false = true
  | [], i => by simp [rdyL]
  | o :: r, i => by
    have ih := rdyL_mem (ls := ls) (j := j) (l := r) (i := i + 1)
    have tail : (i + 1 ≤ j ∧ ls.getD j true = false ∧ ∃ o', r[j - (i + 1)]? = some o' ∧ ∀ e ∈ o'.after.toList, Region.binds .any e = true → ls.getD e.on false = true) ↔
        (j ≠ i ∧ i ≤ j ∧ ls.getD j true = false ∧ ∃ o', (o :: r)[j - i]? = some o' ∧ ∀ e ∈ o'.after.toList, Region.binds .any e = true → ls.getD e.on false = true) := by
      constructor
      · rintro ⟨h1, h2, o', h3, h4⟩
        refine ⟨by omega, by omega, h2, o', ?_, h4⟩
        rw [show j - i = (j - (i + 1)) + 1 by omega, List.getElem?_cons_succ]; exact h3
      · rintro ⟨h0, h1, h2, o', h3, h4⟩
        refine ⟨by omega, h2, o', ?_, h4⟩
        rw [show j - i = (j - (i + 1)) + 1 by omega, List.getElem?_cons_succ] at h3; exact h3
    unfold rdyL
    cases hb : (!(ls.getD i true) && rdyOk ls o.after.toList) with
    | true =>
      simp only [cond_true, List.mem_cons, ih, tail]
      simp only [Bool.and_eq_true, Bool.not_eq_true', rdyOk_iff] at hb
      constructor
      · rintro (rfl | ⟨_, h⟩)
        · exact ⟨Nat.le_refl _, hb.1, o, by simp, hb.2⟩
        · exact h
      · intro h
        by_cases e : j = i
        · exact .inl e
        · exact .inr ⟨e, h⟩
    | false =>
      simp only [cond_false, ih, tail]
      constructor
      · exact fun h => h.2
      · intro h
        refine ⟨fun e => ?_, h⟩
        subst e
        obtain ⟨h1, h2, o', h3, h4⟩ := h
        simp at h3
        subst h3
        have : (!(ls.getD j true) && rdyOk ls o.after.toList) = true := by
          rw [Bool.and_eq_true, Bool.not_eq_true', rdyOk_iff]; exact ⟨h2, h4⟩
        rw [this] at hb; cases hb
theorem ready_eq {ops : Array Oper} {listed : Array Bool} {j : Nat} : j ∈ Region.ready .any ops listed ↔ j ∈ rdyL listed.toList 0 ops.toList := by
  rw [mem_ready, rdyL_mem]
  simp only [Nat.zero_le, true_and, Nat.sub_zero, Array.getElem?_toList, Array.mem_toList_iff]
  simp only [Array.getD_eq_getD_getElem?, List.getD_eq_getElem?_getD, Array.getElem?_toList]

theorem cntN_set : ∀ (l : List Bool) (i : Nat), l[i]? = some false → (l.set i true).countP (! ·) + 1 = l.countP (! ·)
  | [], i, h => by simp at h
  | b :: r, 0, h => by simp at h; subst h; simp
  | b :: r, i + 1, h => by
    have := cntN_set r i (by simpa using h)
    simp only [List.set_cons_succ, List.countP_cons]
    omega
theorem cntN_none : ∀ (l : List Bool), l.countP (! ·) = 0 → ∀ i, i < l.length → l[i]? = some true := by
  intro l h i hi
  rw [List.countP_eq_zero] at h
  have := h l[i] (List.getElem_mem hi)
  rw [List.getElem?_eq_getElem hi]
  simpa using this

theorem evAny_ok (hcx : CxOk P cx) (hinl : InlOk P cx.pan inl) (ops : Array Oper) {κ : St → Option R} {κp : Int → St → Option R} {r : R} {Q : Exit → Act → World → Prop} : ∀ (fuel : Nat) (listed : Array Bool) (st : St), evAny cx inl ops fuel listed.toList st κ κp = some r →
    listed.toList.countP (! ·) = fuel → listed.size = ops.size → ∀ ρ ok w (a : Act), RepH ρ ok w st.hp st.nx → RepE ρ ok w st.nx st.env a.tmps → (∀ o ∈ ops.toList, ∀ t ∈ dstOf o, t < a.tmps.size) →
    (∀ st' a' w', κ st' = some r → After st ρ ok w a (ops.toList.flatMap dstOf) st' a' w' → Q .normal a' w') → PanPost cx.pan κp r st ρ ok w a (ops.toList.flatMap dstOf) Q → wpAny P .any ops Q fuel listed a w := by
  intro fuel
  induction fuel with
  | zero =>
    intro listed st h hc hs ρ ok w a hH hE hd hQ hQp
    refine ⟨?_, hQ st a w h ⟨ρ, ok, [], rfl, hH, hE, Goes.refl fun l o ho => (hH.ob l o ho).1, Tm.refl _ _⟩⟩
    cases hr : Region.ready .any ops listed with
    | nil => rfl
    | cons i l =>
      have hi : i ∈ Region.ready .any ops listed := by rw [hr]; exact List.mem_cons_self
      obtain ⟨h1, o, h2, _⟩ := mem_ready.1 hi
      have hlt : i < listed.toList.length := by rw [Array.length_toList, hs]; exact (Array.getElem?_eq_some_iff.1 h2).1
      have := cntN_none _ hc i hlt
      rw [Array.getElem?_toList] at this
      simp [Array.getD_eq_getD_getElem?, this] at h1
  | succ fuel ih =>
    intro listed st h hc hs ρ ok w a hH hE hd hQ hQp
    simp only [evAny] at h
    have hne := agreeL_ne h
    have hall := agreeL_some h
    refine ⟨fun hr => ?_, fun i hi => ?_⟩
    · exfalso
      apply hne
      have : rdyL listed.toList 0 ops.toList = [] := by
        apply List.eq_nil_iff_forall_not_mem.2
        intro j hj
        have := ready_eq.2 hj
        rw [hr] at this; cases this
      rw [this]; rfl
    · obtain ⟨hun, o, ho, hafter⟩ := mem_ready.1 hi
      have h1 := hall _ (List.mem_map.2 ⟨i, ready_eq.1 hi, rfl⟩)
      have hol : ops.toList[i]? = some o := by simpa using ho
      rw [hol] at h1
      simp only at h1
      have hmem : o ∈ ops.toList := List.mem_of_getElem? hol
      have hlt : i < listed.size := by rw [hs]; exact (Array.getElem?_eq_some_iff.1 ho).1
      have hcount : (listed.setIfInBounds i true).toList.countP (! ·) = fuel := by
        have hf : listed.toList[i]? = some false := by
          rw [Array.getElem?_toList, Array.getElem?_eq_getElem hlt]
          simp [Array.getD_eq_getD_getElem?, hlt] at hun
          rw [hun]
        have h := cntN_set listed.toList i hf
        rw [hc] at h
        rw [Array.toList_setIfInBounds]
        omega
      refine wp_op ho (ev1_ok hcx hinl ops h1 hH hE (hd o hmem) (fun st1 a1 w1 k1 k2 => ?_) (hQp.mono fun t ht => List.mem_flatMap.2 ⟨o, hmem, ht⟩))
      obtain ⟨ρ1, ok1, D, g1, g2, g3, g4, g5⟩ := k2
      refine ih (listed.setIfInBounds i true) st1 (by rw [Array.toList_setIfInBounds]; exact k1) hcount (by simpa using hs) ρ1 ok1 w1 a1 g2 g3 (fun o' ho' t ht => by rw [g5.size]; exact hd o' ho' t ht) (fun st2 a2 w2 j1 j2 => hQ st2 a2 w2 j1 ?_) (hQp.next g1 g4 g5 (fun t ht => List.mem_flatMap.2 ⟨o, hmem, ht⟩) (fun t ht => ht))
      obtain ⟨ρ2, ok2, D2, j1, j2, j3, j4, j5⟩ := j2
      exact ⟨ρ2, ok2, D2 ++ D, by rw [j1, g1, List.append_assoc], j2, j3, g4.trans j4, g5.trans j5 (fun t ht => List.mem_flatMap.2 ⟨o, hmem, ht⟩) (fun t ht => ht)⟩
end
end Lv
