import Derived.Test.YtmpoopidlojdbaaEvL
import Derived.Laws.Cover3
set_option linter.all false
set_option linter.unusedVariables false
set_option linter.unusedSimpArgs false
set_option linter.unusedSectionVars false
namespace Lv
open Go Go.RowKit

def Enters (P : Program) (g : FuncId) : Prop := ∃ fn, P.funcs[g]? = some fn ∧ fn.body.isSome = true ∧ fn.name ≠ "runtime.NumGoroutine"
structure CxOk (P : Program) (cx : Cx) : Prop where
  tab : TabOk P cx.tab
  eqs : EqOk P cx.eqs
  spec : ∀ g as hp sp, cx.spec g as hp = some sp → Enters P g ∧ SpecOk P g sp

def InlOk (P : Program) (inl : Inl) : Prop := ∀ (R : Type) (g : Nat) (args : List (Option Slot)) (hp : Heap) (nx : Nat) (dt : List Nat) (κ : Option Slot → Heap → Nat → List Nat → Option R) (r : R), inl R g args hp nx dt κ = some r →
  Enters P g ∧ ∀ (ρ : Nat → Value) (ok : Nat → Prop) (w : World) (vals : Array Value), RepH ρ ok w hp nx → RepE ρ ok w nx (argEnv args) vals →
    Calls P g vals w fun e w' => ∃ v s hp' nx' dt' D ρ' ok', e = .returned v ∧ κ s hp' nx' dt' = some r ∧ dt' = D ++ dt ∧ RepH ρ' ok' w' hp' nx' ∧ (∀ sl, s = some sl → SlotR ρ' ok' w' nx' sl v) ∧ Goes ρ ok w hp nx D ρ' ok' w' hp' nx'

theorem inl0_ok (P : Program) : InlOk P inl0 := fun R g args hp nx dt κ r h => by cases h

/-- temporaries outside W are as they were -/
structure Tm (W : List Nat) (a a' : Act) : Prop where
  size : a'.tmps.size = a.tmps.size
  defers : a'.defers = a.defers
  same : ∀ t, t ∉ W → a'.tmps[t]? = a.tmps[t]?
theorem Tm.refl (W : List Nat) (a : Act) : Tm W a a := ⟨rfl, rfl, fun _ _ => rfl⟩
theorem Tm.trans {V W U : List Nat} {a b c : Act} (h : Tm V a b) (k : Tm W b c) (hV : ∀ t ∈ V, t ∈ U) (hW : ∀ t ∈ W, t ∈ U) : Tm U a c :=
  ⟨k.size.trans h.size, k.defers.trans h.defers, fun t ht => (k.same t fun h => ht (hW t h)).trans (h.same t fun h => ht (hV t h))⟩
theorem Tm.mono {V W : List Nat} {a b : Act} (h : Tm V a b) (hV : ∀ t ∈ V, t ∈ W) : Tm W a b := ⟨h.size, h.defers, fun t ht => h.same t fun h => ht (hV t h)⟩
theorem Tm.put (a : Act) (o : Oper) (v : Value) : Tm (dstOf o) a (a.put o.dst v) := by
  cases hd : o.dst with
  | none => exact ⟨rfl, rfl, fun _ _ => rfl⟩
  | some t =>
    refine ⟨by simp [Act.put], rfl, fun i hi => ?_⟩
    simp only [dstOf, hd, List.mem_singleton] at hi
    simp only [Act.put]
    exact Array.getElem?_setIfInBounds_ne (fun e => hi e.symm)

/-- how things stand behind a fragment -/
def After (st : St) (ρ : Nat → Value) (ok : Nat → Prop) (w : World) (a : Act) (W : List Nat) (st' : St) (a' : Act) (w' : World) : Prop :=
  ∃ ρ' ok' D, st'.dt = D ++ st.dt ∧ RepH ρ' ok' w' st'.hp st'.nx ∧ RepE ρ' ok' w' st'.nx st'.env a'.tmps ∧ Goes ρ ok w st.hp st.nx D ρ' ok' w' st'.hp st'.nx ∧ Tm W a a'

theorem After.trans {st ρ ok w a V st1 a1 w1 U} (h : After st ρ ok w a V st1 a1 w1) (hV : ∀ t ∈ V, t ∈ U) {W : List Nat} (hW : ∀ t ∈ W, t ∈ U) {st2 a2 w2}
    (k : ∀ ρ1 ok1, RepH ρ1 ok1 w1 st1.hp st1.nx → RepE ρ1 ok1 w1 st1.nx st1.env a1.tmps → After st1 ρ1 ok1 w1 a1 W st2 a2 w2) : After st ρ ok w a U st2 a2 w2 := by
  obtain ⟨ρ1, ok1, D, h1, h2, h3, h4, h5⟩ := h
  obtain ⟨ρ2, ok2, D2, k1, k2, k3, k4, k5⟩ := k ρ1 ok1 h2 h3
  exact ⟨ρ2, ok2, D2 ++ D, by rw [k1, h1, List.append_assoc], k2, k3, h4.trans k4, h5.trans k5 hV hW⟩

section
variable {P : Program} {cx : Cx} {inl : Inl} {R : Type}

theorem env_put {ρ ok w nx env} {a : Act} (he : RepE ρ ok w nx env a.tmps) {d : Option Nat} {v : Value} {s : Option Slot} (hs : ∀ x, s = some x → SlotR ρ ok w nx x v) (hd : ∀ t, d = some t → t < a.tmps.size) :
    RepE ρ ok w nx (setDst env d s) (a.put d v).tmps := by
  have := RepE.put he hs hd
  cases d <;> exact this

theorem callFunc_run {g : FuncId} (h : Enters P g) (args : Array Value) (w : World) : (callFunc g args).run P w = .ok (.enter g args) w := by
  obtain ⟨fn, h1, h2, h3⟩ := h
  have h4 : ¬ (fn.body.isNone = true) := by cases hb : fn.body with | none => rw [hb] at h2; cases h2 | some _ => simp
  simp only [callFunc, Sem.run_bind, run_program, Result.andThen_ok, h1, beq_iff_eq, h3, if_false, h4, Bool.false_eq_true, Sem.run_pure]

theorem argEnv_get : ∀ (l : List (Option Slot)) (n : Nat), argEnv l n = (l[n]?).getD none
  | [], n => by cases n <;> rfl
  | s :: r, 0 => rfl
  | s :: r, n + 1 => by simp only [argEnv, List.getElem?_cons_succ]; exact argEnv_get r n

/-- whom a call enters, with what -/
theorem callee_ok {ρ ok w} {st : St} {a : Act} {hp' : Heap} (hN : Now P ρ ok w st a hp') {f : Operand} {args : Array Operand} {ts : Array TypeId} {o : Oper} (ho : o.op = .call { callee := .value f, args, argTypes := ts })
    {g : Nat} {as : List (Option Slot)} (h : calleeOf hp' (cells1 (opd st.env f)) (args.toList.map (opd st.env)) = some (g, as)) :
    ∃ vals : Array Value, vals.size = as.length ∧ RepE ρ ok w st.nx (argEnv as) vals ∧ (Enters P g → (execOp a.eval o).run P w = .ok (.enter g vals) w) := by
  have hargs : ∀ (n : Nat) (s : Slot), (args.toList.map (opd st.env))[n]? = some (some s) → ∃ v, (args.map a.eval)[n]? = some v ∧ SlotR ρ ok w st.nx s v := by
    intro n s hs
    rw [List.getElem?_map] at hs
    cases hx : args.toList[n]? with
    | none => rw [hx] at hs; cases hs
    | some x =>
      rw [hx] at hs
      simp at hs
      refine ⟨a.eval x, ?_, opd_ok hN.E hs⟩
      have : args[n]? = some x := by simpa using hx
      simp [this]
  unfold calleeOf at h
  split at h <;> try (cases h; done)
  · rename_i g' hc
    cases h
    have hf : a.eval f = .func (.func g) #[] #[] := (opd1_ok (c := .val (.func (.func g) #[] #[])) hN.E hc).1
    refine ⟨args.map a.eval, by simp, ?_, fun hE => ?_⟩
    · intro t s hs
      rw [argEnv_get] at hs
      cases hx : (args.toList.map (opd st.env))[t]? with
      | none => rw [hx] at hs; cases hs
      | some y => rw [hx] at hs; simp at hs; subst hs; exact hargs t s hx
    · simp only [execOp, ho, resolve, hf, Deferred.ofValue, Sem.run_bind, Sem.run_pure, Result.andThen_ok, invoke]
      rw [callFunc_run hE]
      simp
  · rename_i l hc
    split at h <;> try (cases h; done)
    rename_i g' first caps hl
    cases h
    obtain ⟨_, fs, cs, h1, h2, h3⟩ := hN.H.ob l _ (hN.sub _ _ hl)
    have hf : a.eval f = .func (.func g) fs.toArray cs.toArray := (opd1_ok (c := .ref l) hN.E hc).2.1.trans h1
    refine ⟨(fs.toArray ++ args.map a.eval) ++ cs.toArray, by simp [h2.len, h3.len], ?_, fun hE => ?_⟩
    · intro t s hs
      rw [argEnv_get] at hs
      have hlf := h2.len
      have hlc := h3.len
      simp only [List.getElem?_append, List.length_append, List.length_map, Array.length_toList, List.getElem?_map] at hs
      simp only [Array.getElem?_append, List.size_toArray, Array.size_append, Array.size_map, List.getElem?_toArray]
      split at hs
      · rename_i ht
        rw [if_pos (by omega)]
        split at hs
        · rename_i ht2
          rw [if_pos (by omega)]
          have hx : first[t]? = some (first[t]'ht2) := List.getElem?_eq_getElem ht2
          rw [hx] at hs
          simp at hs
          subst hs
          obtain ⟨v, hv1, hv2⟩ := h2.get t _ hx
          exact ⟨v, hv1, _, rfl, hv2⟩
        · rename_i ht2
          rw [if_neg (by omega), ← hlf]
          have hx : args.toList[t - first.length]? = some (args.toList[t - first.length]'(by simp; omega)) := List.getElem?_eq_getElem _
          rw [hx] at hs
          simp only [Option.map_some, Option.getD_some] at hs
          exact hargs _ s (by rw [List.getElem?_map, hx, Option.map_some, hs])
      · rename_i ht
        rw [if_neg (by omega)]
        cases hx : caps[t - (first.length + args.size)]? with
        | none => rw [hx] at hs; cases hs
        | some c =>
          rw [hx] at hs
          simp at hs
          subst hs
          obtain ⟨v, hv1, hv2⟩ := h3.get _ _ hx
          exact ⟨v, by rw [← hlf]; exact hv1, _, rfl, hv2⟩
    · simp only [execOp, ho, resolve, hf, Deferred.ofValue, Sem.run_bind, Sem.run_pure, Result.andThen_ok, invoke]
      rw [callFunc_run hE]

theorem nilX_ok (hT : TabOk P cx.tab) {ρ ok w} {st : St} {a : Act} (hE : RepE ρ ok w st.nx st.env a.tmps) {t : Nat} {x : Operand} {q e q' : Bool} (h : nilX cx t (cells1 (opd st.env x)) q = some (e, q')) :
    q' = q ∧ ∃ A n c el, P.underlying t = some (.slice el) ∧ a.eval x = .slice A n c ∧ (e = false → A.isNone = false) := by
  unfold nilX at h
  split at h <;> try (cases h; done)
  rename_i e' _ _ _ _ _ f u xs h1 h2
  cases h
  refine ⟨rfl, ?_⟩
  obtain ⟨A, cap, k1, k2, k3⟩ := opd1_ok (c := .sl f u xs) hE h2
  cases k1' : xs with
  | nil =>
    have := List.cons.inj k1
    exact ⟨A, _, cap, e', (hT t _ h1).sl rfl, this.1, fun h => by simp [k1'] at h⟩
  | cons y r =>
    refine ⟨A, _, cap, e', (hT t _ h1).sl rfl, (List.cons.inj k1).1, fun _ => ?_⟩
    rcases k3 with k3 | ⟨b, o, k3, _⟩
    · rw [k1'] at k3; cases k3
    · rw [k3]; rfl
theorem nilQ_ok (hT : TabOk P cx.tab) {ρ ok w} {st : St} {a : Act} (hE : RepE ρ ok w st.nx st.env a.tmps) {o : Oper} {e q : Bool} (h : nilQ cx st.env o.op = some (e, q)) :
    ∃ b, (execOp a.eval o).run P w = .ok (.value (.bool b)) w ∧ (e = false → b = !q) := by
  generalize ho : o.op = op at h
  unfold nilQ at h
  split at h <;> try (cases h; done)
  · rename_i t x u
    obtain ⟨rfl, A, n, c, el, h1, h2, h3⟩ := nilX_ok hT hE h
    refine ⟨A.isNone, ?_, fun he => by rw [h3 he]; rfl⟩
    have hy : a.eval (.const (.slice none 0 0)) = .slice none 0 0 := rfl
    have hg : (eqGuard .eql t x (.const (.slice none 0 0)) (.slice A n c) (.slice none 0 0)).run P w = .ok () w := rfl
    have hq : (Op.equal t (.slice A n c) (.slice none 0 0)).run P w = .ok A.isNone w := run_equal_slice_nil w t el A n c h1
    have hb : (Go.binOp .eql t (.slice A n c) (.slice none 0 0)).run P w = .ok (.bool A.isNone) w := by
      simp only [Go.binOp, Sem.run_bind, hq, Result.andThen_ok, Sem.run_pure]
    simp only [execOp, ho, h2, hy, Sem.run_bind, hg, Result.andThen_ok, hb, Sem.run_pure]
  · rename_i t x u
    obtain ⟨rfl, A, n, c, el, h1, h2, h3⟩ := nilX_ok hT hE h
    refine ⟨!A.isNone, ?_, fun he => by rw [h3 he]⟩
    have hy : a.eval (.const (.slice none 0 0)) = .slice none 0 0 := rfl
    have hg : (eqGuard .neq t x (.const (.slice none 0 0)) (.slice A n c) (.slice none 0 0)).run P w = .ok () w := rfl
    have hq : (Op.equal t (.slice A n c) (.slice none 0 0)).run P w = .ok A.isNone w := run_equal_slice_nil w t el A n c h1
    have hb : (Go.binOp .neq t (.slice A n c) (.slice none 0 0)).run P w = .ok (.bool (!A.isNone)) w := by
      simp only [Go.binOp, Sem.run_bind, hq, Result.andThen_ok, Sem.run_pure]
    simp only [execOp, ho, h2, hy, Sem.run_bind, hg, Result.andThen_ok, hb, Sem.run_pure]

theorem step_ok (hcx : CxOk P cx) (hinl : InlOk P inl) {o : Oper} {st : St} {κ : St → Option R} {r : R} (h : step cx inl o st κ = some r) {ρ ok w} {a : Act}
    (hH : RepH ρ ok w st.hp st.nx) (hE : RepE ρ ok w st.nx st.env a.tmps) (hd : ∀ t ∈ dstOf o, t < a.tmps.size) (Q : Exit → Act → World → Prop) :
    o.wp P a w (fun a' w' => ∃ st', κ st' = some r ∧ After st ρ ok w a (dstOf o) st' a' w') Q := by
  have hN : Now P ρ ok w st a st.hp := ⟨hH, hE, fun _ _ h => h⟩
  have hd' : ∀ t, o.dst = some t → t < a.tmps.size := fun t ht => hd t (by simp [dstOf, ht])
  -- an operation that calls nothing
  have plain : (match nilQ cx st.env o.op with
    | some (e, q) => bif e then both (fun b => κ ⟨setDst st.env o.dst (some (.v false [.bool b])), st.hp, st.nx, st.dt⟩)
        else κ ⟨setDst st.env o.dst (some (.v false [.bool (!q)])), st.hp, st.nx, st.dt⟩
    | none => match evOp cx st.nx o.op (opd st.env) st.hp with
      | some r => bif r.c then κ ⟨setDst st.env o.dst r.s, ups st.hp r.up, st.nx + r.nw, names r.up ++ st.dt⟩ else none
      | none => none) = some r → o.wp P a w (fun a' w' => ∃ st', κ st' = some r ∧ After st ρ ok w a (dstOf o) st' a' w') Q := by
    intro h
    split at h
    · rename_i e q hq
      obtain ⟨b, h1, h2⟩ := nilQ_ok hcx.tab hE hq
      have hk : κ ⟨setDst st.env o.dst (some (.v false [.bool b])), st.hp, st.nx, st.dt⟩ = some r := by
        cases e with
        | true =>
          have h : both (fun b => κ ⟨setDst st.env o.dst (some (.v false [.bool b])), st.hp, st.nx, st.dt⟩) = some r := h
          exact both_some h b
        | false => rw [h2 rfl]; exact h
      unfold Oper.wp
      rw [h1]
      exact ⟨_, hk, ρ, ok, [], rfl, hH, env_put hE (fun x hx => by cases hx; exact ⟨_, rfl, rfl⟩) hd', Goes.refl fun l o ho => (hH.ob l o ho).1, Tm.put a o _⟩
    split at h <;> try (cases h; done)
    rename_i res hres
    cases hc : res.c with
    | false => rw [hc] at h; cases h
    | true =>
      rw [hc] at h
      have h : κ ⟨setDst st.env o.dst res.s, ups st.hp res.up, st.nx + res.nw, names res.up ++ st.dt⟩ = some r := h
      obtain ⟨n, w', ρ', ok', h1, h2, h3⟩ := evOp_ok cx hcx.tab hcx.eqs hN hres hc
      have hE' := hE.move h2.2 hH
      unfold Oper.wp
      rw [h1]
      rcases h3 with ⟨v, rfl, hs⟩ | ⟨rfl, hs⟩
      · exact ⟨_, h, ρ', ok', names res.up, rfl, h2.1, env_put hE' hs hd', h2.2, Tm.put a o v⟩
      · exact ⟨_, h, ρ', ok', names res.up, rfl, h2.1, env_put hE' (fun x hx => by rw [hs] at hx; cases hx) hd', h2.2, Tm.put a o undef⟩
  unfold step at h
  split at h
  · rename_i f args ts ho
    split at h <;> try (cases h; done)
    rename_i g as hg
    obtain ⟨vals, hsz, hv, hrun⟩ := callee_ok hN ho hg
    split at h
    · rename_i sp hsp
      obtain ⟨hent, hspec⟩ := hcx.spec g _ _ sp hsp
      split at h <;> try (cases h; done)
      rename_i cr hcr
      unfold evCall at hcr
      split at hcr <;> try (cases hcr; done)
      rename_i hn
      split at hcr <;> try (cases hcr; done)
      rename_i hchk
      simp only [Bool.and_eq_true] at hchk
      obtain ⟨c1, c2, c3, c4⟩ := hchk
      split at hcr <;> try (cases hcr; done)
      rename_i x hx
      cases hcr
      obtain ⟨y, hy, hκ⟩ := Option.bind_eq_some_iff.1 h
      obtain ⟨ρi, oki, i1, i2, i3⟩ := call_eff hH (fun _ _ h => h) hv c1 (Nat.le_of_ble_eq_true c2) c3 c4 hx
      unfold Oper.wp
      rw [hrun hent]
      rw [Oper.upon_enter]
      refine (hspec x y hy ρi oki w vals (by rw [hsz]; exact Nat.eq_of_beq_eq_true hn) i1 i2).mono ?_
      rintro e w' ⟨v, ρ', ok', rfl, e1, e2, e3⟩
      obtain ⟨ρ2, e4, e5⟩ := i3 y v w' ρ' ok' e1 e2 e3
      have hE' := hE.move e4.2 hH
      exact ⟨_, hκ, ρ2, ok', _, rfl, e4.1, env_put hE' e5 hd', e4.2, Tm.put a o v⟩
    · obtain ⟨hent, hcall⟩ := hinl R g as st.hp st.nx st.dt _ r h
      unfold Oper.wp
      rw [hrun hent]
      rw [Oper.upon_enter]
      refine (hcall ρ ok w vals hH hv).mono ?_
      rintro e w' ⟨v, s, hp', nx', dt', D, ρ', ok', rfl, hκ, hdt, e1, e2, e3⟩
      have hE' := hE.move e3 hH
      exact ⟨_, hκ, ρ', ok', D, hdt, e1, env_put hE' e2 hd', e3, Tm.put a o v⟩
  · exact plain h

theorem evOps_ok (hcx : CxOk P cx) (hinl : InlOk P inl) (ops : Array Oper) : ∀ (l : List Oper) (st : St) (κ : St → Option R) (r : R), evOps cx inl ops l st κ = some r → ∀ ρ ok w (a : Act),
    RepH ρ ok w st.hp st.nx → RepE ρ ok w st.nx st.env a.tmps → (∀ o ∈ l, ∀ t ∈ dstOf o, t < a.tmps.size) → ∀ (Q : Exit → Act → World → Prop),
    (∀ st' a' w', κ st' = some r → After st ρ ok w a (l.flatMap dstOf) st' a' w' → Q .normal a' w') → wpList P ops Q l a w
  | [], st, κ, r, h, ρ, ok, w, a, hH, hE, _, Q, hQ => hQ st a w h ⟨ρ, ok, [], rfl, hH, hE, Goes.refl fun l o ho => (hH.ob l o ho).1, Tm.refl _ _⟩
  | o :: l, st, κ, r, h, ρ, ok, w, a, hH, hE, hd, Q, hQ => by
    have hdo : ∀ t ∈ dstOf o, t < a.tmps.size := hd o List.mem_cons_self
    -- the operation is done, from a state with the same memory
    have doIt : ∀ env, RepE ρ ok w st.nx env a.tmps → step cx inl o ⟨env, st.hp, st.nx, st.dt⟩ (fun st => evOps cx inl ops l st κ) = some r → o.wp P a w (wpList P ops Q l) Q := by
      intro env hEnv hs
      refine Oper.wp_mono ?_ (step_ok hcx hinl hs hH hEnv hdo Q)
      rintro a1 w1 ⟨st1, h1, h2⟩
      obtain ⟨ρ1, ok1, D, k1, k2, k3, k4, k5⟩ := h2
      refine evOps_ok hcx hinl ops l st1 κ r h1 ρ1 ok1 w1 a1 k2 k3 (fun o' ho' t ht => by rw [k5.size]; exact hd o' (List.mem_cons_of_mem _ ho') t ht) Q fun st2 a2 w2 g1 g2 => hQ st2 a2 w2 g1 ?_
      obtain ⟨ρ2, ok2, D2, j1, j2, j3, j4, j5⟩ := g2
      exact ⟨ρ2, ok2, D2 ++ D, by rw [j1, k1, List.append_assoc], j2, j3, k4.trans j4, k5.trans j5 (fun t ht => by simp [ht]) (fun t ht => by simp only [List.flatMap_cons, List.mem_append]; exact .inr ht)⟩
    -- the operation is left out
    have skipIt : ∀ env, RepE ρ ok w st.nx env a.tmps → evOps cx inl ops l ⟨setDst env o.dst (some (.tup [])), st.hp, st.nx, st.dt⟩ κ = some r → wpList P ops Q l (a.put o.dst undef) w := by
      intro env hEnv hs
      have hEn := env_put (v := undef) (s := some (.tup [])) hEnv (fun x hx => by cases hx; exact ⟨[], rfl, .nil⟩) (d := o.dst) (fun t ht => hdo t (by simp [dstOf, ht]))
      refine evOps_ok hcx hinl ops l _ κ r hs ρ ok w _ hH hEn (fun o' ho' t ht => by rw [(Tm.put a o undef).size]; exact hd o' (List.mem_cons_of_mem _ ho') t ht) Q fun st2 a2 w2 g1 g2 => hQ st2 a2 w2 g1 ?_
      obtain ⟨ρ2, ok2, D2, j1, j2, j3, j4, j5⟩ := g2
      exact ⟨ρ2, ok2, D2, j1, j2, j3, j4, (Tm.put a o undef).trans j5 (fun t ht => by simp [ht]) (fun t ht => by simp only [List.flatMap_cons, List.mem_append]; exact .inr ht)⟩
    unfold wpList
    simp only [evOps] at h
    split at h
    · rename_i hg
      rw [if_pos (by simp [Region.wanted, hg])]
      exact .inl (doIt st.env hE h)
    · rename_i gd want hg
      split at h <;> try (cases h; done)
      rename_i t ht
      split at h
      case h_2 =>
        split at h <;> try (cases h; done)
        rename_i hu
        obtain ⟨v, hv1, vs, hv2, hv3⟩ := hE t _ hu
        cases hv3
        subst hv2
        have hy : yielded ops a.tmps gd = none := by simp [yielded, ht, hv1]
        rw [if_neg (by simp [Region.wanted, hg, hy])]
        exact skipIt _ hE h
      rename_i b hb
      obtain ⟨v, hv1, hv2⟩ := hE t _ (cells1_some hb)
      obtain ⟨c, e, hv2⟩ := hv2
      cases e
      have hv : v = .bool b := hv2
      subst hv
      have hy : yielded ops a.tmps gd = some b := by simp [yielded, ht, hv1]
      have hEb : ∀ b', b = b' → RepE ρ ok w st.nx (Lv.put st.env t (some (.v false [.bool b']))) a.tmps := by
        intro b' e i s hs
        subst e
        simp only [Lv.put] at hs
        split at hs
        · rename_i hi
          cases hs
          rw [Nat.eq_of_beq_eq_true hi]
          exact ⟨_, hv1, _, rfl, rfl⟩
        · exact hE i s hs
      cases b with
      | true =>
        simp only [cond_true] at h
        cases want with
        | true =>
          rw [if_pos (by simp [Region.wanted, hg, hy])]
          exact .inl (doIt _ (hEb true rfl) h)
        | false =>
          rw [if_neg (by simp [Region.wanted, hg, hy])]
          exact skipIt _ (hEb true rfl) h
      | false =>
        simp only [cond_false] at h
        cases want with
        | false =>
          rw [if_pos (by simp [Region.wanted, hg, hy])]
          exact .inl (doIt _ (hEb false rfl) h)
        | true =>
          rw [if_neg (by simp [Region.wanted, hg, hy])]
          exact skipIt _ (hEb false rfl) h
end
end Lv
