import Derived.Test.YtnogebfcpicghaaGreatDoorEvW
import Derived.Recover
set_option linter.all false
set_option linter.unusedVariables false
set_option linter.unusedSimpArgs false
set_option linter.unusedSectionVars false
namespace Lv
variable [HasG]
open Go Go.RowKit

/-! ## A function that defers a closure, which recovers -/
def seqs : List (Code × H) → Code → Code
  | [], k => k
  | (c, _) :: r, k => .seq c (seqs r k)
noncomputable def evPre (cx : Cx) (inl : Inl) (R : Type) : List (Code × H) → St → (Out → Option R) → Option R
  | [], st, κ => κ (.normal st)
  | (c, h) :: r, st, κ => evC cx inl R c h st fun o => match o with
    | .normal st' => evPre cx inl R r st' κ
    | .exit id st' => κ (.exit id st')
    | .ret st' => κ (.ret st')
    | .pan n st' => κ (.pan n st')
def writesL : List (Code × H) → List Nat
  | [] => []
  | (c, _) :: r => writes c ++ writesL r

section
variable {P : Program} {cx : Cx} {inl : Inl}

theorem evPre_ok (hcx : CxOk P cx) (hinl : InlOk P cx.pan inl) (hdr : DrawnOk P cx) {R : Type} {K : Code} {κ : Out → Option R} {r : R} {Q : Exit → Act → World → Prop} {W : List Nat} : ∀ (l : List (Code × H)) (st : St), (∀ t ∈ writesL l, t ∈ W) → evPre cx inl R l st κ = some r → ∀ ρ ok w (a : Act),
    RepH ρ ok w st.hp st.nx → RepE ρ ok w st.nx st.env a.tmps → (∀ t ∈ W, t < a.tmps.size) →
    (∀ st' a' w', κ (.normal st') = some r → After st ρ ok w a W st' a' w' → K.wp P Q a' w') →
    (∀ o e a' w', (∀ s, o ≠ .normal s) → κ o = some r → OutIs o e → After st ρ ok w a W o.st a' w' → Q e a' w') →
    PanPost cx.pan (fun n st => κ (.pan n st)) r st ρ ok w a W Q → (seqs l K).wp P Q a w
  | [], st, hl, h, ρ, ok, w, a, hH, hE, hW, hK, hQ, hQp => hK st a w h ⟨ρ, ok, [], rfl, hH, hE, Goes.refl fun l o ho => (hH.ob l o ho).1, Tm.refl _ _⟩
  | (c, hh) :: l, st, hl, h, ρ, ok, w, a, hH, hE, hW, hK, hQ, hQp => by
    have hc : ∀ t ∈ writes c, t ∈ W := fun t ht => hl t (List.mem_append_left _ ht)
    refine wp_seq (evC_ok hcx hinl hdr c R hh st _ r h ρ ok w a hH hE (fun t ht => hW t (hc t ht)) _ ?_ (hQp.mono hc))
    intro o e a' w' h1 h2 h3
    obtain ⟨ρ', ok', D, g1, g2, g3, g4, g5⟩ := h3
    cases o with
    | pan n st' => cases h2
    | exit id st' => cases h2; exact hQ (.exit id st') _ _ _ (fun s e => by cases e) h1 rfl ⟨ρ', ok', D, g1, g2, g3, g4, g5.mono hc⟩
    | ret st' => cases h2; exact hQ (.ret st') _ _ _ (fun s e => by cases e) h1 rfl ⟨ρ', ok', D, g1, g2, g3, g4, g5.mono hc⟩
    | normal st' =>
      cases h2
      have g1 : st'.dt = D ++ st.dt := g1
      refine evPre_ok hcx hinl hdr l st' (fun t ht => hl t (List.mem_append_right _ ht)) h1 ρ' ok' w' a' g2 g3 (fun t ht => by rw [g5.size]; exact hW t ht) ?_ ?_ (hQp.next g1 g4 (g5.mono hc) (fun _ h => h) (fun _ h => h))
      · rintro st2 a2 w2 k1 ⟨ρ2, ok2, D2, j1, j2, j3, j4, j5⟩
        exact hK st2 a2 w2 k1 ⟨ρ2, ok2, D2 ++ D, by rw [j1, g1, List.append_assoc], j2, j3, g4.trans j4, (g5.mono hc).trans j5 (fun _ h => h) (fun _ h => h)⟩
      · rintro o2 e2 a2 w2 k0 k1 k2 ⟨ρ2, ok2, D2, j1, j2, j3, j4, j5⟩
        exact hQ o2 e2 a2 w2 k0 k1 k2 ⟨ρ2, ok2, D2 ++ D, by rw [j1, g1, List.append_assoc], j2, j3, g4.trans j4, (g5.mono hc).trans j5 (fun _ h => h) (fun _ h => h)⟩

/-- the door: a closure over two variables is made and deferred -/
structure DoorOk (om od : Oper) (f p q t : Nat) : Prop where
  mkf : om.op = .makeFunc (.func f) #[] #[.tmp p, .tmp q]
  mkd : om.dst = some t
  mkg : om.guard = none
  df : od.op = .defer { callee := .value (.tmp t), args := #[], argTypes := #[] }
  dfd : od.dst = none
  dfg : od.guard = none

theorem wp_door {om od : Oper} {f p q t i : Nat} (h : DoorOk om od f p q t) {a : Act} {w : World} {Q : Exit → Act → World → Prop} (ht : t < a.tmps.size)
    (hQ : Q .normal { tmps := a.tmps.setIfInBounds t (.func (.func f) #[] #[a.eval (.tmp p), a.eval (.tmp q)]), defers := ⟨.fn (.func f) #[a.eval (.tmp p), a.eval (.tmp q)], #[]⟩ :: a.defers } w) : (Code.region i #[om, od] false).wp P Q a w := by
  refine wp_region_list ?_
  show wpList P #[om, od] Q [om, od] a w
  unfold wpList
  rw [if_pos (by simp [Region.wanted, h.mkg])]
  refine .inl ?_
  unfold Oper.wp
  have h1 : (execOp a.eval om).run P w = .ok (.value (.func (.func f) #[] #[a.eval (.tmp p), a.eval (.tmp q)])) w := by
    simp [execOp, h.mkf, Instr.makeFunc]
  rw [h1, Oper.upon_value]
  unfold wpList
  rw [if_pos (by simp [Region.wanted, h.dfg])]
  refine .inl ?_
  unfold Oper.wp
  have hev : (a.put om.dst (.func (.func f) #[] #[a.eval (.tmp p), a.eval (.tmp q)])).eval (.tmp t) = .func (.func f) #[] #[a.eval (.tmp p), a.eval (.tmp q)] := by
    simp [h.mkd, Act.put, Act.eval, Array.getD_eq_getD_getElem?, ht]
  have h2 : (execOp (a.put om.dst (.func (.func f) #[] #[a.eval (.tmp p), a.eval (.tmp q)])).eval od).run P w = .ok (.defer ⟨.fn (.func f) #[a.eval (.tmp p), a.eval (.tmp q)], #[]⟩) w := by
    simp only [execOp, h.df, resolve, hev, Deferred.ofValue, Sem.run_bind, Sem.run_pure, Result.andThen_ok, List.map_toArray, List.map_nil]
    simp
  rw [h2, Oper.upon_defer]
  unfold wpList
  simp only [h.mkd, h.dfd, Act.put]
  exact hQ

/-- the closure's first operation -/
structure RecOk (or : Oper) (tr : Nat) : Prop where
  op : ∃ ty, or.op = .call { callee := .builtin .recover, args := #[], argTypes := ty }
  dst : or.dst = some tr
  g : or.guard = none

noncomputable def evClo (cx : Cx) (inl : Inl) (G : Code) (hG : H) (p q tr : Nat) (res : List ResultVar) (so : Sh) (st2 : St) (v : Value) : Option (TS so) :=
  evC cx inl (TS so) G hG ⟨Lv.put (argEnv [st2.env p, st2.env q]) tr (some (.v false [.val v])), st2.hp, st2.nx, st2.dt⟩ fun o => match o with
      | .normal st3 => evF.fin cx res so ⟨st2.env, st3.hp, st3.nx, st3.dt⟩
      | .ret st3 => evF.fin cx res so ⟨st2.env, st3.hp, st3.nx, st3.dt⟩
      | .exit _ _ => none
      | .pan _ _ => none
noncomputable def evDef (cx : Cx) (inl : Inl) (pre : List (Code × H)) (E : Code) (hE : H) (G : Code) (hG : H) (p q t tr : Nat) (res : List ResultVar) (si so : Sh) (x : TS si) : Option (TS so) :=
  evPre cx inl (TS so) pre ⟨envOut si id x, hpOut si id x, 1000, []⟩ fun o => match o with
  | .normal st => evC cx inl (TS so) E hE ⟨Lv.put st.env t none, st.hp, st.nx, st.dt⟩ fun o => match o with
    | .normal st2 => evClo cx inl G hG p q tr res so st2 .nilIface
    | .ret st2 => evClo cx inl G hG p q tr res so st2 .nilIface
    | .pan n st2 => evClo cx inl G hG p q tr res so st2 (bpan cx.pan n)
    | .exit _ _ => none
  | .ret st => evF.fin cx res so st
  | .exit _ _ => none
  | .pan _ _ => none

theorem recover_run {or : Oper} {tr : Nat} (h : RecOk or tr) (a : Act) (w : World) : (execOp a.eval or).run P w = .ok .recover w := by
  obtain ⟨⟨ty, ho⟩, _, _⟩ := h
  simp only [execOp, ho, resolve, Sem.run_bind, Sem.run_pure, Result.andThen_ok, invoke]
  rfl

theorem wpS_recover {or : Oper} {tr ir : Nat} (h : RecOk or tr) {G : Code} {Q : Exit → Act → List Frame → World → Prop} {a : Act} {cs cs' : List Frame} {w : World} {v : Value}
    (hv : recoverD cs = some (v, cs') ∨ (recoverD cs = none ∧ v = .nilIface ∧ cs' = cs)) (hG : G.wpS P Q (a.put (some tr) v) cs' w) : (Code.seq (.region ir #[or] false) G).wpS P Q a cs w := by
  refine wpS_seq (wpS_region ?_)
  show wpOpsS P #[or] _ [0] a cs w
  have hw : Region.wanted or (yielded #[or] a.tmps) = true := by simp [Region.wanted, h.g]
  have h0 : (#[or])[0]? = some or := rfl
  unfold wpOpsS
  rw [h0]
  simp only [hw, if_true, recover_run h]
  rcases hv with hv | ⟨hv, rfl, rfl⟩
  · rw [hv]
    simp only [wpOpsS, h.dst]
    exact hG
  · rw [hv]
    simp only [wpOpsS, h.dst]
    exact hG

/-- the closure, called behind a return or a panic -/
theorem clo_ok (hcx : CxOk P cx) (hinl : InlOk P cx.pan inl) (hdr : DrawnOk P cx) {f : FuncId} {gf : Func} (hf : P.funcs[f]? = some gf) {ir tr : Nat} {or : Oper} {G : Code} (hb : gf.body = some (.seq (.region ir #[or] false) G)) (hr : RecOk or tr) (hres : gf.results = #[])
    (hW : allBlt gf.ntmps (tr :: writes G) = true) {hG : H} {p q : Nat} {res : List ResultVar} {so : Sh} {st2 : St} {v : Value} {y : TS so} (hev : evClo cx inl G hG p q tr res so st2 v = some y)
    {u : FrameMode} (hm : (u = .returning ∧ v = .nilIface) ∨ ∃ n, u = .panicking (panE cx.pan n) ∧ v = bpan cx.pan n)
    {ρ ok w} {vp vq : Value} (hH : RepH ρ ok w st2.hp st2.nx) (hE : RepE ρ ok w st2.nx (argEnv [st2.env p, st2.env q]) #[vp, vq]) :
    CallsD P f #[vp, vq] u w fun e u2 w' => ∃ rv, e = .returned rv ∧ settle u2 = .returning ∧ ∃ (st3 : St) (ρ' : Nat → Value) (ok' : Nat → Prop) (D : List Nat), st3.dt = D ++ st2.dt ∧ evF.fin cx res so ⟨st2.env, st3.hp, st3.nx, st3.dt⟩ = some y ∧ RepH ρ' ok' w' st3.hp st3.nx ∧ Goes ρ ok w st2.hp st2.nx D ρ' ok' w' st3.hp st3.nx := by
  refine callsD_of_wpS hf hb fun c₀ cs hu => ?_
  have hvo : v.oneCell' = true := by rcases hm with ⟨_, rfl⟩ | ⟨n, _, rfl⟩ <;> rfl
  obtain ⟨cs', u2, hcs, hset, hrec⟩ : ∃ cs' u2, cs' = { c₀ with mode := u2 } :: cs ∧ settle u2 = .returning ∧ (recoverD (c₀ :: cs) = some (v, cs') ∨ (recoverD (c₀ :: cs) = none ∧ v = .nilIface ∧ cs' = c₀ :: cs)) := by
    rcases hm with ⟨rfl, rfl⟩ | ⟨n, rfl, rfl⟩
    · refine ⟨c₀ :: cs, .returning, by rw [← hu], rfl, .inr ⟨?_, rfl, rfl⟩⟩
      simp [recoverD, hu]
    · refine ⟨_, .panicking [{ v := bpan cx.pan n, recovered := true }], rfl, rfl, .inl ?_⟩
      simp [recoverD, hu, panE]
  refine wpS_recover hr hrec (wpS_of_wp ?_)
  have hsz : (#[vp, vq] ++ Array.replicate (gf.ntmps - 2) undef).size = max 2 gf.ntmps := by simp; omega
  have hlt : ∀ t, t = tr ∨ t ∈ writes G → t < max 2 gf.ntmps := fun t ht => by
    have := allBlt_iff.1 hW t (by rcases ht with rfl | ht; exact List.mem_cons_self; exact List.mem_cons_of_mem _ ht)
    omega
  unfold evClo at hev
  have hE1 : RepE ρ ok w st2.nx (argEnv [st2.env p, st2.env q]) (#[vp, vq] ++ Array.replicate (gf.ntmps - 2) undef) := by
    intro t s hs
    obtain ⟨v', h1, h2⟩ := hE t s hs
    refine ⟨v', ?_, h2⟩
    rw [Array.getElem?_append_left (Array.getElem?_eq_some_iff.1 h1).1]
    exact h1
  refine evC_ok hcx hinl hdr G (TS so) hG _ _ y hev ρ ok w _ hH ?_ ?_ _ ?_ ?_
  · have := RepE.put (d := some tr) (v := v) (s := some (.v false [.val v])) hE1 (fun x hx => by cases hx; exact ⟨_, rfl, rfl, hvo⟩) (fun t ht => by cases ht; exact hsz.symm ▸ hlt tr (.inl rfl))
    exact this
  · intro t ht
    show t < (Array.setIfInBounds _ _ _).size
    rw [Array.size_setIfInBounds]
    exact hsz.symm ▸ hlt t (.inr ht)
  · rintro o e a' w' h1 h2 ⟨ρ', ok', D, g1, g2, g3, g4, g5⟩
    have hres' : (results gf a'.tmps).run P w' = .ok (.tuple #[]) w' := by
      unfold results
      rw [hres]
      simp
    have hdef : a'.defers = [] := g5.defers
    cases o with
    | normal st3 => cases h2; exact ⟨hdef, u2, hcs, _, hres', _, rfl, hset, st3, ρ', ok', D, g1, h1, g2, g4⟩
    | ret st3 => cases h2; exact ⟨hdef, u2, hcs, _, hres', _, rfl, hset, st3, ρ', ok', D, g1, h1, g2, g4⟩
    | exit id st3 => cases h1
    | pan n st3 => cases h1
  · intro n st' a' w' h1
    cases h1

theorem CallsD.mono {f : FuncId} {args : Array Value} {u : FrameMode} {w : World} {R R' : Ending → FrameMode → World → Prop} (h : CallsD P f args u w R) (hR : ∀ e u w, R e u w → R' e u w) : CallsD P f args u w R' := by
  intro c cs hc
  obtain ⟨e, u', w', fr, h1, h2, h3, h4⟩ := h c cs hc
  exact ⟨e, u', w', fr, hR _ _ _ h1, h2, h3, h4⟩

theorem def_ok (hcx : CxOk P cx) (hinl : InlOk P cx.pan inl) (hdr : DrawnOk P cx) {g : FuncId} {fn : Func} (hg : P.funcs[g]? = some fn) {pre : List (Code × H)} {i : Nat} {om od : Oper} {E : Code} (hb : fn.body = some (seqs pre (.seq (.region i #[om, od] false) E)))
    {f p q t : Nat} (hd : DoorOk om od f p q t) {gf : Func} (hf : P.funcs[f]? = some gf) (hgn : gf.name ≠ "runtime.NumGoroutine") {ir tr : Nat} {or : Oper} {G : Code} (hgb : gf.body = some (.seq (.region ir #[or] false) G)) (hr : RecOk or tr) (hres : gf.results = #[])
    (hWg : allBlt gf.ntmps (tr :: writes G) = true) (hWf : allBlt fn.ntmps (t :: (writesL pre ++ writes E)) = true) (hpq : apartN [p, q] (t :: writes E) = true)
    {hE hG : H} {n : Nat} {si so : Sh} (hso : shBelow so = true) {F : TS si → Option (TS so)} (hF : ∀ x y, F x = some y → evDef cx inl pre E hE G hG p q t tr fn.results.toList si so x = some y) : SpecOk P g ⟨n, si, so, F⟩ := by
  intro x y hxy ρ ok w args _ hH hE0
  have hev := hF x y hxy
  unfold evDef at hev
  have hlt : ∀ u, (u = t ∨ u ∈ writesL pre ∨ u ∈ writes E) → u < fn.ntmps := fun u hu => allBlt_iff.1 hWf u (by
    rcases hu with rfl | hu | hu
    · exact List.mem_cons_self
    · exact List.mem_cons_of_mem _ (List.mem_append_left _ hu)
    · exact List.mem_cons_of_mem _ (List.mem_append_right _ hu))
  have hap := apartN_iff.1 hpq
  have hpt : p ≠ t := fun e => hap p (by simp) (by simp [e])
  have hqt : q ≠ t := fun e => hap q (by simp) (by simp [e])
  have hpE : p ∉ writes E := fun h => hap p (by simp) (List.mem_cons_of_mem _ h)
  have hqE : q ∉ writes E := fun h => hap q (by simp) (List.mem_cons_of_mem _ h)
  -- behind all: the results
  have fin : ∀ (tm : Array Value) (w' : World) (st3 : St) (ρ3 : Nat → Value) (ok3 : Nat → Prop) (D : List Nat), evF.fin cx fn.results.toList so st3 = some y → RepH ρ3 ok3 w' st3.hp st3.nx → RepE ρ3 ok3 w' st3.nx st3.env tm → Goes ρ ok w (hpOut si id x) 1000 D ρ3 ok3 w' st3.hp st3.nx →
      ∃ v, (results fn tm).run P w' = .ok v w' ∧ ∃ u ρ' ok', Ending.returned v = .returned u ∧ RepH ρ' ok' w' (hpOut so id y) so.nn ∧ RepE ρ' ok' w' so.nn (envOut so id y) #[u] ∧ Exits (hpOut si id x) ρ ok w (hpOut so id y) ρ' ok' w' := by
    intro tm w' st3 ρ3 ok3 D h1 h2 h3 h4
    obtain ⟨s, hs⟩ := fin_res h1
    obtain ⟨v, k1, k2⟩ := res_ok (P := P) (fn := fn) hcx.tab h2 h3 hs
    exact ⟨v, k1, fin_ok hso h1 h2 (fun s' hs' => by rw [hs] at hs'; cases hs'; exact k2) h4⟩
  have hsz : ∀ u, u < fn.ntmps → u < (args ++ Array.replicate (fn.ntmps - args.size) undef).size := fun u hu => by
    simp only [Array.size_append, Array.size_replicate]; omega
  refine calls_of_wp_defers hg hb ?_
  refine evPre_ok hcx hinl hdr (W := writesL pre) pre _ (fun _ h => h) hev ρ ok w _ hH ?_ (fun u hu => hsz u (hlt u (.inr (.inl hu)))) ?_ ?_ ?_
  · intro u s hs
    obtain ⟨v, k1, k2⟩ := hE0 u s hs
    refine ⟨v, ?_, k2⟩
    show (args ++ _)[u]? = some v
    rw [Array.getElem?_append_left (Array.getElem?_eq_some_iff.1 k1).1]
    exact k1
  · rintro st a w1 hκ ⟨ρ1, ok1, D1, g1, g2, g3, g4, g5⟩
    have hta : t < a.tmps.size := by rw [g5.size]; exact hsz t (hlt t (.inl rfl))
    refine wp_seq (wp_door hd hta ?_)
    show E.wp P _ _ w1
    generalize hvp : a.eval (.tmp p) = vp
    generalize hvq : a.eval (.tmp q) = vq
    have had : a.defers = [] := g5.defers
    -- the closure, and the results behind it
    have leaves : ∀ (st2 : St) (a2 : Act) (w2 : World) (v : Value) (u : FrameMode), ((u = .returning ∧ v = .nilIface) ∨ ∃ n, u = .panicking (panE cx.pan n) ∧ v = bpan cx.pan n) → evClo cx inl G hG p q tr fn.results.toList so st2 v = some y →
        After ⟨Lv.put st.env t none, st.hp, st.nx, st.dt⟩ ρ1 ok1 w1 { tmps := a.tmps.setIfInBounds t (.func (.func f) #[] #[vp, vq]), defers := ⟨.fn (.func f) #[vp, vq], #[]⟩ :: a.defers } (writes E) st2 a2 w2 →
        Leaves P fn a2.tmps (fun e w' => ∃ v ρ' ok', e = .returned v ∧ RepH ρ' ok' w' (hpOut so id y) so.nn ∧ RepE ρ' ok' w' so.nn (envOut so id y) #[v] ∧ Exits (hpOut si id x) ρ ok w (hpOut so id y) ρ' ok' w') a2.defers u w2 := by
      rintro st2 a2 w2 v u hm hclo ⟨ρ2, ok2, D2, j1, j2, j3, j4, j5⟩
      have hdf : a2.defers = [⟨.fn (.func f) #[vp, vq], #[]⟩] := by rw [j5.defers]; simp [had]
      have tmp : ∀ z vz, z ≠ t → z ∉ writes E → a.eval (.tmp z) = vz → ∀ s, st2.env z = some s → ∃ v', (#[vz] : Array Value)[0]? = some v' ∧ SlotR ρ2 ok2 w2 st2.nx s v' := by
        intro z vz hz hzE hvz s hs
        obtain ⟨v', k1, k2⟩ := j3 z s hs
        have h1 : a2.tmps[z]? = (a.tmps.setIfInBounds t (.func (.func f) #[] #[vp, vq]))[z]? := j5.same z hzE
        rw [Array.getElem?_setIfInBounds_ne (fun e => hz e.symm)] at h1
        rw [h1] at k1
        have : vz = v' := by rw [← hvz]; simp [Act.eval, Array.getD_eq_getD_getElem?, k1]
        subst this
        exact ⟨vz, rfl, k2⟩
      have hEc : RepE ρ2 ok2 w2 st2.nx (argEnv [st2.env p, st2.env q]) #[vp, vq] := by
        intro z s hs
        match z, hs with
        | 0, hs =>
          obtain ⟨v', k1, k2⟩ := tmp p vp hpt hpE hvp s hs
          have : vp = v' := by simpa using k1
          exact ⟨vp, rfl, this ▸ k2⟩
        | 1, hs =>
          obtain ⟨v', k1, k2⟩ := tmp q vq hqt hqE hvq s hs
          have : vq = v' := by simpa using k1
          exact ⟨vq, rfl, this ▸ k2⟩
        | z + 2, hs => cases hs
      rw [hdf]
      have hent : Enters P f := ⟨gf, hf, by rw [hgb]; rfl, hgn⟩
      refine ⟨by rcases hm with ⟨rfl, _⟩ | ⟨n, rfl, _⟩ <;> (intro e; cases e), .func f, #[vp, vq], f, #[vp, vq], rfl, ?_, ?_⟩
      · show (invoke (.fn (.func f) #[vp, vq]) #[]).run P w2 = _
        simp only [invoke]
        rw [callFunc_run hent]
        simp
      · refine (clo_ok hcx hinl hdr hf hgb hr hres hWg hclo hm j2 hEc).mono ?_
        rintro e u2 w3 ⟨rv, rfl, hset, st3, ρ3, ok3, D3, q1, q2, q3, q4⟩
        show Leaves P fn a2.tmps _ [] (settle u2) w3
        rw [hset]
        exact fin a2.tmps w3 ⟨st2.env, st3.hp, st3.nx, st3.dt⟩ ρ3 ok3 _ q2 q3 (j3.move q4 j2) ((g4.trans j4).trans q4)
    refine evC_ok hcx hinl hdr E (TS so) hE ⟨Lv.put st.env t none, st.hp, st.nx, st.dt⟩ _ y hκ ρ1 ok1 w1 _ g2 ?_ ?_ _ ?_ ?_
    · exact RepE.put (d := some t) (s := none) (v := .func (.func f) #[] #[vp, vq]) g3 (fun x hx => by cases hx) (fun u hu => by cases hu; exact hta)
    · intro u hu
      show u < (Array.setIfInBounds _ _ _).size
      rw [Array.size_setIfInBounds, g5.size]
      exact hsz u (hlt u (.inr (.inr hu)))
    · intro o e a2 w2 k1 k2 k3
      cases o with
      | normal st2 => cases k2; exact leaves st2 a2 w2 _ .returning (.inl ⟨rfl, rfl⟩) k1 k3
      | ret st2 => cases k2; exact leaves st2 a2 w2 _ .returning (.inl ⟨rfl, rfl⟩) k1 k3
      | exit id st2 => cases k1
      | pan n st2 => cases k2
    · intro n st2 a2 w2 k1 k3
      exact leaves st2 a2 w2 _ (.panicking (panE cx.pan n)) (.inr ⟨n, rfl, rfl⟩) k1 k3
  · intro o e a w1 hno hκ hoe hA
    cases o with
    | normal st => exact absurd rfl (hno st)
    | exit id st => cases hκ
    | pan n st => cases hκ
    | ret st =>
      cases hoe
      obtain ⟨ρ1, ok1, D1, g1, g2, g3, g4, g5⟩ := hA
      show Leaves P fn a.tmps _ a.defers .returning w1
      rw [show a.defers = [] from g5.defers]
      exact fin a.tmps w1 st ρ1 ok1 _ hκ g2 g3 g4
  · intro n st a w1 hκ
    cases hκ

theorem def_stk (hcx : CxOk P cx) (hinl : InlOk P cx.pan inl) (hm : P.follows .mixedOrders = true) {g : FuncId} {fn : Func} (hg : P.funcs[g]? = some fn) {pre : List (Code × H)} {i : Nat} {om od : Oper} {E : Code} (hb : fn.body = some (seqs pre (.seq (.region i #[om, od] false) E)))
    {f p q t : Nat} (hd : DoorOk om od f p q t) {gf : Func} (hf : P.funcs[f]? = some gf) (hgn : (gf.name == "runtime.NumGoroutine") = false) {ir tr : Nat} {or : Oper} {G : Code} (hgb : gf.body = some (.seq (.region ir #[or] false) G)) (hr : RecOk or tr) (hres : gf.results = #[])
    (hWg : allBlt gf.ntmps (tr :: writes G) = true) (hWf : allBlt fn.ntmps (t :: (writesL pre ++ writes E)) = true) (hpq : apartN [p, q] (t :: writes E) = true)
    (hE hG : H) {n : Nat} {si so : Sh} (hso : shBelow so = true) {F : TS si → Option (TS so)} (hev : ∀ x, evDef cx inl pre E hE G hG p q t tr fn.results.toList si so x = F x) : SpecOk P g ⟨n, si, so, stk F⟩ := by
  rw [stk_eq]
  exact def_ok hcx hinl (drawnOk hcx hm) hg hb hd hf (by simpa using hgn) hgb hr hres hWg hWf hpq (hE := hE) (hG := hG) hso fun x y hx => by rw [hev]; exact hx
def lC : Code → Code
  | .seq a _ => a
  | c => c
def rC' : Code → Code
  | .seq _ b => b
  | c => c
def opC (c : Code) (i : Nat) : Oper := match c with
  | .region _ ops _ => ops.getD i default
  | _ => default
end
end Lv
