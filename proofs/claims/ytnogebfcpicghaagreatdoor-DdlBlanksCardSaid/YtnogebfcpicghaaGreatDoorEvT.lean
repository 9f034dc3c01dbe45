import Derived.Test.YtnogebfcpicghaaGreatDoorEvS
set_option linter.all false
set_option linter.unusedVariables false
set_option linter.unusedSimpArgs false
set_option linter.unusedSectionVars false
namespace Lv
variable [HasG]
open Go Go.RowKit

section
variable {P : Program} {cx : Cx}

theorem resCell_run (hT : TabOk P cx.tab) {ρ : Nat → Value} {ok : Nat → Prop} {w : World} {hp : Heap} {nx : Nat} {env : Env} {tmps : Array Value} (hH : RepH ρ ok w hp nx) (hE : RepE ρ ok w nx env tmps) (f : ResultVar → Sem Value) (hf : ∀ t, f (.tmp t) = pure (tmps.getD t undef))
    (hc : ∀ a t, f (.cell a t) = (do loadVar t (← asAddr (tmps.getD a undef)))) {v : ResultVar} {p : Bool × List Cell} (h : resCell cx env hp v = some p) : ∃ u, (f v).run P w = .ok u w ∧ VR ρ ok w nx p.1 p.2 u := by
  cases v with
  | tmp t =>
    simp only [resCell] at h
    split at h <;> try (cases h; done)
    rename_i a cs ht
    cases h
    obtain ⟨v, hv1, hv2⟩ := hE t _ ht
    have : tmps.getD t undef = v := by simp [Array.getD_eq_getD_getElem?, hv1]
    exact ⟨v, by rw [hf, this]; simp, hv2⟩
  | cell a t =>
    simp only [resCell] at h
    split at h <;> try (cases h; done)
    rename_i i l off hi ha
    split at h <;> try (cases h; done)
    rename_i e cs hl
    split at h <;> try (cases h; done)
    rename_i hb
    cases h
    obtain ⟨v, hv1, hv2⟩ := hE a _ (cells1_some ha)
    obtain ⟨c, ec, hv2⟩ := hv2
    cases ec
    obtain ⟨_, b, k1, k2⟩ := hv2
    obtain ⟨_, b', vs, g1, g2, g3⟩ := hH.ob l _ hl
    rw [k1] at g1
    cases g1
    have hle := Nat.le_of_ble_eq_true hb
    have hlen0 := g3.len
    have hc' := (g3.drop off).take i.size
    have hlen : ((vs.drop off).take i.size).length = i.size := by simp; omega
    have hTI := hT t i hi
    have hrun := run_loadV (w := w) hTI (b := b) (off := off) hlen (fun j v hj => by
      rw [List.getElem?_take] at hj
      split at hj
      · rw [List.getElem?_drop] at hj
        simpa [World.cell?, g2] using hj
      · cases hj)
    have : tmps.getD a undef = v := by simp [Array.getD_eq_getD_getElem?, hv1]
    refine ⟨_, by rw [hc, this, k2]; simp only [asAddr, Sem.run_bind, Sem.run_pure, Result.andThen_ok, hrun]; rfl, ?_⟩
    by_cases hag : i.agg = true
    · simp only [hag, if_true]
      exact ⟨_, rfl, hc'⟩
    · have hag : i.agg = false := by simpa using hag
      simp only [hag, Bool.false_eq_true, if_false]
      have h1 : i.size = 1 := hTI.one.resolve_left (by simp [hag])
      rw [h1] at hc' hlen ⊢
      have hl2 := hc'.len
      match hcs : (cs.drop off).take 1, hvs : (vs.drop off).take 1, hlen with
      | [], [v], _ => rw [hcs, hvs] at hl2; simp at hl2
      | [c], [v], _ =>
        rw [hcs, hvs] at hc'
        obtain ⟨u, e, hu⟩ := hc'.one
        cases e
        exact ⟨c, rfl, hu⟩
      | _ :: _ :: _, [v], _ => rw [hcs, hvs] at hl2; simp at hl2

theorem resGo_run (hT : TabOk P cx.tab) {ρ : Nat → Value} {ok : Nat → Prop} {w : World} {hp : Heap} {nx : Nat} {env : Env} {tmps : Array Value} (hH : RepH ρ ok w hp nx) (hE : RepE ρ ok w nx env tmps) (f : ResultVar → Sem Value) (hf : ∀ t, f (.tmp t) = pure (tmps.getD t undef))
    (hc : ∀ a t, f (.cell a t) = (do loadVar t (← asAddr (tmps.getD a undef)))) : ∀ (rs : List ResultVar) (l : List (Bool × List Cell)), resGo cx env hp rs = some l →
    ∃ us, (rs.mapM f).run P w = .ok us w ∧ All2 (fun (p : Bool × List Cell) u => VR ρ ok w nx p.1 p.2 u) l us
  | [], l, h => by cases h; exact ⟨[], by simp, .nil⟩
  | v :: r, l, h => by
    simp only [resGo] at h
    split at h <;> try (cases h; done)
    rename_i p l' h1 h2
    cases h
    obtain ⟨u, k1, k2⟩ := resCell_run hT hH hE f hf hc h1
    obtain ⟨us, g1, g2⟩ := resGo_run hT hH hE f hf hc r l' h2
    exact ⟨u :: us, by simp only [List.mapM_cons, Sem.run_bind, k1, Result.andThen_ok, g1, Sem.run_pure], .cons k2 g2⟩

/-- a result, and its slot -/
theorem res_ok (hT : TabOk P cx.tab) {fn : Func} {ρ : Nat → Value} {ok : Nat → Prop} {w : World} {hp : Heap} {nx : Nat} {env : Env} {tmps : Array Value} (hH : RepH ρ ok w hp nx) (hE : RepE ρ ok w nx env tmps) {s : Slot} (h : resSlot cx env hp fn.results.toList = some s) :
    ∃ v, (results fn tmps).run P w = .ok v w ∧ SlotR ρ ok w nx s v := by
  unfold results
  rw [Array.mapM_eq_mapM_toList]
  simp only [Sem.run_bind, Sem.run_map, map_eq_pure_bind]
  generalize fn.results.toList = rs at h ⊢
  generalize hF : (fun x => match x with
    | ResultVar.tmp t => pure (tmps.getD t undef)
    | ResultVar.cell a t => do loadVar t (← asAddr (tmps.getD a undef)) : ResultVar → Sem Value) = F
  have f1 : ∀ t, F (.tmp t) = pure (tmps.getD t undef) := fun t => by rw [← hF]
  have f2 : ∀ a t, F (.cell a t) = (do loadVar t (← asAddr (tmps.getD a undef))) := fun a t => by rw [← hF]
  unfold resSlot at h
  split at h
  · rename_i v
    split at h <;> try (cases h; done)
    rename_i a cs hv
    cases h
    obtain ⟨u, k1, k2⟩ := resCell_run hT hH hE F f1 f2 hv
    refine ⟨u, ?_, k2⟩
    simp only [List.mapM_cons, List.mapM_nil, Sem.run_bind, k1, Result.andThen_ok, Sem.run_pure]
    rfl
  · rename_i hne
    split at h <;> try (cases h; done)
    rename_i l hl
    cases h
    obtain ⟨us, k1, k2⟩ := resGo_run hT hH hE F f1 f2 rs l hl
    have hlen : us.length ≠ 1 := by
      rw [← k2.len]
      have : ∀ (rs : List ResultVar) l, resGo cx env hp rs = some l → l.length = rs.length := by
        intro rs
        induction rs with
        | nil => intro l h; cases h; rfl
        | cons v r ih =>
          intro l h
          simp only [resGo] at h
          split at h <;> try (cases h; done)
          rename_i p l' h1 h2
          cases h
          simp [ih l' h2]
      rw [this rs l hl]
      intro e
      match rs, e with
      | [v], _ => exact hne v rfl
    refine ⟨.tuple us.toArray, ?_, us, rfl, k2⟩
    rw [k1]
    simp only [Result.andThen_ok, Sem.run_pure]
    simp [hlen]
end

theorem inOk_spec {ren : Ren} : ∀ {l : List (Nat × Bool × OSh)}, inOk ren l = true → ∀ p ∈ l, (∀ m, ren p.1 = some m → p.1 < 1000 → m = p.1) ∧ (ren p.1 = none → 1000 ≤ p.1)
  | (k, r) :: l, h, p, hp => by
    obtain ⟨h1, h2⟩ := Bool.and_eq_true_iff.1 h
    rcases List.mem_cons.1 hp with rfl | hp
    · refine ⟨fun m hm hk => ?_, fun hm => ?_⟩
      · simp only at hm hk
        rw [hm] at h1
        simp only at h1
        rw [if_pos (show Nat.blt k 1000 = true from Nat.ble_eq_true_of_le hk)] at h1
        exact Nat.eq_of_beq_eq_true h1
      · simp only at hm ⊢
        rw [hm] at h1
        exact Nat.le_of_ble_eq_true h1
    · exact inOk_spec h2 p hp

section
variable {P : Program}
/-- a function's form, as its contract asks it -/
structure FnOk (P : Program) (g : FuncId) (code : Code) (res : List ResultVar) (nt : Nat) : Prop where
  ex : ∃ fn, P.funcs[g]? = some fn ∧ fn.body = some code ∧ fn.results.toList = res ∧ fn.ntmps = nt ∧ fn.name ≠ "runtime.NumGoroutine"
  wr : allBlt nt (writes code) = true

theorem FnOk.enters {g code res nt} (h : FnOk P g code res nt) : Enters P g := by
  obtain ⟨fn, h1, h2, _, _, h5⟩ := h.ex
  exact ⟨fn, h1, by rw [h2]; rfl, h5⟩

variable {cx : Cx} {inl : Inl}

theorem body_ok (hcx : CxOk P cx) (hinl : InlOk P cx.pan inl) (hdr : DrawnOk P cx) {g : FuncId} {code : Code} {res : List ResultVar} {nt : Nat} (hfn : FnOk P g code res nt) {R : Type} {h : H} {st : St} {κ : St → Option R} {κp : Int → St → Option R} {r : R}
    (hev : evC cx inl R code h st (fun o => match o with | .normal st => κ st | .ret st => κ st | .exit _ _ => none | .pan n st => κp n st) = some r) (hres : ∀ st', κ st' = some r → ∃ s, resSlot cx st'.env st'.hp res = some s) {ρ ok w} {args : Array Value} (hH : RepH ρ ok w st.hp st.nx) (hE : RepE ρ ok w st.nx st.env args) :
    Calls P g args w fun e w' => (∃ v st' ρ' ok' D, e = .returned v ∧ κ st' = some r ∧ st'.dt = D ++ st.dt ∧ RepH ρ' ok' w' st'.hp st'.nx ∧ (∀ s, resSlot cx st'.env st'.hp res = some s → SlotR ρ' ok' w' st'.nx s v) ∧ Goes ρ ok w st.hp st.nx D ρ' ok' w' st'.hp st'.nx) ∨
      (∃ n st' ρ' ok' D, e = .panicked (panE cx.pan n) ∧ κp n st' = some r ∧ st'.dt = D ++ st.dt ∧ RepH ρ' ok' w' st'.hp st'.nx ∧ Goes ρ ok w st.hp st.nx D ρ' ok' w' st'.hp st'.nx) := by
  obtain ⟨fn, h1, h2, h3, h4, h5⟩ := hfn.ex
  have fin : ∀ (st' : St) (a' : Act) (w' : World), κ st' = some r → After st ρ ok w { tmps := args ++ Array.replicate (fn.ntmps - args.size) undef, defers := [] } (writes code) st' a' w' →
      a'.defers = [] ∧ ∃ v, (results fn a'.tmps).run P w' = .ok v w' ∧ ((∃ v_1 st' ρ' ok' D, Ending.returned v = .returned v_1 ∧ κ st' = some r ∧ st'.dt = D ++ st.dt ∧ RepH ρ' ok' w' st'.hp st'.nx ∧ (∀ s, resSlot cx st'.env st'.hp res = some s → SlotR ρ' ok' w' st'.nx s v_1) ∧ Goes ρ ok w st.hp st.nx D ρ' ok' w' st'.hp st'.nx) ∨
      (∃ n st' ρ' ok' D, Ending.returned v = .panicked (panE cx.pan n) ∧ κp n st' = some r ∧ st'.dt = D ++ st.dt ∧ RepH ρ' ok' w' st'.hp st'.nx ∧ Goes ρ ok w st.hp st.nx D ρ' ok' w' st'.hp st'.nx)) := by
    rintro st' a' w' hκ ⟨ρ', ok', D, g1, g2, g3, g4, g5⟩
    obtain ⟨s, hs⟩ := hres st' hκ
    obtain ⟨v, k1, k2⟩ := res_ok (P := P) (fn := fn) hcx.tab g2 g3 (s := s) (by rw [h3]; exact hs)
    exact ⟨g5.defers, v, k1, .inl ⟨v, st', ρ', ok', D, rfl, hκ, g1, g2, fun s' hs' => by rw [hs] at hs'; cases hs'; exact k2, g4⟩⟩
  refine calls_of_wp h1 h2 (evC_ok hcx hinl hdr code R h st _ r hev ρ ok w _ hH ?_ ?_ _ ?_ ?_)
  · intro t s hs
    obtain ⟨v, k1, k2⟩ := hE t s hs
    refine ⟨v, ?_, k2⟩
    rw [Array.getElem?_append_left (Array.getElem?_eq_some_iff.1 k1).1]
    exact k1
  · intro t ht
    have := allBlt_iff.1 hfn.wr t ht
    simp only [Array.size_append, Array.size_replicate]
    omega
  · intro o e a' w' k1 k2 k3
    cases o with
    | normal st' =>
      cases k2
      exact fin st' a' w' k1 k3
    | ret st' =>
      cases k2
      exact fin st' a' w' k1 k3
    | exit id st' => cases k1
    | pan n st' => cases k2
  · rintro n st' a' w' k1 ⟨ρ', ok', D, g1, g2, g3, g4, g5⟩
    exact ⟨g5.defers, .inr ⟨n, st', ρ', ok', D, rfl, k1, g1, g2, g4⟩⟩

theorem fin_ok {cx : Cx} {res : List ResultVar} {si so : Sh} (hso : shBelow so = true) {x : TS si} {y : TS so} {st' : St} {ρ ok w ρ1 ok1 w'} {v : Value} {D : List Nat} (hκ : evF.fin cx res so st' = some y)
    (R1 : RepH ρ1 ok1 w' st'.hp st'.nx) (S1 : ∀ s, resSlot cx st'.env st'.hp res = some s → SlotR ρ1 ok1 w' st'.nx s v) (G : Goes ρ ok w (hpOut si id x) 1000 D ρ1 ok1 w' st'.hp st'.nx) :
    ∃ u ρ' ok', Ending.returned v = .returned u ∧ RepH ρ' ok' w' (hpOut so id y) so.nn ∧ RepE ρ' ok' w' so.nn (envOut so id y) #[u] ∧ Exits (hpOut si id x) ρ ok w (hpOut so id y) ρ' ok' w' := by
  unfold evF.fin at hκ
  split at hκ <;> try (cases hκ; done)
  rename_i sl hsl
  split at hκ <;> try (cases hκ; done)
  rename_i hin
  rw [← hsl] at hin hκ
  have hin := inOk_spec hin
  have hE1 : RepE ρ1 ok1 w' st'.nx (Lv.put (fun _ => none) 0 (resSlot cx st'.env st'.hp res)) #[v] := by
    intro t s hs
    simp only [Lv.put] at hs
    split at hs
    · rename_i ht
      have := Nat.eq_of_beq_eq_true ht
      subst this
      exact ⟨v, rfl, S1 s hs⟩
    · cases hs
  generalize hen : Lv.put (fun _ => none) 0 (resSlot cx st'.env st'.hp res) = env1 at hE1 hκ hin
  have hf0 : NameF id 0 so.nn (renOf so env1 st'.hp) := fun l _ => .inl (by simp)
  obtain ⟨t1, t2, t3⟩ := retake R1 hE1 hso hκ (f := id) (nx0 := 0) hf0 (H0 := fun _ => none) (fun q o h => by cases h) (E0 := fun _ => none) (fun t s h => by cases h)
  have hρ : ∀ q, reρ ρ1 0 (renOf so env1 st'.hp) q = match renOf so env1 st'.hp q with | some m => ρ1 m | none => .slice none 0 0 := fun q => by unfold reρ; rw [if_neg (by omega)]; rfl
  refine ⟨v, _, _, rfl, t1.more (by simp), t2.more (by simp), ⟨G.os, G.tape, G.output, G.size, ?_, fun b hb => .inl (G.okm b hb), ?_, ?_, ?_⟩⟩
  · intro b hb hne
    exact G.same b hb fun l _ _ o ho hw => hne l o ho hw
  · rintro b (hb | ⟨l, hl, hb⟩)
    · rcases G.okn b hb with k | k | ⟨l, _, _, o, ho, hw, hbl⟩
      · exact .inl k
      · exact .inr (.inl k)
      · exact .inr (.inr ⟨l, o, ho, hw, hbl⟩)
    · rcases frz_at (frzSh_list so env1 st'.hp) l with ⟨_, e, t, xs, k1, _⟩ | ⟨k1, _⟩
      · by_cases hlt : l < 1000
        · obtain ⟨p, g1, g2⟩ := G.stay l hlt _ k1
          rw [G.rho l hlt] at hb
          exact .inr (.inr ⟨l, p, g1, g2 rfl, hb⟩)
        · rcases G.nb l _ b (by omega) k1 rfl hb with g | ⟨m, _, _, p, g1, g2, g3⟩
          · exact .inr (.inl g)
          · exact .inr (.inr ⟨m, p, g1, g2, g3⟩)
      · exact absurd hl k1
  · intro l o ho hlt
    rcases t3 l o ho with ⟨p, hp1, hp2, hp3, hp4⟩ | ⟨hp1, _⟩
    · have hp2 : l = p.1 := hp2
      subst hp2
      obtain ⟨i1, i2⟩ := hin p hp1
      rcases hp4.src with ⟨m, q, g1, g2, g3⟩ | g1
      · have := i1 m g1 hlt
        subst this
        obtain ⟨s, k1, k2⟩ := G.stay _ hlt q g2
        refine ⟨?_, s, k1, fun _ => k2 g3⟩
        rw [hρ, g1]
        exact G.rho _ hlt
      · have := i2 g1; omega
    · cases hp1
  · intro l o b ho hge hw hb
    rcases t3 l o ho with ⟨p, hp1, hp2, hp3, hp4⟩ | ⟨hp1, _⟩
    · have hp2 : l = p.1 := hp2
      subst hp2
      obtain ⟨i1, i2⟩ := hin p hp1
      rcases hp4.src with ⟨m, q, g1, g2, g3⟩ | g1
      · rw [hρ, g1] at hb
        by_cases hm : m < 1000
        · obtain ⟨s, k1, k2⟩ := G.stay m hm q g2
          have hb : blk (ρ1 m) = some b := hb
          rw [G.rho m hm] at hb
          exact .inr ⟨m, s, k1, k2 g3, hb⟩
        · rcases G.nb m q b (by simpa using hm) g2 g3 hb with k | ⟨m', _, _, s, k1, k2, k3⟩
          · exact .inl k
          · exact .inr ⟨m', s, k1, k2, k3⟩
      · rw [hρ, g1] at hb; cases hb
    · cases hp1


theorem fin_res {cx : Cx} {res : List ResultVar} {so : Sh} {y : TS so} {st' : St} (h : evF.fin cx res so st' = some y) : ∃ s, resSlot cx st'.env st'.hp res = some s := by
  unfold evF.fin at h
  split at h
  · exact ⟨_, by assumption⟩
  · cases h
theorem evF_ok (hcx : CxOk P cx) (hinl : InlOk P cx.pan inl) (hdr : DrawnOk P cx) {g : FuncId} {code : Code} {res : List ResultVar} {nt : Nat} (hfn : FnOk P g code res nt) (h : H) {n : Nat} {si so : Sh} (hso : shBelow so = true)
    {F : TS si → Option (TS so)} (hF : ∀ x y, F x = some y → evF cx inl code res h si so x = some y) : SpecOk P g ⟨n, si, so, F⟩ := by
  intro x y hxy ρ ok w args _ hH hE
  have hev := hF x y hxy
  unfold evF at hev
  refine (body_ok hcx hinl hdr hfn (st := ⟨envOut si id x, hpOut si id x, 1000, []⟩) (κ := evF.fin cx res so) (κp := fun _ _ => none) hev (fun st' h => fin_res h) hH hE).mono ?_
  rintro e w' (⟨v, st', ρ1, ok1, D, rfl, hκ, hD, R1, S1, G⟩ | ⟨n, _, _, _, _, _, hn, _⟩)
  · exact fin_ok hso hκ R1 S1 G
  · cases hn
theorem evFP_ok (hcx : CxOk P cx) (hinl : InlOk P cx.pan inl) (hdr : DrawnOk P cx) {g : FuncId} {code : Code} {res : List ResultVar} {nt : Nat} (hfn : FnOk P g code res nt) (h : H) {n : Nat} {si so : Sh} (hso : shBelow so = true)
    {F : TS si → Option (TS so ⊕ Int)} (hF : ∀ x y, F x = some y → evFP cx inl code res h si so x = some y) : SpecPOk P g cx.pan ⟨n, si, so, F⟩ := by
  intro x z hxz ρ ok w args _ hH hE
  have hev := hF x z hxz
  unfold evFP at hev
  refine (body_ok hcx hinl hdr hfn (st := ⟨envOut si id x, hpOut si id x, 1000, []⟩) (κ := evFP.finP cx res so) (κp := fun n _ => some (.inr n)) hev (fun st' h => by
    unfold evFP.finP at h
    split at h
    · rename_i y hy; exact fin_res hy
    · cases h) hH hE).mono ?_
  rintro e w' (⟨v, st', ρ1, ok1, D, rfl, hκ, hD, R1, S1, G⟩ | ⟨n, st', ρ1, ok1, D, rfl, hn, hD, R1, G⟩)
  · unfold evFP.finP at hκ
    split at hκ
    · rename_i y hy
      cases hκ
      exact fin_ok hso hy R1 S1 G
    · cases hκ
  · cases hn
    exact ⟨rfl, G.pan (PanW.refl _ _ _)⟩

theorem inlS_ok (hcx : CxOk P cx) (hinl : InlOk P cx.pan inl) (hdr : DrawnOk P cx) {fn : Nat → List (Option Slot) → Heap → Option (Code × List ResultVar × H)} (hfn : ∀ g as hp code res h, fn g as hp = some (code, res, h) → ∃ nt, FnOk P g code res nt) : InlOk P cx.pan (inlS cx fn inl) := by
  intro R g args hp nx dt κ κp r h
  unfold inlS at h
  split at h <;> try (cases h; done)
  rename_i code res hh hg
  obtain ⟨nt, hF⟩ := hfn g _ _ code res hh hg
  refine ⟨hF.enters, fun ρ ok w vals hH hE => ?_⟩
  refine (body_ok hcx hinl hdr hF (st := ⟨argEnv args, hp, nx, dt⟩) (κ := fun st => match resSlot cx st.env st.hp res with | some s => κ (some s) st.hp st.nx st.dt | none => none) (κp := fun n st => κp n st.hp st.nx st.dt) h (fun st' h => by
    split at h <;> first | exact ⟨_, by assumption⟩ | cases h) hH hE).mono ?_
  rintro e w' (⟨v, st', ρ1, ok1, D, rfl, hκ, hD, R1, S1, G⟩ | ⟨n, st', ρ1, ok1, D, rfl, hn, hD, R1, G⟩)
  · split at hκ <;> try (cases hκ; done)
    rename_i s hs
    exact .inl ⟨v, some s, _, _, _, D, ρ1, ok1, rfl, hκ, hD, R1, fun x hx => by cases hx; exact S1 _ hs, G⟩
  · exact .inr ⟨n, _, _, _, D, ρ1, ok1, rfl, hn, hD, R1, G⟩
end
end Lv
