import Derived.Test.YtnogebfcpicghaaGreatDoorEvR
set_option linter.all false
set_option linter.unusedVariables false
set_option linter.unusedSimpArgs false
set_option linter.unusedSectionVars false
namespace Lv
variable [HasG]
open Go Go.RowKit

section
variable {P : Program} {ops : Array Oper} {es : List E} {st : St}

theorem wpAny_ok (K : Ok P ops es st) {Q : Exit → Act → World → Prop} {D W : List Nat} {ρ0 : Nat → Value} {ok0 : Nat → Prop} {w0 : World} {a0 : Act} (hD : ∀ e ∈ es, ∀ l ∈ names e.t.up, l ∈ D) (hW : ∀ e ∈ es, ∀ t ∈ dstOf e.o, t ∈ W ∧ t < a0.tmps.size)
    (hQ : ∀ a w, (∃ ρ ok, RepH ρ ok w (goAll st es).hp (goAll st es).nx ∧ RepE ρ ok w (goAll st es).nx (goAll st es).env a.tmps ∧ Goes ρ0 ok0 w0 st.hp st.nx D ρ ok w (goAll st es).hp (goAll st es).nx ∧ Tm W a0 a) → Q .normal a w) :
    ∀ (fuel : Nat) (listed : Array Bool) (a : Act) (w : World), listed.toList.countP (! ·) = fuel → (∃ env hp ρ ok, Inv ops es st D W ρ0 ok0 w0 a0 listed env hp ρ ok w a) → wpAny P .any ops Q fuel listed a w := by
  have hlen : ops.size = es.length := by rw [← Array.length_toList, ← K.all, List.length_map]
  have hop : ∀ (i : Nat) (e : E), es[i]? = some e → ops[i]? = some e.o := fun i e h => by
    have : ops.toList[i]? = some e.o := by rw [← K.all, List.getElem?_map, h]; rfl
    simpa using this
  have hall : nmAt es st es.length = (goAll st es).nx := by simp [nmAt]
  intro fuel
  induction fuel with
  | zero =>
    rintro listed a w hc ⟨env, hp, ρ, ok, I⟩
    have full : ∀ i, i < es.length → listed.getD i false = true := fun i hi => by
      have := count_none listed.toList hc i (by simpa [I.size] using hi)
      simp at this
      simp [this]
    refine ⟨?_, ?_⟩
    · cases hr : Region.ready .any ops listed with
      | nil => rfl
      | cons i r =>
        have hi : i ∈ Region.ready .any ops listed := by rw [hr]; exact List.mem_cons_self
        obtain ⟨h1, o, h2, _⟩ := mem_ready.1 hi
        have hlt : i < es.length := by rw [← hlen]; exact (Array.getElem?_eq_some_iff.1 h2).1
        have := full i hlt
        have hs : i < listed.size := by rw [I.size]; exact hlt
        simp [hs] at h1 this
        rw [h1] at this; cases this
    · have e1 : env = (goAll st es).env := funext fun t => by
        have := K.canonE.last I.seenE full t
        simpa [vE] using this
      have e2 : hp = (goAll st es).hp := funext fun t => by
        have := K.canonH.last I.seenH full t
        simpa [vH] using this
      have H := I.H
      have HE := I.envR
      have G := I.G
      rw [hall, e2] at H G
      rw [hall, e1] at HE
      exact hQ a w ⟨ρ, ok, H, HE, G, I.T⟩
  | succ fuel ih =>
    rintro listed a w hc ⟨env, hp, ρ, ok, I⟩
    refine ⟨fun hr => ?_, fun i hi => ?_⟩
    · exfalso
      rcases least_false listed with h | ⟨i, h1, h2, h3⟩
      · have : listed.toList.countP (! ·) = 0 := by
          rw [List.countP_eq_zero]
          intro b hb
          obtain ⟨i, hi, e⟩ := List.mem_iff_getElem.1 hb
          have := h i (by simpa using hi)
          simp at hi
          simp [hi] at this
          subst e
          simp [this]
        omega
      · have hlt : i < ops.size := by rw [hlen, ← I.size]; exact h1
        have : i ∈ Region.ready .any ops listed := by
          refine mem_ready.2 ⟨?_, ops[i], Array.getElem?_eq_getElem hlt, fun e he hb => h3 _ (K.back i ops[i] (Array.getElem?_eq_getElem hlt) e he hb)⟩
          simp [h1] at h2 ⊢; exact h2
        rw [hr] at this
        cases this
    · obtain ⟨hun, o, ho, hafter⟩ := mem_ready.1 hi
      have hlt : i < es.length := by rw [← hlen]; exact (Array.getElem?_eq_some_iff.1 ho).1
      have he : es[i]? = some es[i] := List.getElem?_eq_getElem hlt
      generalize hee : es[i] = e at he
      have hoo := hop i e he
      have hcond := K.cond i e he
      have hls : i < listed.size := by rw [I.size]; exact hlt
      have hunf : ¬ listed.getD i false = true := by simp [hls] at hun ⊢; exact hun
      have hbef := I.before K hi
      have readE : ∀ t ∈ tmpsOf ops e.o, env t = (goAll st (es.take i)).env t := fun t ht => K.canonE.reads I.seenE hlt hunf hbef ⟨e, he, ht⟩
      have readH : ∀ l ∈ e.t.looks, hp l = (goAll st (es.take i)).hp l := fun l hl => K.canonH.reads I.seenH hlt hunf hbef ⟨e, he, hl⟩
      have hcount : (listed.setIfInBounds i true).toList.countP (! ·) = fuel := by
        have h := count_set listed.toList i (by simp [hls] at hun ⊢; exact hun)
        rw [hc] at h
        rw [Array.toList_setIfInBounds]
        omega
      have hdb : ∀ t ∈ dstOf e.o, t < a.tmps.size := fun t ht => by rw [I.T.size]; exact (hW e (List.mem_of_getElem? he) t ht).2
      -- the operation is wanted or not, as it was
      have hwant : Region.wanted e.o (yielded ops a.tmps) = e.yes := by
        have hg := hcond.guard
        cases hgd : e.o.guard with
        | none => rw [hgd] at hg; simp only at hg; rw [hg]; simp [Region.wanted, hgd]
        | some p =>
          obtain ⟨g, want⟩ := p
          rw [hgd] at hg
          obtain ⟨t, h1, hg⟩ := hg
          have ht : t ∈ tmpsOf ops e.o := by
            simp only [tmpsOf, hgd, h1]
            exact List.mem_append_right _ List.mem_cons_self
          rcases hg with ⟨b, h2, h3⟩ | ⟨h2, h3⟩
          case inr =>
            obtain ⟨v, hv1, vs, hv2, hv3⟩ := I.envR t _ ((readE t ht).trans h2)
            cases hv3
            subst hv2
            have hy : yielded ops a.tmps g = none := by simp [yielded, h1, hv1]
            rw [h3]
            simp [Region.wanted, hgd, hy]
          obtain ⟨v, hv1, hv2⟩ := I.envR t _ ((readE t ht).trans h2)
          obtain ⟨c, ec, hv2⟩ := hv2
          cases ec
          have hv : v = .bool b := hv2
          subst hv
          have hy : yielded ops a.tmps g = some b := by simp [yielded, h1, hv1]
          rw [h3]
          cases b <;> cases want <;> simp [Region.wanted, hgd, hy]
      unfold wpOp
      rw [hoo]
      simp only
      cases hyes : e.yes with
      | false =>
        rw [hwant, hyes, if_neg (by simp)]
        obtain ⟨n1, n2, n3⟩ := hcond.no hyes
        have hL : RepH ρ ok w (fun _ => none) (nmAt es st i) := ⟨fun l o h => (by cases h), I.H.okl, fun l o b h => (by cases h), fun l m o p b h => (by cases h), I.H.gl⟩
        obtain ⟨ρ2, I2⟩ := I.next K hD hW he hi (hpL := fun _ => none) (fun l o h => by cases h) hL (ρ' := ρ) (ok' := ok) (w' := w) (by rw [n2, n3]; exact Eff.refl hL) (v := undef) (fun x hx => by rw [n1] at hx; cases hx; exact ⟨[], rfl, .nil⟩)
        exact ih _ _ _ hcount ⟨_, _, _, _, I2⟩
      | true =>
        rw [hwant, hyes, if_pos rfl]
        obtain ⟨lk1, lk2, lk3⟩ := hcond.looks hyes
        have hs : ∀ l o, onlyN e.t.looks (goAll st (es.take i)).hp l = some o → hp l = some o := fun l o h => by
          rw [readH l (onlyN_mem h)]; exact onlyN_sub _ _ _ _ h
        have hL : RepH ρ ok w (onlyN e.t.looks (goAll st (es.take i)).hp) (nmAt es st i) := by
          refine ⟨fun l o h => ?_, I.H.okl, fun l o b h => I.H.sep l o b (hs l o h), fun l m o p b h h' => I.H.dis l m o p b (hs l o h) (hs m p h'), I.H.gl⟩
          refine ⟨lk2 l (onlyN_mem h), (I.H.ob l o (hs l o h)).2.moveM (Same.refl _ _) rfl (fun m hm => ⟨rfl, lk3 l (onlyN_mem h) m ?_⟩) fun _ _ _ => rfl⟩
          rw [onlyN_sub _ _ _ _ h]; exact hm
        have hE : RepE ρ ok w (nmAt es st i) (onlyE (opTmps e.o) (goAll st (es.take i)).env) a.tmps := by
          intro t s hts
          unfold onlyE at hts
          split at hts <;> try (cases hts; done)
          rename_i hm
          have hm := memN_iff.1 hm
          have htt : t ∈ tmpsOf ops e.o := List.mem_append_left _ hm
          obtain ⟨v, h1, h2⟩ := I.envR t s ((readE t htt).trans hts)
          exact ⟨v, h1, h2.moveM (Same.refl _ _) fun m hm' => ⟨rfl, lk2 m (lk1 t hm m (by rw [hts]; exact hm'))⟩⟩
        refine .inl (Oper.wp_mono ?_ (hcond.loc hyes ρ ok w a hL hE hdb Q))
        rintro a' w' ⟨v, ρ', ok', rfl, F, hv⟩
        obtain ⟨ρ2, I2⟩ := I.next K hD hW he hi hs hL F hv
        exact ih _ _ _ hcount ⟨_, _, _, _, I2⟩

theorem drawnOk {cx : Cx} (hcx : CxOk P cx) (hm : P.follows .mixedOrders = true) : DrawnOk P cx := by
  refine ⟨hm, ?_⟩
  intro R rid ops st κ r h ρ ok w a hH hE hW Q hQ
  obtain ⟨es, h1, h2, h3⟩ := drawn_runs hcx ops ops.toList st [] _ r h
  split at h2 <;> try (cases h2; done)
  rename_i hfree
  obtain ⟨f1, f2⟩ := Bool.and_eq_true_iff.1 hfree
  have hz : ops.toList.zip ([] ++ es.map (·.t)) = es.map fun e => (e.o, e.t) := by
    rw [List.nil_append, ← h1, List.zip_map']
  rw [hz] at f2
  have K : Ok P ops es st := by
    refine ⟨h1, h3, fun k o ho e he hb => ?_, fun i j x y hij hx hy hn => ?_⟩
    · have := backEdges_spec f1 k o (by simpa using ho) e he hb
      omega
    · rcases freeAll_spec f2 i j x.o y.o x.t y.t hij (by rw [List.getElem?_map, hx]; rfl) (by rw [List.getElem?_map, hy]; rfl) with g | g
      · rw [Nat.zero_add, Nat.zero_add] at g
        exact absurd g hn
      · exact g
  obtain ⟨D, hD1, hD2⟩ := goAll_dt st es
  have hlen : ops.size = es.length := by rw [← Array.length_toList, ← h1, List.length_map]
  have hme : ∀ e ∈ es, e.o ∈ ops.toList := fun e he => by rw [← h1]; exact List.mem_map.2 ⟨e, he, rfl⟩
  have hle : st.nx ≤ nmAt es st es.length := nm_mono (es := es) (st := st) (i := 0) (Nat.zero_le _)
  refine wp_region_any hm (wpAny_ok K (D := D) (W := ops.toList.flatMap dstOf) (ρ0 := ρ) (ok0 := ok) (w0 := w) (a0 := a) hD2
    (fun e he t ht => ⟨List.mem_flatMap.2 ⟨e.o, hme e he, ht⟩, hW e.o (hme e he) t ht⟩) ?_ ops.size _ a _ (by simp [List.countP_replicate]) ?_)
  · rintro a' w' ⟨ρ', ok', k1, k2, k3, k4⟩
    exact hQ _ a' w' h2 ⟨ρ', ok', D, hD1, k1, k2, k3, k4⟩
  · have emp : ∀ j, (Array.replicate ops.size false).getD j false = true → False := fun j h => by
      rw [Array.getD_eq_getD_getElem?, Array.getElem?_replicate] at h
      split at h <;> simp at h
    refine ⟨st.env, st.hp, ρ, ok, by simp [hlen], fun j o h => (emp j h).elim, ?_, ?_, ?_, ?_, ?_, ?_, ?_, Tm.refl _ _⟩
    · intro k hk key hkr hn
      exact K.canonE.start k (hk.imp id fun ⟨a, b⟩ => ⟨a, id⟩) key hkr fun j hj _ => hn j hj fun h => emp j h
    · intro k hk key hkr hn
      exact K.canonH.start k (hk.imp id fun ⟨a, b⟩ => ⟨a, id⟩) key hkr fun j hj _ => hn j hj fun h => emp j h
    · exact (hH.heap (w' := { w with drawn := w.drawn + 1 }) rfl).more hle
    · exact (hE.heap (w' := { w with drawn := w.drawn + 1 }) rfl).more hle
    · intro l o ho
      obtain ⟨g1, g2⟩ := hH.ob l o ho
      exact ⟨.inl g1, fun m hm => .inl (g2.names m hm)⟩
    · intro t m hm'
      cases hs : st.env t with
      | none => rw [hs] at hm'; cases hm'
      | some s =>
        rw [hs] at hm'
        obtain ⟨v, _, hv⟩ := hE t s hs
        exact .inl (hv.names m hm')
    · have G := Goes.refl (ρ := ρ) (ok := ok) (w := w) (hp := st.hp) (nx := st.nx) fun l o ho => (hH.ob l o ho).1
      exact ⟨rfl, rfl, ⟨rfl, fun _ => Nat.le_succ _⟩, Nat.le_refl _, hle, fun _ _ _ => rfl, fun _ _ => rfl, fun _ h => h, fun _ h => .inl h, fun _ _ _ => rfl, fun _ _ o h => ⟨o, h, id⟩, fun l o b hl ho _ _ => absurd (hH.ob l o ho).1 (by omega)⟩
end
end Lv
