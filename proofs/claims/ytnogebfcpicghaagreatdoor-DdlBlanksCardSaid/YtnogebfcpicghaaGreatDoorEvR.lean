import Derived.Test.YtnogebfcpicghaaGreatDoorEvQ
set_option linter.all false
set_option linter.unusedVariables false
set_option linter.unusedSimpArgs false
set_option linter.unusedSectionVars false
namespace Lv
variable [HasG]
open Go Go.RowKit

section
variable (P : Program) (ops : Array Oper) (es : List E) (st : St)

def vE (i t : Nat) : Option Slot := (goAll st (es.take i)).env t
def wE (i t : Nat) : Option (Option Slot) := match es[i]? with | some e => if e.o.dst = some t then some e.s else none | none => none
def rE (i t : Nat) : Prop := ∃ e, es[i]? = some e ∧ t ∈ tmpsOf ops e.o
def vH (i l : Nat) : Option Ob := (goAll st (es.take i)).hp l
def wH (i l : Nat) : Option (Option Ob) := match es[i]? with | some e => lastU e.t.up l | none => none
def rH (i l : Nat) : Prop := ∃ e, es[i]? = some e ∧ l ∈ e.t.looks
def nmAt (i : Nat) : Nat := (goAll st (es.take i)).nx
def ordE (i j : Nat) : Prop := ((befGo ops.toList []).getD j 0).testBit i = true

structure Ok : Prop where
  all : es.map (·.o) = ops.toList
  cond : ∀ i e, es[i]? = some e → CondOk P ops (goAll st (es.take i)) e
  back : ∀ (k : Nat) (o : Oper), ops[k]? = some o → ∀ e ∈ o.after, Region.binds .any e = true → e.on < k
  free : ∀ i j a b, i < j → es[i]? = some a → es[j]? = some b → ¬ ordE ops i j → free2 ops a.o b.o a.t b.t = true
end

section
variable {P : Program} {ops : Array Oper} {es : List E} {st : St}

theorem setDst_at (env : Env) (d : Option Nat) (s : Option Slot) (t : Nat) : setDst env d s t = (if d = some t then some s else none).getD (env t) := by
  cases d with
  | none => rfl
  | some u =>
    simp only [setDst, Lv.put]
    by_cases h : u = t
    · subst h; simp
    · rw [if_neg fun e => h (Nat.eq_of_beq_eq_true e).symm, if_neg (by simpa using h)]; rfl

theorem Ok.canonE (K : Ok P ops es st) : Canon es.length (vE es st) (wE es) (rE ops es) (ordE ops) := by
  refine ⟨fun i hi k => ?_, fun i j hij hj hn k => ?_⟩
  · have he : es[i]? = some es[i] := List.getElem?_eq_getElem hi
    simp only [vE, wE, he, goAll_succ he, E.go]
    exact setDst_at _ _ _ _
  · have h1 : es[i]? = some es[i] := List.getElem?_eq_getElem (by omega)
    have h2 : es[j]? = some es[j] := List.getElem?_eq_getElem hj
    have hf := K.free i j _ _ hij h1 h2 hn
    simp only [free2, Bool.and_eq_true, apartN_iff] at hf
    obtain ⟨⟨⟨⟨⟨⟨⟨⟨⟨f1, f2⟩, f3⟩, f4⟩, f5⟩, f6⟩, f7⟩, f8⟩, f9⟩, f10⟩ := hf
    have dst : ∀ i (hi : i < es.length), wE es i k ≠ none → k ∈ dstOf es[i].o := fun i hi h => by
      have he : es[i]? = some es[i] := List.getElem?_eq_getElem hi
      simp only [wE, he] at h
      split at h
      · rename_i hd; simp [dstOf, hd]
      · exact absurd rfl h
    refine ⟨fun h => ⟨?_, ?_⟩, fun h => ?_⟩
    · rintro ⟨e, he, ht⟩
      rw [h2] at he; cases he
      exact f1 k (dst i (by omega) h) ht
    · cases hw : wE es j k with
      | none => rfl
      | some x => exact absurd (dst j hj (by rw [hw]; simp)) (f3 k (dst i (by omega) h))
    · rintro ⟨e, he, ht⟩
      rw [h1] at he; cases he
      exact f2 k (dst j hj h) ht

theorem Ok.canonH (K : Ok P ops es st) : Canon es.length (vH es st) (wH es) (rH es) (ordE ops) := by
  refine ⟨fun i hi k => ?_, fun i j hij hj hn k => ?_⟩
  · have he : es[i]? = some es[i] := List.getElem?_eq_getElem hi
    simp only [vH, wH, he, goAll_succ he, E.go, ups_at]
    cases lastU es[i].t.up k <;> rfl
  · have h1 : es[i]? = some es[i] := List.getElem?_eq_getElem (by omega)
    have h2 : es[j]? = some es[j] := List.getElem?_eq_getElem hj
    have hf := K.free i j _ _ hij h1 h2 hn
    simp only [free2, Bool.and_eq_true, apartN_iff] at hf
    obtain ⟨⟨⟨⟨⟨⟨⟨⟨⟨f1, f2⟩, f3⟩, f4⟩, f5⟩, f6⟩, f7⟩, f8⟩, f9⟩, f10⟩ := hf
    have dst : ∀ i (hi : i < es.length), wH es i k ≠ none → k ∈ names es[i].t.up := fun i hi h => by
      have he : es[i]? = some es[i] := List.getElem?_eq_getElem hi
      simp only [wH, he] at h
      cases hl : lastU es[i].t.up k with
      | none => exact absurd hl h
      | some x => exact List.mem_map.2 ⟨_, lastU_mem hl, rfl⟩
    refine ⟨fun h => ⟨?_, ?_⟩, fun h => ?_⟩
    · rintro ⟨e, he, ht⟩
      rw [h2] at he; cases he
      exact f5 k (dst i (by omega) h) ht
    · cases hw : wH es j k with
      | none => rfl
      | some x => exact absurd (dst j hj (by rw [hw]; simp)) (f4 k (dst i (by omega) h))
    · rintro ⟨e, he, ht⟩
      rw [h1] at he; cases he
      exact f6 k (dst j hj h) ht

theorem nm_succ {i : Nat} {e : E} (h : es[i]? = some e) : nmAt es st (i + 1) = nmAt es st i + e.t.nw := by
  simp only [nmAt, goAll_succ h, E.go]
theorem nm_mono : ∀ {i j : Nat}, i ≤ j → nmAt es st i ≤ nmAt es st j
  | i, 0, h => by cases Nat.le_zero.1 h; exact Nat.le_refl _
  | i, j + 1, h => by
    by_cases e : i = j + 1
    · subst e; exact Nat.le_refl _
    · refine Nat.le_trans (nm_mono (i := i) (j := j) (by omega)) ?_
      cases hj : es[j]? with
      | some x => rw [nm_succ hj]; omega
      | none =>
        have := List.getElem?_eq_none_iff.1 hj
        simp only [nmAt]
        rw [List.take_of_length_le (by omega), List.take_of_length_le (by omega)]
        exact Nat.le_refl _
/-- whose a name is -/
theorem nm_tile : ∀ {i : Nat} {m : Nat}, m < nmAt es st i → m < st.nx ∨ ∃ j e, j < i ∧ es[j]? = some e ∧ nmAt es st j ≤ m ∧ m < nmAt es st j + e.t.nw
  | 0, m, h => by simp [nmAt, goAll] at h; exact .inl h
  | i + 1, m, h => by
    by_cases hm : m < nmAt es st i
    · rcases nm_tile hm with h | ⟨j, e, h1, h2⟩
      · exact .inl h
      · exact .inr ⟨j, e, by omega, h2⟩
    · cases hi : es[i]? with
      | some e =>
        rw [nm_succ hi] at h
        exact .inr ⟨i, e, by omega, hi, by omega, h⟩
      | none =>
        have := List.getElem?_eq_none_iff.1 hi
        simp only [nmAt] at h hm
        rw [List.take_of_length_le (by omega)] at h hm
        omega

def Use (es : List E) (st : St) (ls : Nat → Prop) (m : Nat) : Prop := m < st.nx ∨ ∃ j e, ls j ∧ es[j]? = some e ∧ nmAt es st j ≤ m ∧ m < nmAt es st j + e.t.nw

/-- how things stand when some operations have come up -/
structure Inv (ops : Array Oper) (es : List E) (st : St) (D W : List Nat) (ρ0 : Nat → Value) (ok0 : Nat → Prop) (w0 : World) (a0 : Act) (listed : Array Bool) (env : Env) (hp : Heap) (ρ : Nat → Value) (ok : Nat → Prop) (w : World) (a : Act) : Prop where
  size : listed.size = es.length
  closed : ∀ j o, listed.getD j false = true → ops[j]? = some o → ∀ e ∈ o.after, Region.binds .any e = true → listed.getD e.on false = true
  seenE : Seen es.length (vE es st) (wE es) (rE ops es) (fun j => listed.getD j false = true) env
  seenH : Seen es.length (vH es st) (wH es) (rH es) (fun j => listed.getD j false = true) hp
  H : RepH ρ ok w hp (nmAt es st es.length)
  envR : RepE ρ ok w (nmAt es st es.length) env a.tmps
  useH : ∀ l o, hp l = some o → Use es st (fun j => listed.getD j false = true) l ∧ ∀ m ∈ ob1Names (some o), Use es st (fun j => listed.getD j false = true) m
  useE : ∀ t, ∀ m ∈ slotNames (env t), Use es st (fun j => listed.getD j false = true) m
  G : Goes ρ0 ok0 w0 st.hp st.nx D ρ ok w hp (nmAt es st es.length)
  T : Tm W a0 a

theorem Ok.down (K : Ok P ops es st) {listed : Array Bool} (hc : ∀ j o, listed.getD j false = true → ops[j]? = some o → ∀ e ∈ o.after, Region.binds .any e = true → listed.getD e.on false = true) (hsz : listed.size = es.length) :
    ∀ (j : Nat), listed.getD j false = true → ∀ i, ordE ops i j → listed.getD i false = true := by
  have hlen : ops.size = es.length := by rw [← Array.length_toList, ← K.all, List.length_map]
  intro j
  induction j using Nat.strongRecOn with
  | ind j ih =>
    intro hj i ho
    have hlt : j < ops.size := by
      rw [hlen, ← hsz]
      rcases Nat.lt_or_ge j listed.size with h | h
      · exact h
      · simp [Array.getElem?_eq_none h] at hj
    have hop : ops[j]? = some ops[j] := Array.getElem?_eq_getElem hlt
    obtain ⟨e, h1, h2, h3⟩ := bef_bit hop ho
    have h4 := hc j _ hj hop e h1 h2
    rcases h3 with rfl | ⟨h5, h6⟩
    · exact h4
    · exact ih e.on h5 h4 i h6

section
variable {D W : List Nat} {ρ0 : Nat → Value} {ok0 : Nat → Prop} {w0 : World} {a0 : Act} {listed : Array Bool} {env : Env} {hp : Heap} {ρ : Nat → Value} {ok : Nat → Prop} {w : World} {a : Act}

/-- what comes before an operation that is ready has come up -/
theorem Inv.before (K : Ok P ops es st) (I : Inv ops es st D W ρ0 ok0 w0 a0 listed env hp ρ ok w a) {i : Nat} (hr : i ∈ Region.ready .any ops listed) : ∀ j, ordE ops j i → listed.getD j false = true := by
  intro j ho
  obtain ⟨_, o, hop, hall⟩ := mem_ready.1 hr
  obtain ⟨e, h1, h2, h3⟩ := bef_bit hop ho
  have h4 := hall e h1 h2
  rcases h3 with rfl | ⟨_, h6⟩
  · exact h4
  · exact K.down I.closed I.size _ h4 j h6

theorem getD_set (l : Array Bool) (i j : Nat) (hi : i < l.size) : (l.setIfInBounds i true).getD j false = true ↔ (l.getD j false = true ∨ j = i) := by
  by_cases h : i = j
  · subst h; simp [hi]
  · rw [getD_set_ne false h]; exact ⟨.inl, fun hx => hx.elim id fun e => absurd e.symm h⟩

theorem Inv.next (K : Ok P ops es st) (hD : ∀ e ∈ es, ∀ l ∈ names e.t.up, l ∈ D) (hW : ∀ e ∈ es, ∀ t ∈ dstOf e.o, t ∈ W ∧ t < a0.tmps.size) (I : Inv ops es st D W ρ0 ok0 w0 a0 listed env hp ρ ok w a)
    {i : Nat} {e : Lv.E} (he : es[i]? = some e) (hr : i ∈ Region.ready .any ops listed) {hpL : Heap} (hs : ∀ l o, hpL l = some o → hp l = some o) (hL : RepH ρ ok w hpL (nmAt es st i)) {ρ' : Nat → Value} {ok' : Nat → Prop} {w' : World}
    (F : Eff ρ ok w hpL (nmAt es st i) e.t.up e.t.nw ρ' ok' w') {v : Value} (hv : ∀ x, e.s = some x → SlotR ρ' ok' w' (nmAt es st i + e.t.nw) x v) :
    ∃ ρ2, Inv ops es st D W ρ0 ok0 w0 a0 (listed.setIfInBounds i true) (setDst env e.o.dst e.s) (ups hp e.t.up) ρ2 ok' w' (a.put e.o.dst v) := by
  have hi : i < es.length := (List.getElem?_eq_some_iff.1 he).1
  have hem : e ∈ es := List.mem_of_getElem? he
  obtain ⟨hun, o, hop, hall⟩ := mem_ready.1 hr
  have hunl : ¬ listed.getD i false = true := by
    have : i < listed.size := by rw [I.size]; exact hi
    simp [Array.getD, this] at hun ⊢; exact hun
  have hbef := I.before K hr
  have hset := getD_set listed i (hi := by rw [I.size]; exact hi)
  have hn1 : nmAt es st i + e.t.nw ≤ nmAt es st es.length := by rw [← nm_succ he]; exact nm_mono hi
  have hn0 : st.nx ≤ nmAt es st i := nm_mono (es := es) (st := st) (i := 0) (Nat.zero_le i)
  -- what is in use is not new
  have old : ∀ m, Use es st (fun j => listed.getD j false = true) m → m < nmAt es st i ∨ nmAt es st i + e.t.nw ≤ m := by
    rintro m (h | ⟨j, x, h1, h2, h3, h4⟩)
    · exact .inl (by omega)
    · rcases Nat.lt_trichotomy j i with hlt | heq | hgt
      · have := nm_mono (es := es) (st := st) (i := j + 1) (j := i) hlt
        rw [nm_succ h2] at this
        exact .inl (by omega)
      · exact absurd (heq ▸ h1) hunl
      · have := nm_mono (es := es) (st := st) (i := i + 1) (j := j) hgt
        rw [nm_succ he] at this
        exact .inr (by omega)
  have more : ∀ m, Use es st (fun j => listed.getD j false = true) m → Use es st (fun j => (listed.setIfInBounds i true).getD j false = true) m := fun m h => h.imp id fun ⟨j, x, h1, h2⟩ => ⟨j, x, (hset j).2 (.inl h1), h2⟩
  have hc := K.cond i e he
  have hnm : e.t.nm = nmAt es st i := hc.nm
  -- what the operation made
  have made : ∀ m, m < nmAt es st i + e.t.nw → m ∈ e.t.says → Use es st (fun j => (listed.setIfInBounds i true).getD j false = true) m := by
    intro m hm hsay
    rw [← nm_succ he] at hm
    rcases nm_tile hm with h | ⟨j, x, h1, h2, h3, h4⟩
    · exact .inl h
    · refine .inr ⟨j, x, (hset j).2 ?_, h2, h3, h4⟩
      by_cases hji : j = i
      · exact .inr hji
      · left
        cases hl : listed.getD j false with
        | true => rfl
        | false =>
          exfalso
          have hf := K.free j i x e (by omega) h2 he fun ho => by rw [hbef j ho] at hl; cases hl
          simp only [free2, Bool.and_eq_true, apartN_iff] at hf
          have hxn : x.t.nm = nmAt es st j := (K.cond j x h2).nm
          refine hf.1.1.1.2 m (List.mem_map.2 ⟨m - x.t.nm, ?_, ?_⟩) hsay
          · rw [List.mem_range]; omega
          · omega
  refine ⟨joinρ ρ ρ' (nmAt es st i) e.t.nw, ?_, ?_, ?_, ?_, ?_, ?_, ?_, ?_, ?_, ?_⟩
  · rw [Array.size_setIfInBounds]; exact I.size
  · intro j o' hj ho' ed hed hb
    rw [hset] at hj
    refine (hset _).2 (.inl ?_)
    rcases hj with hj | rfl
    · exact I.closed j o' hj ho' ed hed hb
    · rw [hop] at ho'; cases ho'
      exact hall ed hed hb
  · have := K.canonE.next I.seenE hi hunl hbef (fun j hj hl m hm => K.down I.closed I.size j hl m hm) (cur' := setDst env e.o.dst e.s) fun key => by
      rw [setDst_at]; simp only [wE, he]
    intro k hk key hkr hnw
    exact this k (hk.imp id fun ⟨a, b⟩ => ⟨a, fun h => b ((hset k).2 h)⟩) key hkr fun j hj hjn => hnw j hj fun h => hjn ((hset j).1 h)
  · have := K.canonH.next I.seenH hi hunl hbef (fun j hj hl m hm => K.down I.closed I.size j hl m hm) (cur' := ups hp e.t.up) fun key => by
      rw [ups_at]; simp only [wH, he]; cases lastU e.t.up key <;> rfl
    intro k hk key hkr hnw
    exact this k (hk.imp id fun ⟨a, b⟩ => ⟨a, fun h => b ((hset k).2 h)⟩) key hkr fun j hj hjn => hnw j hj fun h => hjn ((hset j).1 h)
  · exact part_heap I.H hs hL F hn1 fun l o ho => ⟨old l (I.useH l o ho).1, fun m hm => old m ((I.useH l o ho).2 m hm)⟩
  · have hE : RepE (joinρ ρ ρ' (nmAt es st i) e.t.nw) ok' w' (nmAt es st es.length) env a.tmps := by
      intro t s hts
      obtain ⟨u, h1, h2⟩ := I.envR t s hts
      refine ⟨u, h1, h2.moveM (F.2.sameOk hL) fun m hm => ⟨?_, h2.names m hm⟩⟩
      have := old m (I.useE t m (by rw [hts]; exact hm))
      unfold joinρ
      rw [if_neg (by omega)]
    refine env_put hE (fun x hx => (hv x hx).move (Same.refl _ _) (fun l hl => ?_) hn1) fun t ht => ?_
    · unfold joinρ
      by_cases h : nmAt es st i ≤ l
      · rw [if_pos ⟨h, hl⟩]
      · rw [if_neg (by omega)]; exact (F.2.rho l (by omega)).symm
    · rw [I.T.size]; exact (hW e hem t (by simp [dstOf, ht])).2
  · intro l o' h
    rw [ups_at] at h
    cases hl : lastU e.t.up l with
    | none =>
      rw [hl] at h
      obtain ⟨h1, h2⟩ := I.useH l o' h
      exact ⟨more l h1, fun m hm => more m (h2 m hm)⟩
    | some x =>
      rw [hl] at h
      have h : x = some o' := h
      subst h
      have hL' : ups hpL e.t.up l = some o' := by rw [ups_at, hl]
      obtain ⟨k1, k2⟩ := F.1.ob l o' hL'
      refine ⟨?_, fun m hm => made m (k2.names m hm) (hc.says m (.inr (upNames_mem (lastU_mem hl) hm)))⟩
      by_cases hlt : l < nmAt es st i
      · obtain ⟨p, g1, _⟩ := F.2.stay l hlt o' hL'
        exact more l (I.useH l p (hs l p g1)).1
      · exact .inr ⟨i, e, (hset i).2 (.inr rfl), he, by omega, k1⟩
  · intro t m hm
    rw [setDst_at] at hm
    by_cases hd : e.o.dst = some t
    · rw [if_pos hd, Option.getD_some] at hm
      cases hes : e.s with
      | none => rw [hes] at hm; cases hm
      | some x =>
        refine made m ((hv x hes).names m (by rw [← hes]; exact hm)) (hc.says m (.inl hm))
    · rw [if_neg hd, Option.getD_none] at hm
      exact more m (I.useE t m hm)
  · exact part_goes I.G I.H hs F hn0 (hD e hem) fun l o ho => old l (I.useH l o ho).1
  · exact I.T.trans (Tm.put a e.o v) (fun _ h => h) fun t ht => (hW e hem t ht).1
end
end
end Lv
