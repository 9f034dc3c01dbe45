import Derived.Test.YtnogebfcpicghaaGreatDoorL9
set_option linter.all false
set_option linter.unusedVariables false
set_option linter.unusedSimpArgs false
set_option linter.unusedSectionVars false
namespace Go.Proofs.Ytnogebfcpicghaa
open Go Lv Go.Proofs Go.RowKit Go.Shelf Dl
theorem name_size {b : ByteArray} (h : isName b = true) : b.size ≤ 30 := by
  simp only [isName, isWord, Bool.and_eq_true] at h
  have h := h.1
  have hb : b.size = b.data.toList.length := rfl
  rw [hb]
  cases hl : b.data.toList with
  | nil => simp
  | cons c r => rw [hl] at h; simp only [isWordL, Bool.and_eq_true, decide_eq_true_eq] at h; exact h.2
theorem num_i64 {n : Int} (h : numS (Lib.itoa n) = some n) : I64 n := by
  unfold numS at h
  cases ha : Lib.atoiAll (Lib.itoa n) with
  | ok v => rw [ha] at h; simp only at h; split at h <;> cases h; exact itoa_bound ha
  | _ => rw [ha] at h; cases h
theorem val_i64 {v : Val} (h : ValOk v) : I64 v.2.1 := by
  rcases h with rfl | rfl | rfl | h
  · decide
  · decide
  · decide
  · generalize ht : ((1, (e0, v)) : Tok) = t at h
    cases h with
    | word _ => cases ht
    | sign _ => cases ht
    | num h1 _ => cases ht; exact num_i64 h1
    | text _ => cases ht; exact (show I64 0 by decide)
theorem step_fit {x : tNodeT} (h : StepOk x) : I64 x.1 ∧ I64 x.2.1 ∧ I64 x.2.2.2.1 := by
  obtain ⟨op, n, v⟩ := x
  rcases h with ⟨h1, h2⟩ | ⟨h1, h2, h3, h4⟩ | ⟨h1, h2, h3⟩ | ⟨h1, h2, h3⟩
  · have h1 : op = 10 := h1
    have h2 : (n, v) = (0, v0) := h2
    cases h2; subst h1; decide
  · have h1 : op = 0 := h1
    have h2 : 0 ≤ n := h2
    have h3 : n ≤ 99 := h3
    have h4 : v = v0 := h4
    subst h1; subst h4
    exact ⟨show I64 0 by decide, ⟨by simp only; omega, by simp only; omega⟩, show I64 0 by decide⟩
  · have h1 : op = 1 := h1
    have h2 : n = 0 := h2
    subst h1; subst h2
    exact ⟨show I64 1 by decide, show I64 0 by decide, val_i64 h3⟩
  · have h1 : 2 ≤ op := h1
    have h2 : op ≤ 9 := h2
    have h3 : (n, v) = (0, v0) := h3
    cases h3
    exact ⟨⟨by simp only; omega, by simp only; omega⟩, show I64 0 by decide, show I64 0 by decide⟩
theorem expr_fit {e : List tNodeT} (h : ExprOk e) : EFit e := ⟨by have := h.2; omega, fun x hx => step_fit (h.1 x hx)⟩
theorem i64_small {n : Int} (h : 0 ≤ n ∧ n ≤ 99) : I64 n := ⟨by omega, by omega⟩
theorem fit_ok {d : Dl.Def} (h : DefOk d) : Fit d := by
  cases h with
  | @tab t h =>
    refine ⟨Nat.le_trans h.most (by decide), Nat.le_trans h.most2 (by decide), Nat.zero_le _, Nat.zero_le _, fun e he => expr_fit (h.checks e he), ⟨Nat.zero_le _, fun x hx => by cases hx⟩, fun c hc => ?_, Nat.le_trans (name_size h.name) (by decide), (show e0.size ≤ 100 by decide), (show e0.size ≤ 100 by decide), (show e0.size ≤ 100 by decide), (show I64 0 by decide), (show I64 0 by decide), (fun n hn => by cases hn), (fun a ha => by cases ha)⟩
    obtain ⟨h1, h2, h3, h4⟩ := h.cols c hc
    refine ⟨Nat.le_trans (name_size h1) (by decide), ?_, ⟨by omega, by omega⟩⟩
    rcases h4 with ⟨h4, _⟩ | ⟨h4, _⟩
    · rw [h4]; decide
    · exact Nat.le_trans (name_size h4) (by decide)
  | @view v h =>
    refine ⟨Nat.zero_le _, Nat.zero_le _, Nat.le_trans h.most (by decide), Nat.le_trans h.most2 (by decide), (fun e he => by cases he), expr_fit h.whr, (fun c hc => by cases hc), (show e0.size ≤ 100 by decide), Nat.le_trans (name_size h.name) (by decide), Nat.le_trans (name_size h.fr) (by decide), ?_, ?_, ?_, fun n hn => i64_small (h.pick n hn), fun a ha => ?_⟩
    · rcases h.join with ⟨h4, _⟩ | ⟨h4, _⟩
      · show v.2.2.1.size ≤ 100; rw [h4]; decide
      · exact Nat.le_trans (name_size h4) (by decide)
    · rcases h.join with ⟨_, h4⟩ | ⟨_, h4, h5, _⟩
      · show I64 v.2.2.2.1.1; rw [h4]; decide
      · exact i64_small ⟨h4, h5⟩
    · rcases h.join with ⟨_, h4⟩ | ⟨_, _, _, h4, h5⟩
      · show I64 v.2.2.2.1.2; rw [h4]; decide
      · exact i64_small ⟨h4, h5⟩
    · obtain ⟨_, _, h4, h5, _⟩ := h.aggs a ha
      exact i64_small ⟨h4, h5⟩
theorem def0_ln : DLn def0 := ⟨by decide, by decide, (fun e he => by cases he), by decide, by decide, by decide⟩
theorem readS_cases (s : List UInt8) : readS s = (def0, 60) ∨ readS s = (def0, 70) ∨ ∃ d, readS s = (d, 0) ∧ DefOk d := by
  unfold readS
  split
  · exact .inl rfl
  · cases h1 : lexS s with
    | none => exact .inl rfl
    | some l =>
      cases h2 : parseS l with
      | none => right; left; simp only [h2]
      | some d =>
        right; right
        exact ⟨d, by simp only [h2], (parseS_back (lexS_ok _ s (Nat.le_refl _) l h1).1 h2).2.2⟩
theorem readS_ln (s : List UInt8) : DLn (readS s).1 := by
  rcases readS_cases s with h | h | ⟨d, h, hd⟩
  · rw [h]; exact def0_ln
  · rw [h]; exact def0_ln
  · rw [h]; exact (fit_ok hd).ln
theorem sameB_refl (d : Dl.Def) : sameB d d = true := (sameB_iff d d).2 rfl
/-- R.Same of what Parse tells -/
theorem rSame_flat (d q : Dl.Def) (h : DLn d) : R07_Same.F (d.1, d.2.1.1, d.2.1.2.1, d.2.1.2.2, d.2.2.1, d.2.2.2.1, d.2.2.2.2.1, d.2.2.2.2.2.1.1, d.2.2.2.2.2.1.2, d.2.2.2.2.2.2.1, d.2.2.2.2.2.2.2.1, d.2.2.2.2.2.2.2.2.1, d.2.2.2.2.2.2.2.2.2, q.1, q.2.1.1, q.2.1.2.1, q.2.1.2.2, q.2.2.1, q.2.2.2.1, q.2.2.2.2.1, q.2.2.2.2.2.1.1, q.2.2.2.2.2.1.2, q.2.2.2.2.2.2.1, q.2.2.2.2.2.2.2.1, q.2.2.2.2.2.2.2.2.1, q.2.2.2.2.2.2.2.2.2, ()) = some (sameB d q, ()) :=
  rSame_s _ _ _ _ _ _ _ _ _ _ _ _ _ _ _ _ _ _ _ _ _ _ _ _ _ _ h
theorem i_bne (a b : Int) (h : a = b) : (a != b) = false := by simp [h]
/-! ## The laws -/
theorem parts_law (s : ByteArray) : L07_DdlParts.F (s, ()) = some (true, ()) := by
  rw [L07_DdlParts.eq]
  unfold L07_DdlParts.B
  simp only [fixed_s, Option.bind_some, Bool.not_true, cond_false]
  by_cases hb : 2000 < s.size
  · have : decide ((s.size : Int) > (2000 : Int)) = true := by simp; omega
    simp only [this, cond_true, Option.bind_some]
  · have : decide ((s.size : Int) > (2000 : Int)) = false := by simp; omega
    simp only [this, cond_false, Option.bind_some, Parse_s]
    rcases readS_cases s.data.toList with h | h | ⟨d, h, hd⟩
    · rw [h]; rfl
    · rw [h]; rfl
    · rw [h]
      simp only [flatP]
      have c0 : ((0 : Int) != (0 : Int)) = false := by decide
      cases hd with
      | @tab t ht =>
        have k0 : ((0 : Int) == (0 : Int)) = true := by decide
        have hv := rSameView_s view0.1 view0.2.1 view0.2.2.1 view0.2.2.2.1.1 view0.2.2.2.1.2 view0.2.2.2.2.1 view0.2.2.2.2.2.1 view0.2.2.2.2.2.2.1 view0.2.2.2.2.2.2.2 e0 e0 e0 0 0 [] [] false [] (by decide) (by decide) (by decide)
        have d1 : (t.2.1.length : Int) ≥ (1 : Int) := by have := ht.some; omega
        have d2 : (t.2.1.length : Int) ≤ (40 : Int) := by have := ht.most; omega
        have hn := rName_s t.1 (by have := name_size ht.name; omega)
        rw [ht.name] at hn
        simp only [c0, k0, cond_false, cond_true]
        refine (bind_is _ hv).trans ?_
        show (bif true then _ else _) = _
        simp only [cond_true, hn, Option.bind_some]
        exact (show (bif decide ((t.2.1.length : Int) ≥ (1 : Int)) then (bif decide ((t.2.1.length : Int) ≤ (40 : Int)) then some (true, ()) else some (false, ())) else some (false, ()) : Option (Bool × Unit)) = some (true, ()) from by rw [decide_eq_true d1, decide_eq_true d2]; rfl)
      | @view v hv =>
        have k1 : ((1 : Int) == (0 : Int)) = false := by decide
        have k2 : ((1 : Int) == (1 : Int)) = true := by decide
        have ht := rSameTable_s Dl.tab0.1 Dl.tab0.2.1 Dl.tab0.2.2 e0 [] [] (by decide) (by decide) (fun e he => by cases he)
        have hn1 := rName_s v.1 (by have := name_size hv.name; omega)
        rw [hv.name] at hn1
        have hn2 := rName_s v.2.1 (by have := name_size hv.fr; omega)
        rw [hv.fr] at hn2
        have d2 : (v.2.2.2.2.2.1.length : Int) ≤ (40 : Int) := by have := hv.most; omega
        simp only [c0, k1, k2, cond_false, cond_true]
        refine (bind_is _ ht).trans ?_
        show (bif true then _ else _) = _
        simp only [cond_true, hn1, hn2, Option.bind_some]
        refine (show (bif decide ((v.2.2.2.2.2.1.length : Int) ≤ (40 : Int)) then (bif v.2.2.2.2.2.2.1 then some (true, ()) else some ((v.2.2.2.2.2.2.2.length : Int) == (0 : Int), ())) else some (false, ()) : Option (Bool × Unit)) = some (true, ()) from ?_)
        rw [decide_eq_true d2]
        rcases hv.group with hg | hg
        · simp only [hg, cond_true]
        · rw [hg]
          cases v.2.2.2.2.2.2.1 <;> rfl
theorem unlike_law (a1 : Int) (a2 : ByteArray) (a3 : List Col) (a4 : List (List tNodeT)) (a5 a6 a7 : ByteArray) (a8 a8' : Int) (a9 : List tNodeT) (a10 : List Int) (a11 : Bool) (a12 : List Agg) (b1 : Int) (b2 : ByteArray) (b3 : List Col) (b4 : List (List tNodeT)) (b5 b6 b7 : ByteArray) (b8 b8' : Int) (b9 : List tNodeT) (b10 : List Int) (b11 : Bool) (b12 : List Agg)
    (ha : DLn (a1, ((a2, (a3, a4)), (a5, (a6, (a7, ((a8, a8'), (a9, (a10, (a11, a12)))))))))) (hb : DLn (b1, ((b2, (b3, b4)), (b5, (b6, (b7, ((b8, b8'), (b9, (b10, (b11, b12))))))))))
    (fa : Sm (a1, ((a2, (a3, a4)), (a5, (a6, (a7, ((a8, a8'), (a9, (a10, (a11, a12)))))))))  → Fit (a1, ((a2, (a3, a4)), (a5, (a6, (a7, ((a8, a8'), (a9, (a10, (a11, a12))))))))))
    (fb : Sm (b1, ((b2, (b3, b4)), (b5, (b6, (b7, ((b8, b8'), (b9, (b10, (b11, b12)))))))))  → Fit (b1, ((b2, (b3, b4)), (b5, (b6, (b7, ((b8, b8'), (b9, (b10, (b11, b12)))))))))) :
    L07_DdlUnlike.F (a1, a2, a3, a4, a5, a6, a7, a8, a8', a9, a10, a11, a12, b1, b2, b3, b4, b5, b6, b7, b8, b8', b9, b10, b11, b12, ()) = some (true, ()) := by
  rw [L07_DdlUnlike.eq]
  unfold L07_DdlUnlike.B
  obtain ⟨x, hx1, hx2⟩ := big_s a1 a2 a3 a4 a5 a6 a7 a8 a8' a9 a10 a11 a12 ha
  obtain ⟨y, hy1, hy2⟩ := big_s b1 b2 b3 b4 b5 b6 b7 b8 b8' b9 b10 b11 b12 hb
  simp only [fixed_s, Option.bind_some, Bool.not_true, cond_false, hx1, hy1]
  cases x with
  | true => rfl
  | false =>
    cases y with
    | true => rfl
    | false =>
      have fa := fa (hx2 rfl)
      have fb := fb (hy2 rfl)
      simp only [cond_false, Option.bind_some, Print_s _ _ _ _ _ _ _ _ _ _ _ _ _ fa, Print_s _ _ _ _ _ _ _ _ _ _ _ _ _ fb, rSame_s _ _ _ _ _ _ _ _ _ _ _ _ _ _ _ _ _ _ _ _ _ _ _ _ _ _ ha]
      generalize hda : ((a1, ((a2, (a3, a4)), (a5, (a6, (a7, ((a8, a8'), (a9, (a10, (a11, a12))))))))) : Dl.Def) = da
      generalize hdb : ((b1, ((b2, (b3, b4)), (b5, (b6, (b7, ((b8, b8'), (b9, (b10, (b11, b12))))))))) : Dl.Def) = db
      rw [show (⟨#[]⟩ : ByteArray) = bs [] from rfl]
      simp only [beq_bs]
      by_cases h1 : printS da = []
      · simp [h1]
      by_cases h2 : printS db = []
      · simp [h1, h2]
      simp only [h1, h2, decide_false, cond_false]
      have pr : ∀ d, printS d ≠ [] → readS (printS d) = (d, 0) := by
        intro d h
        unfold printS at h ⊢
        split at h
        · exact absurd rfl h
        · split at h
          · rename_i g1 g2; rw [if_neg g1, if_pos g2]; exact g2
          · exact absurd rfl h
      by_cases hd : da = db
      · subst hd; simp [sameB_refl]
      · have hs : sameB da db = false := by
          cases h : sameB da db with
          | false => rfl
          | true => exact absurd ((sameB_iff _ _).1 h) hd
        have hp : ¬ printS da = printS db := fun e => hd (by
          have g1 := pr da h1
          rw [e, pr db h2] at g1
          exact (Prod.mk.inj g1).1.symm)
        simp [hs, hp]
theorem print_ok {d : Dl.Def} (h : printS d ≠ []) : readS (printS d) = (d, 0) := by
  unfold printS at h ⊢
  split at h
  · exact absurd rfl h
  · split at h
    · rename_i g1 g2; rw [if_neg g1, if_pos g2]; exact g2
    · exact absurd rfl h
theorem back_law (a1 : Int) (a2 : ByteArray) (a3 : List Col) (a4 : List (List tNodeT)) (a5 a6 a7 : ByteArray) (a8 a8' : Int) (a9 : List tNodeT) (a10 : List Int) (a11 : Bool) (a12 : List Agg) (s : ByteArray)
    (ha : DLn (a1, ((a2, (a3, a4)), (a5, (a6, (a7, ((a8, a8'), (a9, (a10, (a11, a12))))))))))
    (fa : Sm (a1, ((a2, (a3, a4)), (a5, (a6, (a7, ((a8, a8'), (a9, (a10, (a11, a12)))))))))  → Fit (a1, ((a2, (a3, a4)), (a5, (a6, (a7, ((a8, a8'), (a9, (a10, (a11, a12)))))))))) :
    L07_DdlBack.F (a1, a2, a3, a4, a5, a6, a7, a8, a8', a9, a10, a11, a12, s, ()) = some (true, ()) := by
  rw [L07_DdlBack.eq]
  unfold L07_DdlBack.B
  obtain ⟨x, hx1, hx2⟩ := big_s a1 a2 a3 a4 a5 a6 a7 a8 a8' a9 a10 a11 a12 ha
  simp only [fixed_s, Option.bind_some, Bool.not_true, cond_false, hx1]
  cases x with
  | true => rfl
  | false =>
    have fa := fa (hx2 rfl)
    by_cases hb : 2000 < s.size
    · have : decide ((s.size : Int) > (2000 : Int)) = true := by simp; omega
      simp only [this, cond_true, cond_false, Option.bind_some]
    · have : decide ((s.size : Int) > (2000 : Int)) = false := by simp; omega
      simp only [this, cond_false, Option.bind_some, Print_s _ _ _ _ _ _ _ _ _ _ _ _ _ fa]
      have hs := fun (q : Dl.Def) => rSame_s a1 a2 a3 a4 a5 a6 a7 a8 a8' a9 a10 a11 a12 q.1 q.2.1.1 q.2.1.2.1 q.2.1.2.2 q.2.2.1 q.2.2.2.1 q.2.2.2.2.1 q.2.2.2.2.2.1.1 q.2.2.2.2.2.1.2 q.2.2.2.2.2.2.1 q.2.2.2.2.2.2.2.1 q.2.2.2.2.2.2.2.2.1 q.2.2.2.2.2.2.2.2.2 ha
      generalize hda : ((a1, ((a2, (a3, a4)), (a5, (a6, (a7, ((a8, a8'), (a9, (a10, (a11, a12))))))))) : Dl.Def) = da at hs
      rw [show (⟨#[]⟩ : ByteArray) = bs [] from rfl]
      simp only [beq_bs]
      have c0 : ((0 : Int) != (0 : Int)) = false := by decide
      have c60 : ((60 : Int) != (0 : Int)) = true := by decide
      have c70 : ((70 : Int) != (0 : Int)) = true := by decide
      refine (bind_is (.inl ()) ?_).trans ?_
      · by_cases h1 : printS da = []
        · simp [h1]
        · simp only [h1, decide_false, Bool.not_false, cond_true, Parse_s, bs_list, print_ok h1, Option.bind_some, flatP, c0, cond_false, hs da, sameB_refl, Bool.not_true]
      simp only [Parse_s, Option.bind_some]
      rcases readS_cases s.data.toList with h | h | ⟨d, h, hd⟩
      · rw [h]
        simp only [flatP, c60, cond_true]
        have := rSame_flat def0 def0 def0_ln
        rw [sameB_refl] at this
        exact (bind_is _ this).trans rfl
      · rw [h]
        simp only [flatP, c70, cond_true]
        have := rSame_flat def0 def0 def0_ln
        rw [sameB_refl] at this
        exact (bind_is _ this).trans rfl
      · rw [h]
        have hsz : s.data.toList.length = s.size := rfl
        obtain ⟨_, p2, p3⟩ := print_read (s := s.data.toList) (by rw [hsz]; omega) h
        have hp : printS d = textW d := by
          unfold printS
          rw [if_neg (by omega), if_pos p3]
        have hne : textW d ≠ [] := by
          intro e
          rw [e] at p3
          have : readS [] = (def0, 70) := by kernel_rfl
          rw [this] at p3
          cases p3
        have hf := fit_ok hd
        have hP : ddl_Print.F (d.1, d.2.1.1, d.2.1.2.1, d.2.1.2.2, d.2.2.1, d.2.2.2.1, d.2.2.2.2.1, d.2.2.2.2.2.1.1, d.2.2.2.2.2.1.2, d.2.2.2.2.2.2.1, d.2.2.2.2.2.2.2.1, d.2.2.2.2.2.2.2.2.1, d.2.2.2.2.2.2.2.2.2, ()) = some (bs (textW d), ()) := (Print_s _ _ _ _ _ _ _ _ _ _ _ _ _ hf).trans (by rw [← hp])
        have hM : ddl_May.F (d.1, d.2.1.1, d.2.1.2.1, d.2.1.2.2, d.2.2.1, d.2.2.2.1, d.2.2.2.2.1, d.2.2.2.2.2.1.1, d.2.2.2.2.2.1.2, d.2.2.2.2.2.2.1, d.2.2.2.2.2.2.2.1, d.2.2.2.2.2.2.2.2.1, d.2.2.2.2.2.2.2.2.2, ()) = some (true, ()) := (May_s _ _ _ _ _ _ _ _ _ _ _ _ _ hf).trans (by
          show some (!decide (printS d = []), ()) = _
          rw [hp]; simp [hne])
        have hS := rSame_flat d d hf.ln
        rw [sameB_refl] at hS
        simp only [flatP, c0, cond_false, hP, hM, Option.bind_some, Parse_s, bs_list, p3, cond_true, hS]
        rfl
end Go.Proofs.Ytnogebfcpicghaa
