import Derived.Test.YtnogebfcpicghaaGreatDoorL7
set_option linter.all false
set_option linter.unusedVariables false
set_option linter.unusedSimpArgs false
set_option linter.unusedSectionVars false
namespace Go.Proofs.Ytnogebfcpicghaa
open Go Lv Go.Proofs Go.RowKit Go.Shelf Dl
theorem aggW_len (a : Agg) : (aggW a).length ≤ 8 := by
  unfold aggW
  split <;> simp
theorem ite_len {p : Prop} [Decidable p] (a b : List ByteArray) (n : Nat) (ha : a.length ≤ n) (hb : b.length ≤ n) : (if p then a else b).length ≤ n := by split <;> assumption
theorem pview_s (vn vf vw : ByteArray) (o1 o2 : Int) (wh : List tNodeT) (pk : List Int) (gr : Bool) (ag : List Agg) (h1 : I64 o1) (h2 : I64 o2) (hw : EFit wh) (hp : pk.length ≤ 400) (hpi : ∀ n ∈ pk, I64 n) (ha : ag.length ≤ 400) (hai : ∀ a ∈ ag, I64 a.2) :
    ddl_printer_view.F (vn, vf, vw, o1, o2, wh, pk, gr, ag, [], ()) = some (viewW (vn, (vf, (vw, ((o1, o2), (wh, (pk, (gr, ag))))))), ()) := by
  rw [ddl_printer_view.eq]
  unfold ddl_printer_view.B
  have d0 : (decide (0 ≤ (0 : Int)) && decide ((0 : Int) < (2 : Int))) = true := by decide
  have d1 : (decide (0 ≤ (1 : Int)) && decide ((1 : Int) < (2 : Int))) = true := by decide
  simp only [add_s [(⟨#[118, 105, 101, 119]⟩ : ByteArray), vn, (⟨#[102, 114, 111, 109]⟩ : ByteArray), vf] [] (by simp), Option.bind_some, List.nil_append, d0, d1, cond_true]
  rw [itoa_w o1 h1]
  simp only []
  rw [itoa_w o2 h2]
  have hb : (!decide (vw = e0)) = decide (¬ vw = e0) := by by_cases h : vw = e0 <;> simp [h]
  simp only [beq_bytes]
  rw [addIf_s _ [(⟨#[106, 111, 105, 110]⟩ : ByteArray), vw, (⟨#[111, 110]⟩ : ByteArray), bs (Lib.itoa o1), (⟨#[61]⟩ : ByteArray), bs (Lib.itoa o2)] [(⟨#[118, 105, 101, 119]⟩ : ByteArray), vn, (⟨#[102, 114, 111, 109]⟩ : ByteArray), vf] (by simp)]
  simp only [Option.bind_some]
  generalize hA : [(⟨#[118, 105, 101, 119]⟩ : ByteArray), vn, (⟨#[102, 114, 111, 109]⟩ : ByteArray), vf] ++ (if (!decide (vw = (⟨#[]⟩ : ByteArray))) = true then [(⟨#[106, 111, 105, 110]⟩ : ByteArray), vw, (⟨#[111, 110]⟩ : ByteArray), bs (Lib.itoa o1), (⟨#[61]⟩ : ByteArray), bs (Lib.itoa o2)] else []) = A
  have hAl : A.length ≤ 10 := by rw [← hA, List.length_append]; have := ite_len (p := (!decide (vw = (⟨#[]⟩ : ByteArray))) = true) [(⟨#[106, 111, 105, 110]⟩ : ByteArray), vw, (⟨#[111, 110]⟩ : ByteArray), bs (Lib.itoa o1), (⟨#[61]⟩ : ByteArray), bs (Lib.itoa o2)] [] 6 (by simp) (by simp); simp only [List.length_cons, List.length_nil] at this ⊢; omega
  have hA' : A = [(⟨#[118, 105, 101, 119]⟩ : ByteArray), vn, (⟨#[102, 114, 111, 109]⟩ : ByteArray), vf] ++ (if vw = e0 then [] else [(⟨#[106, 111, 105, 110]⟩ : ByteArray), vw, (⟨#[111, 110]⟩ : ByteArray), bs (Lib.itoa o1), (⟨#[61]⟩ : ByteArray), bs (Lib.itoa o2)]) := by
    rw [← hA]
    by_cases h : vw = e0 <;> simp [h]
  refine (bind_is (.inl (A ++ (if wh = [] then [] else (⟨#[119, 104, 101, 114, 101]⟩ : ByteArray) :: exprW wh), ())) ?_).trans ?_
  · by_cases h : wh = []
    · subst h; simp
    · have dw : decide ((wh.length : Int) > (0 : Int)) = true := by
        cases wh with
        | nil => exact absurd rfl h
        | cons a b => rw [decide_eq_true_eq]; simp only [List.length_cons]; omega
      simp only [dw, cond_true, add_s [(⟨#[119, 104, 101, 114, 101]⟩ : ByteArray)] A (by simp; omega), Option.bind_some, pexpr_s wh (A ++ [(⟨#[119, 104, 101, 114, 101]⟩ : ByteArray)]) hw (by simp; omega), if_neg h]
      simp
  simp only []
  have hE : (if wh = [] then [] else (⟨#[119, 104, 101, 114, 101]⟩ : ByteArray) :: exprW wh).length ≤ 123 := ite_len _ _ _ (by simp) (by simp only [List.length_cons, exprW_len]; have := hw.1; omega)
  generalize hB : A ++ (if wh = [] then [] else (⟨#[119, 104, 101, 114, 101]⟩ : ByteArray) :: exprW wh) = B
  have hBl : B.length ≤ 200 := by rw [← hB, List.length_append]; omega
  rw [add_s [(⟨#[112, 105, 99, 107]⟩ : ByteArray)] B (by simp; omega)]
  simp only [Option.bind_some]
  refine (each_loop pk hp pickW (fun n _ => by simp [pickW]) 300 (by decide) (fin := fun out => some (out ++ (if gr then [(⟨#[103, 114, 111, 117, 112]⟩ : ByteArray)] else []) ++ sepW aggW false ag, ())) ?_ ?_ pk.length 0 (by omega) (B ++ [(⟨#[112, 105, 99, 107]⟩ : ByteArray)]) (by simp; omega)).trans ?_
  · intro i hi out ho
    have d1 : decide ((i : Int) < (pk.length : Int)) = true := by simp; omega
    have d0 : decide (0 ≤ (i : Int)) = true := by simp
    have dg : decide ((i : Int) > (0 : Int)) = decide (0 < i) := by simp only [decide_eq_decide]; omega
    simp only [d1, d0, dg, Bool.and_self, cond_true, Int.toNat_natCast, getD_at hi, addIf_s _ [(⟨#[44]⟩ : ByteArray)] out (by simp; omega), Option.bind_some, wrap_s hi (show pk.length < 9223372036854775808 by omega)]
    rw [itoa_w _ (hpi _ (List.getElem_mem hi))]
    simp only []
    have hcm := ite_len (p := decide (0 < i) = true) [(⟨#[44]⟩ : ByteArray)] [] 1 (by simp) (by simp)
    rw [add_s _ _ (by simp only [List.length_append, List.length_cons, List.length_nil]; omega)]
    simp only [Option.bind_some, pickW, decide_eq_true_eq, List.append_assoc]
  · intro out ho
    have d1 : decide ((pk.length : Int) < (pk.length : Int)) = false := by simp
    simp only [d1, cond_false, addIf_s gr [(⟨#[103, 114, 111, 117, 112]⟩ : ByteArray)] out (by simp; omega), Option.bind_some]
    have hg := ite_len (p := gr = true) [(⟨#[103, 114, 111, 117, 112]⟩ : ByteArray)] [] 1 (by simp) (by simp)
    refine congrArg (Option.map Sum.inr) ?_
    refine (each_loop ag ha aggW (fun a _ => aggW_len a) 10000 (by decide) (fin := fun out => some (out, ())) ?_ ?_ ag.length 0 (by omega) (out ++ (if gr = true then [(⟨#[103, 114, 111, 117, 112]⟩ : ByteArray)] else [])) (by simp only [List.length_append]; omega)).trans ?_
    · intro i hi out ho
      have d1 : decide ((i : Int) < (ag.length : Int)) = true := by simp; omega
      have d0 : decide (0 ≤ (i : Int)) = true := by simp
      have dg : decide ((i : Int) > (0 : Int)) = decide (0 < i) := by simp only [decide_eq_decide]; omega
      simp only [d1, d0, dg, Bool.and_self, cond_true, Int.toNat_natCast, getD_at hi, addIf_s _ [(⟨#[44]⟩ : ByteArray)] out (by simp; omega), Option.bind_some, word1_s, wrap_s hi (show ag.length < 9223372036854775808 by omega)]
      have hcm := ite_len (p := decide (0 < i) = true) [(⟨#[44]⟩ : ByteArray)] [] 1 (by simp) (by simp)
      rw [add_s _ _ (by simp only [List.length_append, List.length_cons, List.length_nil]; omega)]
      simp only [Option.bind_some]
      rw [itoa_w _ (hai _ (List.getElem_mem hi))]
      simp only []
      rw [addIf_s _ _ _ (by simp only [List.length_append, List.length_cons, List.length_nil]; omega)]
      simp only [Option.bind_some, aggW, decide_eq_true_eq, List.append_assoc, i_ne]
      congr 6
      by_cases h0 : ag[i].1 = 0 <;> simp [h0]
    · intro out ho
      have d1 : decide ((ag.length : Int) < (ag.length : Int)) = false := by simp
      simp only [d1, cond_false]
      rfl
    · simp only [List.drop_zero]
      rfl
  · rw [← hB, hA']
    simp only [List.drop_zero, viewW]
    rfl
theorem wordW_size {n : Int} {ws : List ByteArray} (h : ∀ w ∈ ws, w.size ≤ 30) : (wordW n ws).size ≤ 30 := by
  unfold wordW
  split
  · decide
  · rw [List.getD_eq_getElem?_getD]
    cases hg : ws[n.toNat]? with
    | none => decide
    | some w => exact h w (List.mem_of_getElem? hg)
theorem stepW_size {x : tNodeT} (h : I64 x.2.1 ∧ I64 x.2.2.2.1) : (stepW x).size ≤ 2100 := by
  unfold stepW
  split
  · rw [bs_size]; have := itoa_len h.1; simp only [List.length_cons]; omega
  · split
    · unfold constW
      split
      · decide
      split
      · decide
      split
      · decide
      split
      · rename_i hm; rw [bs_size]; exact showV_le hm h.2
      · decide
    · have := @wordW_size (IntKind.i64.wrap (x.1 - 2)) opWords (by decide); omega
abbrev WB (l : List ByteArray) : Prop := ∀ w ∈ l, w.size ≤ 2100
theorem WB.app {a b : List ByteArray} (h : WB a) (h' : WB b) : WB (a ++ b) := fun w hw => by rcases List.mem_append.1 hw with hw | hw; exact h w hw; exact h' w hw
theorem WB.cons {a : ByteArray} {b : List ByteArray} (h : a.size ≤ 2100) (h' : WB b) : WB (a :: b) := fun w hw => by rcases List.mem_cons.1 hw with rfl | hw; exact h; exact h' w hw
theorem WB.nil : WB [] := fun w hw => by cases hw
theorem WB.ite {p : Prop} [Decidable p] {a b : List ByteArray} (h : WB a) (h' : WB b) : WB (if p then a else b) := by split <;> assumption
theorem WB.expr {e : List tNodeT} (h : EFit e) : WB (exprW e) := by
  unfold exprW
  refine WB.app (.cons (by decide) fun w hw => ?_) (.cons (by decide) .nil)
  obtain ⟨x, hx, rfl⟩ := List.mem_map.1 hw
  exact stepW_size (h.2 x hx).2
theorem WB.sep {α : Type} {f : α → List ByteArray} : ∀ (l : List α) (b : Bool), (∀ x ∈ l, WB (f x)) → WB (sepW f b l) := by
  intro l
  induction l with
  | nil => intro b _; exact .nil
  | cons x l ih =>
    intro b h
    exact ((WB.ite (.cons (by decide) .nil) .nil).app (h x (by simp))).app (ih true fun y hy => h y (List.mem_cons_of_mem _ hy))
theorem WB.checks : ∀ (l : List (List tNodeT)), (∀ e ∈ l, EFit e) → WB (l.flatMap checkW) := by
  intro l
  induction l with
  | nil => intro _; exact .nil
  | cons e l ih =>
    intro h
    rw [List.flatMap_cons]
    exact WB.app (.cons (by decide) (.expr (h e (by simp)))) (ih fun y hy => h y (List.mem_cons_of_mem _ hy))
theorem fit_words {d : Dl.Def} (h : Fit d) : WB (defW d) ∧ (defW d).length ≤ 1000000 := by
  obtain ⟨k, ⟨tn, c, ck⟩, vn, vf, vw, ⟨o1, o2⟩, wh, pk, gr, ag⟩ := d
  unfold defW
  split
  · refine ⟨?_, ?_⟩
    · unfold tableW
      refine ((WB.app ?_ (.sep c false fun x hx => ?_)).app (.cons (by decide) .nil)).app (.checks _ h.each)
      · exact .cons (by decide) (.cons (Nat.le_trans h.n1 (by decide)) (.cons (by decide) .nil))
      · obtain ⟨n1, n2, _⟩ := h.names x hx
        unfold colW
        refine WB.app (.cons (by omega) (.cons (by have := @wordW_size (IntKind.i64.wrap (x.2.1 - 1)) kinds (by decide); omega) .nil)) (WB.app (.ite (.cons (by decide) .nil) .nil) (WB.app (.ite (.cons (by decide) .nil) .nil) (.ite .nil ?_)))
        exact .cons (by decide) (.cons (by omega) (.cons (by have := @wordW_size x.2.2.2.2.2 acts (by decide); omega) .nil))
    · unfold tableW
      have l1 := sepW_len colW c false (fun x _ => colW_len x)
      have l2 := checksW_len ck h.each
      have l3 : c.length ≤ 400 := h.cols
      have l4 : ck.length ≤ 400 := h.checks
      simp only [List.length_append, List.length_cons, List.length_nil]
      omega
  · have i1 := itoa_len h.o1
    have i2 := itoa_len h.o2
    simp only at i1 i2
    refine ⟨?_, ?_⟩
    · unfold viewW
      refine ((((((WB.app ?_ (.ite .nil ?_)).app (.ite .nil (.cons (by decide) (.expr h.whr)))).app (.cons (by decide) .nil)).app (.sep pk false fun n hn => ?_)).app (.ite (.cons (by decide) .nil) .nil))).app (.sep ag false fun a ha => ?_)
      · exact .cons (by decide) (.cons (by have : vn.size ≤ 100 := h.n2; simp only; omega) (.cons (by decide) (.cons (by have : vf.size ≤ 100 := h.n3; simp only; omega) .nil)))
      · exact .cons (by decide) (.cons (by have : vw.size ≤ 100 := h.n4; simp only; omega) (.cons (by decide) (.cons (by rw [bs_size]; simp only; omega) (.cons (by decide) (.cons (by rw [bs_size]; simp only; omega) .nil)))))
      · exact .cons (by rw [bs_size]; have := itoa_len (h.pk n hn); omega) .nil
      · unfold aggW
        exact .cons (by have := @wordW_size a.1 fns (by decide); omega) (.ite .nil (.cons (by rw [bs_size]; have := itoa_len (h.ag a ha); omega) .nil))
    · unfold viewW
      have l1 := sepW_len pickW pk false (fun n _ => by simp [pickW])
      have l2 := sepW_len aggW ag false (fun a _ => aggW_len a)
      have l3 : pk.length ≤ 400 := h.pick
      have l4 : ag.length ≤ 400 := h.aggs
      have l5 : wh.length ≤ 120 := h.whr.1
      have l6 := ite_len (p := wh = []) [] ((⟨#[119, 104, 101, 114, 101]⟩ : ByteArray) :: exprW wh) 123 (by simp) (by simp only [List.length_cons, exprW_len]; omega)
      have l7 := ite_len (p := vw = e0) [] [(⟨#[106, 111, 105, 110]⟩ : ByteArray), vw, (⟨#[111, 110]⟩ : ByteArray), bs (Lib.itoa o1), (⟨#[61]⟩ : ByteArray), bs (Lib.itoa o2)] 6 (by simp) (by simp)
      have l8 := ite_len (p := gr = true) [(⟨#[103, 114, 111, 117, 112]⟩ : ByteArray)] [] 1 (by simp) (by simp)
      simp only [List.length_append, List.length_cons, List.length_nil] at l6 l7 l8 ⊢
      omega
theorem joinL_le : ∀ (l : List ByteArray), WB l → (joinL (l.map fun w => w.data.toList)).length ≤ 2101 * l.length := by
  intro l
  induction l with
  | nil => intro _; simp [joinL]
  | cons w l ih =>
    intro h
    have h1 := ih fun y hy => h y (List.mem_cons_of_mem _ hy)
    have h2 : w.data.toList.length ≤ 2100 := h w (by simp)
    cases l with
    | nil => simp only [List.map_cons, List.map_nil, joinL, List.length_cons, List.length_nil]; omega
    | cons v l =>
      rw [List.map_cons, joinL_cons _ (by simp)]
      simp only [List.length_append, List.length_cons] at h1 ⊢
      omega
theorem Fit.ln {d : Dl.Def} (h : Fit d) : DLn d := ⟨by have := h.cols; omega, by have := h.checks; omega, fun e he => by have := (h.each e he).1; omega, by have := h.whr.1; omega, by have := h.pick; omega, by have := h.aggs; omega⟩
theorem Print_s (k : Int) (tn : ByteArray) (c : List Col) (ck : List (List tNodeT)) (vn vf vw : ByteArray) (o1 o2 : Int) (wh : List tNodeT) (pk : List Int) (gr : Bool) (ag : List Agg)
    (h : Fit (k, ((tn, (c, ck)), (vn, (vf, (vw, ((o1, o2), (wh, (pk, (gr, ag)))))))))) :
    ddl_Print.F (k, tn, c, ck, vn, vf, vw, o1, o2, wh, pk, gr, ag, ()) = some (bs (printS (k, ((tn, (c, ck)), (vn, (vf, (vw, ((o1, o2), (wh, (pk, (gr, ag)))))))))), ()) := by
  have hln := h.ln
  obtain ⟨w1, w2⟩ := fit_words h
  have w3 := joinL_le _ w1
  generalize hd : ((k, ((tn, (c, ck)), (vn, (vf, (vw, ((o1, o2), (wh, (pk, (gr, ag))))))))) : Dl.Def) = d at hln w1 w2 w3 h
  rw [ddl_Print.eq]
  unfold ddl_Print.B
  simp only []
  refine (bind_is (.inl (defW d, ())) ?_).trans ?_
  · subst hd
    unfold defW
    by_cases h0 : k = 0
    · subst h0
      have : ((0 : Int) == (0 : Int)) = true := by decide
      simp only [this, cond_true]
      rw [ptable_s tn c ck h.cols h.checks h.each]
      rfl
    · have : (k == (0 : Int)) = false := by simp [h0]
      simp only [this, cond_false, if_neg h0]
      rw [pview_s vn vf vw o1 o2 wh pk gr ag h.o1 h.o2 h.whr h.pick h.pk h.aggs h.ag]
      rfl
  simp only []
  rw [join_b (defW d) (by omega) (by omega)]
  simp only [bs_size]
  have ht : joinL ((defW d).map fun w => w.data.toList) = textW d := rfl
  rw [ht]
  unfold printS
  by_cases hb : 20000 < (textW d).length
  · have : decide (((textW d).length : Int) > (20000 : Int)) = true := by simp; omega
    rw [this, if_pos hb]
    rfl
  · have : decide (((textW d).length : Int) > (20000 : Int)) = false := by simp; omega
    rw [this, if_neg hb]
    simp only [cond_false, Parse_s, bs_list, Option.bind_some]
    generalize hr : readS (textW d) = r
    obtain ⟨q, e⟩ := r
    obtain ⟨q1, ⟨q2, q3, q4⟩, q5, q6, q7, ⟨q8, q8'⟩, q9, q10, q11, q12⟩ := q
    simp only [flatP]
    by_cases he : e = 0
    · subst he
      have : ((0 : Int) != (0 : Int)) = false := by decide
      simp only [this, cond_false]
      have hsm := same_s k tn c ck vn vf vw o1 o2 wh pk gr ag q1 q2 q3 q4 q5 q6 q7 q8 q8' q9 q10 q11 q12 (hd ▸ hln)
      rw [hsm, hd]
      simp only [Option.bind_some]
      by_cases hq : d = (q1, ((q2, (q3, q4)), (q5, (q6, (q7, ((q8, q8'), (q9, (q10, (q11, q12)))))))))
      · rw [(sameB_iff _ _).2 hq, ← hq, if_pos rfl]
        rfl
      · have : sameB d (q1, ((q2, (q3, q4)), (q5, (q6, (q7, ((q8, q8'), (q9, (q10, (q11, q12))))))))) = false := by
          cases hs : sameB d (q1, ((q2, (q3, q4)), (q5, (q6, (q7, ((q8, q8'), (q9, (q10, (q11, q12))))))))) with
          | false => rfl
          | true => exact absurd ((sameB_iff _ _).1 hs) hq
        rw [this, if_neg (fun e => hq (Prod.mk.inj e).1.symm)]
        rfl
    · have : (e != (0 : Int)) = true := by simp [he]
      simp only [this, cond_true]
      rw [if_neg (fun e' => he (Prod.mk.inj e').2)]
theorem May_s (k : Int) (tn : ByteArray) (c : List Col) (ck : List (List tNodeT)) (vn vf vw : ByteArray) (o1 o2 : Int) (wh : List tNodeT) (pk : List Int) (gr : Bool) (ag : List Agg)
    (h : Fit (k, ((tn, (c, ck)), (vn, (vf, (vw, ((o1, o2), (wh, (pk, (gr, ag)))))))))) :
    ddl_May.F (k, tn, c, ck, vn, vf, vw, o1, o2, wh, pk, gr, ag, ()) = some (!decide (printS (k, ((tn, (c, ck)), (vn, (vf, (vw, ((o1, o2), (wh, (pk, (gr, ag))))))))) = []), ()) := by
  rw [ddl_May.eq]
  unfold ddl_May.B
  simp only [Print_s k tn c ck vn vf vw o1 o2 wh pk gr ag h, Option.bind_some]
  rw [show (⟨#[]⟩ : ByteArray) = bs [] from rfl, beq_bs]
end Go.Proofs.Ytnogebfcpicghaa
