import Derived.Test.YtnogebfcpicghaaGreatDoorL3
set_option linter.all false
set_option linter.unusedVariables false
set_option linter.unusedSimpArgs false
set_option linter.unusedSectionVars false
namespace Go.Proofs.Ytnogebfcpicghaa
open Go Lv Go.Proofs Go.RowKit Go.Shelf Dl
theorem bind_is {α β : Type} {x : Option α} {K : α → Option β} (v : α) (h : x = some v) : x.bind K = K v := by rw [h]; rfl
theorem joinS_suf {l : List Tok} {x} (h : joinS l = some x) : x.2 <:+ l := by
  unfold joinS at h
  split at h
  · cases h; exact List.suffix_refl _
  · rename_i r hr
    simp only [Option.bind_eq_some_iff, Option.map_eq_some_iff] at h
    obtain ⟨y, hy, r2, hr2, a, ha, r3, hr3, b, hb, rfl⟩ := h
    exact (((((colS_suf hb).trans (tk_suf hr3)).trans (colS_suf ha)).trans (tk_suf hr2)).trans (nameS_suf hy)).trans (tk_suf hr)
theorem whereS_suf {l : List Tok} {x} (h : whereS l = some x) : x.2 <:+ l := by
  unfold whereS at h
  split at h
  · cases h; exact List.suffix_refl _
  · rename_i r hr
    exact (exprS_suf h).trans (tk_suf hr)
theorem pickS_suf {l : List Tok} {x} (h : pickS l = some x) : x.2 <:+ l := by
  unfold pickS at h
  split at h
  · cases h; exact List.suffix_refl _
  · exact sepS_suf colS_suf h
theorem aggS_suf {l : List Tok} {x} (h : aggS l = some x) : x.2 <:+ l := by
  simp only [aggS, Option.bind_eq_some_iff] at h
  obtain ⟨y, hy, h⟩ := h
  split at h
  · cases h; exact oneS_suf hy
  · simp only [Option.map_eq_some_iff] at h
    obtain ⟨z, hz, rfl⟩ := h
    exact (colS_suf hz).trans (oneS_suf hy)
theorem view_s (l : List Tok) (hl : TokSm l) : ddl_parser_view.F (l, ()) = some (res (fun x r => (x.1, x.2.1, x.2.2.1, x.2.2.2.1.1, x.2.2.2.1.2, x.2.2.2.2.2.2.1, r, x.2.2.2.2.1, x.2.2.2.2.2.1, x.2.2.2.2.2.2.2, ())) (viewS l)) := by
  rw [ddl_parser_view.eq]
  unfold ddl_parser_view.B
  simp only [agreeL_one, agreeL_two, agreeL_three, name_s l hl.1, Option.bind_some, viewS]
  cases h1 : nameS l with
  | none => rfl
  | some y =>
    have hy := hl.suf (nameS_suf h1)
    simp only [res_some, Option.bind_some, take_s _ y.2 hy.1, need_s]
    cases h2 : tk (⟨#[102, 114, 111, 109]⟩ : ByteArray) y.2 with
    | none => rfl
    | some r =>
      have hr := hy.suf (tk_suf h2)
      simp only [Option.isSome_some, cond_true, Option.getD_some, Option.bind_some, name_s r hr.1]
      cases h3 : nameS r with
      | none => rfl
      | some f =>
        have hf := hr.suf (nameS_suf h3)
        simp only [res_some, Option.bind_some]
        refine (bind_is (match joinS f.2 with | some j => .inl (j.2, y.1, f.1, j.1.1, j.1.2.1, j.1.2.2, false, [], [], [], ()) | none => .inr (.inr 70)) ?_).trans ?_
        · simp only [take_s _ f.2 hf.1, Option.bind_some]
          unfold joinS
          cases h4 : tk (⟨#[106, 111, 105, 110]⟩ : ByteArray) f.2 with
          | none => rfl
          | some q =>
            have hq := hf.suf (tk_suf h4)
            simp only [Option.isSome_some, cond_true, Option.getD_some, Option.bind_some, name_s q hq.1]
            cases h5 : nameS q with
            | none => rfl
            | some n =>
              have hn := hq.suf (nameS_suf h5)
              simp only [res_some, Option.bind_some, take_s _ n.2 hn.1]
              cases h6 : tk (⟨#[111, 110]⟩ : ByteArray) n.2 with
              | none => rfl
              | some u =>
                have hu := hn.suf (tk_suf h6)
                simp only [Option.isSome_some, cond_true, Option.getD_some, Option.bind_some, col_s u hu.1]
                cases h7 : colS u with
                | none => rfl
                | some a =>
                  have ha := hu.suf (colS_suf h7)
                  have d0 : (decide (0 ≤ (0 : Int)) && decide ((0 : Int) < (2 : Int))) = true := by decide
                  have d1 : (decide (0 ≤ (1 : Int)) && decide ((1 : Int) < (2 : Int))) = true := by decide
                  simp only [res_some, Option.bind_some, take_s _ a.2 ha.1, d0, cond_true]
                  cases h8 : tk (⟨#[61]⟩ : ByteArray) a.2 with
                  | none => rfl
                  | some e =>
                    have he := ha.suf (tk_suf h8)
                    simp only [Option.isSome_some, cond_true, Option.getD_some, Option.bind_some, col_s e he.1]
                    cases h9 : colS e with
                    | none => rfl
                    | some b => simp only [res_some, Option.bind_some, d1, cond_true, Option.map_some]
        cases h4 : joinS f.2 with
        | none => rfl
        | some j =>
          have hj := hf.suf (joinS_suf h4)
          simp only [Option.bind_some]
          refine (bind_is (match whereS j.2 with | some w => .inl (w.2, y.1, f.1, j.1.1, j.1.2.1, j.1.2.2, false, w.1, [], [], ()) | none => .inr (.inr 70)) ?_).trans ?_
          · simp only [take_s _ j.2 hj.1, Option.bind_some]
            unfold whereS
            cases h5 : tk (⟨#[119, 104, 101, 114, 101]⟩ : ByteArray) j.2 with
            | none => rfl
            | some q =>
              have hq := hj.suf (tk_suf h5)
              simp only [Option.isSome_some, cond_true, Option.getD_some, Option.bind_some, expr_s q hq]
              cases exprS q <;> rfl
          cases h5 : whereS j.2 with
          | none => rfl
          | some w =>
            have hw := hj.suf (whereS_suf h5)
            simp only [Option.bind_some, take_s _ w.2 hw.1]
            cases h6 : tk (⟨#[112, 105, 99, 107]⟩ : ByteArray) w.2 with
            | none => rfl
            | some q =>
              have hq := hw.suf (tk_suf h6)
              simp only [Option.isSome_some, cond_true, Option.getD_some, Option.bind_some]
              refine (bind_is (match pickS q with | some p => .inl (p.2, y.1, f.1, j.1.1, j.1.2.1, j.1.2.2, false, w.1, p.1, [], ()) | none => .inr (.inr 70)) ?_).trans ?_
              · unfold pickS
                cases q with
                | nil => rfl
                | cons t q' =>
                  have d1 : decide (((t :: q').length : Int) > (0 : Int)) = true := by rw [decide_eq_true_eq]; simp only [List.length_cons]; omega
                  simp only [d1, cond_true, is_s _ (t :: q') hq.1, Option.bind_some]
                  cases h7 : tk (⟨#[103, 114, 111, 117, 112]⟩ : ByteArray) (t :: q') with
                  | some u => rfl
                  | none =>
                    rw [if_neg (by simp), sepS_eq]
                    simp only [Option.isSome_none, Bool.not_false, cond_true, col_s (t :: q') hq.1, Option.bind_some]
                    cases h8 : colS (t :: q') with
                    | none => rfl
                    | some a =>
                      have ha := hq.suf (colS_suf h8)
                      have d2 : Nat.ble (([] : List Int).length + [a.1].length) 17592186044416 = true := by rw [Nat.ble_eq]; simp
                      simp only [res_some]
                      rw [d2]
                      simp only [cond_true, Option.bind_some, List.nil_append]
                      refine (comma_loop colS colS_suf (mk := fun n acc l => (n, y.1, f.1, j.1.1, j.1.2.1, j.1.2.2, false, w.1, acc, [], l, ())) (fin := fun acc l => some (.inl (l, y.1, f.1, j.1.1, j.1.2.1, j.1.2.2, false, w.1, acc, [], ()))) (bad := .inr (.inr 70)) ?_ ?_ ?_ ?_ 39 1 rfl [a.1] a.2 (by simp) ha).trans ?_
                      · intro k acc q hk ha hq hn
                        simp only [take_s _ q hq.1, Option.bind_some, hn, Option.isSome_none, cond_false, Option.getD_none, Option.map_some]
                      · intro acc q r hk ha hq
                        simp only [take_s _ q ha.1, Option.bind_some, hq, Option.isSome_some, cond_true]
                        rfl
                      · intro k acc q r hk ha hq hr hx
                        have hq2 := hq.suf (tk_suf hr)
                        have d2 : decide (((k + 1 : Nat) : Int) ≤ (40 : Int)) = true := by simp; omega
                        simp only [take_s _ q hq.1, Option.bind_some, hr, Option.isSome_some, cond_true, Option.getD_some, wrap_s (show k < 40 by omega) (by decide), d2, col_s r hq2.1, hx, res_none]
                      · intro k acc q r x hk ha hq hr hx
                        have hq2 := hq.suf (tk_suf hr)
                        have d2 : decide (((k + 1 : Nat) : Int) ≤ (40 : Int)) = true := by simp; omega
                        have d3 : Nat.ble (acc.length + [x.1].length) 17592186044416 = true := by rw [Nat.ble_eq]; simp; omega
                        simp only [take_s _ q hq.1, Option.bind_some, hr, Option.isSome_some, cond_true, Option.getD_some, wrap_s (show k < 40 by omega) (by decide), d2, col_s r hq2.1, hx, res_some]
                        rw [d3]
                        rfl
                      · cases tailS colS 39 a.2 with
                        | none => rfl
                        | some u => rfl
              cases h7 : pickS q with
              | none => rfl
              | some p =>
                have hp := hq.suf (pickS_suf h7)
                simp only [Option.bind_some, take_s _ p.2 hp.1]
                unfold groupS
                cases h8 : tk (⟨#[103, 114, 111, 117, 112]⟩ : ByteArray) p.2 with
                | none => rfl
                | some g =>
                  have hg := hp.suf (tk_suf h8)
                  simp only [Option.isSome_some, cond_true, Option.getD_some]
                  cases g with
                  | nil => rfl
                  | cons t g' =>
                    have d1 : decide (((t :: g').length : Int) > (0 : Int)) = true := by rw [decide_eq_true_eq]; simp only [List.length_cons]; omega
                    rw [if_neg (by simp), sepS_eq]
                    simp only [d1, cond_true]
                    refine (bind_is (match aggS (t :: g') with | some a => .inl (y.1, f.1, j.1.1, j.1.2.1, j.1.2.2, true, w.1, p.1, [a.1], a.2, ()) | none => .inr (.inr 70)) ?_).trans ?_
                    · simp only [one_s _ (show [(⟨#[99, 111, 117, 110, 116]⟩ : ByteArray), (⟨#[115, 117, 109]⟩ : ByteArray), (⟨#[109, 105, 110]⟩ : ByteArray), (⟨#[109, 97, 120]⟩ : ByteArray)].length < 1000 by decide) (t :: g') hg.1, Option.bind_some, aggS]
                      cases h9 : oneS 0 fns (t :: g') with
                      | none => rfl
                      | some a =>
                        have ha := hg.suf (oneS_suf h9)
                        simp only [res_some, Option.bind_some]
                        by_cases h0 : a.1 = 0
                        · have b0 : (a.1 != (0 : Int)) = false := by simp [h0]
                          simp only [b0, cond_false, h0, if_true]
                          rfl
                        · have b0 : (a.1 != (0 : Int)) = true := by simp [h0]
                          simp only [b0, cond_true, if_neg h0, col_s a.2 ha.1, Option.bind_some]
                          cases colS a.2 <;> rfl
                    cases h9 : aggS (t :: g') with
                    | none => rfl
                    | some a =>
                      have ha := hg.suf (aggS_suf h9)
                      simp only [Option.bind_some]
                      refine (comma_loop aggS aggS_suf (mk := fun n acc l => (n, y.1, f.1, j.1.1, j.1.2.1, j.1.2.2, true, w.1, p.1, acc, l, ())) (fin := fun acc l => some (.inl (y.1, f.1, j.1.1, j.1.2.1, j.1.2.2, true, l, w.1, p.1, acc, ()))) (bad := .inr 70) ?_ ?_ ?_ ?_ 39 1 rfl [a.1] a.2 (by simp) ha).trans ?_
                      · intro k acc q hk ha hq hn
                        simp only [take_s _ q hq.1, Option.bind_some, hn, Option.isSome_none, cond_false, Option.getD_none, Option.map_some]
                      · intro acc q r hk ha hq
                        simp only [take_s _ q ha.1, Option.bind_some, hq, Option.isSome_some, cond_true]
                        rfl
                      · intro k acc q r hk ha hq hr hx
                        have hq2 := hq.suf (tk_suf hr)
                        have d2 : decide (((k + 1 : Nat) : Int) ≤ (40 : Int)) = true := by simp; omega
                        simp only [take_s _ q hq.1, Option.bind_some, hr, Option.isSome_some, cond_true, Option.getD_some, wrap_s (show k < 40 by omega) (by decide), d2, one_s _ (show [(⟨#[99, 111, 117, 110, 116]⟩ : ByteArray), (⟨#[115, 117, 109]⟩ : ByteArray), (⟨#[109, 105, 110]⟩ : ByteArray), (⟨#[109, 97, 120]⟩ : ByteArray)].length < 1000 by decide) r hq2.1]
                        unfold aggS at hx
                        cases h9 : oneS 0 fns r with
                        | none => rfl
                        | some a =>
                          have ha := hq2.suf (oneS_suf h9)
                          rw [h9] at hx
                          simp only [Option.bind_some] at hx
                          simp only [res_some]
                          by_cases h0 : a.1 = 0
                          · rw [if_pos h0] at hx; cases hx
                          · have b0 : (a.1 != (0 : Int)) = true := by simp [h0]
                            rw [if_neg h0] at hx
                            simp only [b0, cond_true, col_s a.2 ha.1, Option.bind_some]
                            cases h10 : colS a.2 with
                            | none => rfl
                            | some z => rw [h10] at hx; cases hx
                      · intro k acc q r x hk ha' hq hr hx
                        have hq2 := hq.suf (tk_suf hr)
                        have d2 : decide (((k + 1 : Nat) : Int) ≤ (40 : Int)) = true := by simp; omega
                        have d3 : ∀ z : Agg, Nat.ble (acc.length + [z].length) 8796093022208 = true := fun z => by rw [Nat.ble_eq]; simp; omega
                        simp only [take_s _ q hq.1, Option.bind_some, hr, Option.isSome_some, cond_true, Option.getD_some, wrap_s (show k < 40 by omega) (by decide), d2, one_s _ (show [(⟨#[99, 111, 117, 110, 116]⟩ : ByteArray), (⟨#[115, 117, 109]⟩ : ByteArray), (⟨#[109, 105, 110]⟩ : ByteArray), (⟨#[109, 97, 120]⟩ : ByteArray)].length < 1000 by decide) r hq2.1]
                        unfold aggS at hx
                        cases h9 : oneS 0 fns r with
                        | none => rw [h9] at hx; cases hx
                        | some a =>
                          have ha := hq2.suf (oneS_suf h9)
                          rw [h9] at hx
                          simp only [Option.bind_some] at hx
                          simp only [res_some]
                          by_cases h0 : a.1 = 0
                          · rw [if_pos h0] at hx; cases hx
                            have b0 : (a.1 != (0 : Int)) = false := by simp [h0]
                            simp only [b0, cond_false]
                            rw [d3]
                            simp only [cond_true, h0]
                          · have b0 : (a.1 != (0 : Int)) = true := by simp [h0]
                            rw [if_neg h0] at hx
                            simp only [b0, cond_true, col_s a.2 ha.1, Option.bind_some]
                            cases h10 : colS a.2 with
                            | none => rw [h10] at hx; cases hx
                            | some z =>
                              rw [h10] at hx; cases hx
                              simp only [res_some]
                              rw [d3]
                              simp only [cond_true]
                      · cases tailS aggS 39 a.2 with
                        | none => rfl
                        | some u => rfl
def flatP (x : Dl.Def × Int) : Int × ByteArray × ByteArray × ByteArray × ByteArray × Int × Int × Bool × Int × (List tColumnT) × (List (List tNodeT)) × (List tNodeT) × (List Int) × (List tAggT) × Unit :=
  (x.1.1, x.1.2.1.1, x.1.2.2.1, x.1.2.2.2.1, x.1.2.2.2.2.1, x.1.2.2.2.2.2.1.1, x.1.2.2.2.2.2.1.2, x.1.2.2.2.2.2.2.2.2.1, x.2, x.1.2.1.2.1, x.1.2.1.2.2, x.1.2.2.2.2.2.2.1, x.1.2.2.2.2.2.2.2.1, x.1.2.2.2.2.2.2.2.2.2, ())
theorem lenT_ge (x : List Tok) : x.length ≤ lenT x := by
  induction x with
  | nil => simp
  | cons t x ih => simp only [lenT, List.map_cons, List.sum_cons, List.length_cons] at ih ⊢; omega
theorem tok_size {t : Tok} (h : TokOk t) : t.2.1.size ≤ 30 := by
  cases h with
  | @word w h =>
    show (bs w).size ≤ 30
    rw [bs_size]
    cases w with
    | nil => simp
    | cons c w => simp only [isWordL, Bool.and_eq_true, decide_eq_true_eq] at h; exact h.2
  | @sign c h => show (bs [c]).size ≤ 30; rw [bs_size]; simp
  | num _ _ => show e0.size ≤ 30; decide
  | text _ => show e0.size ≤ 30; decide
theorem lex_sm {s : List UInt8} (hs : s.length ≤ 20000) {l : List Tok} (h : lexS s = some l) : TokSm l := by
  obtain ⟨h1, h2⟩ := lexS_ok _ s (Nat.le_refl _) l h
  have := lenT_ge l
  exact ⟨by omega, fun t ht => by have := tok_size (h1 t ht); omega⟩
theorem len0 {α : Type} (l : List α) : ((l.length : Int) == (0 : Int)) = decide (l = []) := by
  cases l with
  | nil => rfl
  | cons a l => simp; omega
theorem Parse_s (s : ByteArray) : ddl_Parse.F (s, ()) = some (flatP (readS s.data.toList)) := by
  rw [ddl_Parse.eq]
  unfold ddl_Parse.B
  simp only [lex_s, Option.bind_some, readS]
  have hsz : s.data.toList.length = s.size := rfl
  rw [hsz]
  by_cases hb : 20000 < s.size
  · rw [if_pos hb, if_pos hb]; rfl
  · rw [if_neg hb, if_neg hb]
    cases h1 : lexS s.data.toList with
    | none => rfl
    | some l =>
      have hl := lex_sm (s := s.data.toList) (by rw [hsz]; omega) h1
      simp only [lexR, List.nil_append, one_s _ (show [(⟨#[116, 97, 98, 108, 101]⟩ : ByteArray), (⟨#[118, 105, 101, 119]⟩ : ByteArray)].length < 1000 by decide) l hl.1, parseS, defS]
      cases h2 : oneS 0 [(⟨#[116, 97, 98, 108, 101]⟩ : ByteArray), (⟨#[118, 105, 101, 119]⟩ : ByteArray)] l with
      | none => rfl
      | some y =>
        have hy := hl.suf (oneS_suf h2)
        simp only [res_some, Option.bind_some, need_s, len0]
        by_cases h0 : y.1 = 0
        · have b0 : (y.1 == (0 : Int)) = true := by simp [h0]
          simp only [b0, cond_true, if_pos h0, table_s y.2 hy, Option.bind_some, bne_self_eq_false]
          cases h3 : tableS y.2 with
          | none => rfl
          | some z =>
            simp only [res_some, Option.map_some, Option.bind_some]
            by_cases h4 : z.2 = []
            · simp only [h4, decide_true, cond_true, if_true, h0]; rfl
            · simp only [h4, decide_false, cond_false, if_false]; rfl
        · have b0 : (y.1 == (0 : Int)) = false := by simp [h0]
          simp only [b0, cond_false, if_neg h0, view_s y.2 hy, Option.bind_some, bne_self_eq_false]
          cases h3 : viewS y.2 with
          | none => rfl
          | some z =>
            simp only [res_some, Option.map_some, Option.bind_some]
            by_cases h4 : z.2 = []
            · simp only [h4, decide_true, cond_true, if_true]; rfl
            · simp only [h4, decide_false, cond_false, if_false]; rfl
end Go.Proofs.Ytnogebfcpicghaa
