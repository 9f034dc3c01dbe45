import Derived.Test.YtnogebfcpicghaaGreatDoorL2
set_option linter.all false
set_option linter.unusedVariables false
set_option linter.unusedSimpArgs false
set_option linter.unusedSectionVars false
namespace Go.Proofs.Ytnogebfcpicghaa
open Go Lv Go.Proofs Go.RowKit Go.Shelf Dl
abbrev TokSm (l : List Tok) : Prop := l.length ≤ 100000000 ∧ ∀ t ∈ l, t.2.1.size ≤ 100000000
theorem opKV_eq (b : ByteArray) : getKV b (putKV (⟨#[110, 111, 116]⟩ : ByteArray) (9 : Int) (putKV (⟨#[111, 114]⟩ : ByteArray) (8 : Int) (putKV (⟨#[97, 110, 100]⟩ : ByteArray) (7 : Int) (putKV (⟨#[60]⟩ : ByteArray) (6 : Int) (putKV (⟨#[61]⟩ : ByteArray) (5 : Int) (putKV (⟨#[42]⟩ : ByteArray) (4 : Int) (putKV (⟨#[45]⟩ : ByteArray) (3 : Int) (putKV (⟨#[43]⟩ : ByteArray) (2 : Int) ([] : List (ByteArray × Int)))))))))) = opOf b := by
  simp only [opOf, getKV_put, getKV_nil]
theorem coKV_eq (b : ByteArray) : getKV b (putKV (⟨#[116, 114, 117, 101]⟩ : ByteArray) ((1 : Int), ((1 : Int), (⟨#[]⟩ : ByteArray))) (putKV (⟨#[102, 97, 108, 115, 101]⟩ : ByteArray) ((1 : Int), ((0 : Int), (⟨#[]⟩ : ByteArray))) (putKV (⟨#[110, 117, 108, 108]⟩ : ByteArray) ((0 : Int), ((0 : Int), (⟨#[]⟩ : ByteArray))) ([] : List (ByteArray × tValueT))))) = constOf b := by
  simp only [constOf, getKV_put, getKV_nil]
theorem step_s (l : List Tok) (hl : TokSm l) : ddl_parser_step.F (l, ()) = some (res (fun x r => (x.1, x.2.1, x.2.2.1, x.2.2.2.1, x.2.2.2.2, r, ())) (stepS l)) := by
  rw [ddl_parser_step.eq]
  unfold ddl_parser_step.B
  simp only [agreeL_one, agreeL_two, agreeL_three, take_go [(⟨#[110, 117, 108, 108]⟩ : ByteArray), (⟨#[63]⟩ : ByteArray)] (by decide) l hl.1, Option.bind_some, stepS]
  cases h : tkL [(⟨#[110, 117, 108, 108]⟩ : ByteArray), (⟨#[63]⟩ : ByteArray)] l with
  | some r => rfl
  | none =>
    simp only [Option.isSome_none, cond_false, Option.getD_none]
    cases l with
    | nil => simp only [next_nil]; rfl
    | cons t l =>
      simp only [next_cons t l hl.1, Option.bind_some]
      by_cases h1 : t.1 = 1
      · have b1 : (t.1 == (1 : Int)) = true := by simp [h1]
        simp only [b1, cond_true, h1, if_true]
        rfl
      · have b1 : (t.1 == (1 : Int)) = false := by simp [h1]
        simp only [b1, cond_false, if_neg h1]
        simp only [opKV_eq, coKV_eq]
        cases ho : opOf t.2.1 with
        | some op => rfl
        | none =>
          simp only [Option.isSome_none, cond_false]
          cases hc : constOf t.2.1 with
          | some v => rfl
          | none =>
            simp only [Option.isSome_none, cond_false]
            obtain ⟨n, e1, e2⟩ := column_s t.2.1.data.toList (hl.2 t (by simp))
            rw [bs_data] at e1
            simp only [e1, Option.bind_some, need_s]
            cases hp : colP t.2.1.data.toList with
            | none => rfl
            | some m =>
              rw [e2 m hp]
              rfl
theorem TokSm.tail {t : Tok} {l : List Tok} (h : TokSm (t :: l)) : TokSm l := ⟨by have := h.1; simp at this; omega, fun x hx => h.2 x (List.mem_cons_of_mem _ hx)⟩
theorem TokSm.suf {l r : List Tok} (h : TokSm l) (hs : r <:+ l) : TokSm r := ⟨Nat.le_trans hs.length_le h.1, fun x hx => h.2 x (hs.subset hx)⟩
theorem tk_suf {s : ByteArray} {l r : List Tok} (h : tk s l = some r) : r <:+ l := by
  cases l with
  | nil => cases h
  | cons t l =>
    simp only [tk] at h
    split at h
    · cases h; exact List.suffix_cons _ _
    · cases h
theorem tkL_suf : ∀ {ws : List ByteArray} {l r : List Tok}, tkL ws l = some r → r <:+ l := by
  intro ws l r h
  rw [(tkL_len ws l r h).1]
  exact List.drop_suffix _ _
theorem oneS_suf : ∀ {ws : List ByteArray} {i : Int} {l : List Tok} {x}, oneS i ws l = some x → x.2 <:+ l := by
  intro ws
  induction ws with
  | nil => intro i l x h; cases h
  | cons w ws ih =>
    intro i l x h
    simp only [oneS] at h
    split at h
    · rename_i r hr; cases h; exact tk_suf hr
    · exact ih h
theorem nameS_suf {l : List Tok} {x} (h : nameS l = some x) : x.2 <:+ l := by
  cases l with
  | nil => cases h
  | cons t l =>
    simp only [nameS] at h
    split at h
    · cases h; exact List.suffix_cons _ _
    · cases h
theorem colS_suf {l : List Tok} {x} (h : colS l = some x) : x.2 <:+ l := by
  cases l with
  | nil => cases h
  | cons t l =>
    simp only [colS] at h
    split at h
    · cases h; exact List.suffix_cons _ _
    · cases h
theorem stepS_suf {l : List Tok} {x} (h : stepS l = some x) : x.2 <:+ l := by
  simp only [stepS] at h
  split at h
  · rename_i r hr; cases h; exact tkL_suf hr
  · cases l with
    | nil => cases h
    | cons t l =>
      simp only at h
      split at h
      · cases h; exact List.suffix_cons _ _
      · split at h
        · cases h; exact List.suffix_cons _ _
        · split at h
          · cases h; exact List.suffix_cons _ _
          · simp only [Option.map_eq_some_iff] at h
            obtain ⟨n, _, rfl⟩ := h
            exact List.suffix_cons _ _
theorem stepsS_eq (n : Nat) (l : List Tok) : stepsS n l = match tk (⟨#[93]⟩ : ByteArray) l with
    | some r => some ([], r)
    | none => match n with
      | 0 => none
      | n + 1 => (stepS l).bind fun x => (stepsS n x.2).map fun y => (x.1 :: y.1, y.2) := by rw [stepsS.eq_def]; cases n <;> rfl
theorem stepsS_suf : ∀ {n : Nat} {l : List Tok} {x}, stepsS n l = some x → x.2 <:+ l := by
  intro n
  induction n with
  | zero =>
    intro l x h
    rw [stepsS_eq] at h
    split at h
    · rename_i r hr; cases h; exact tk_suf hr
    · cases h
  | succ n ih =>
    intro l x h
    rw [stepsS_eq] at h
    split at h
    · rename_i r hr; cases h; exact tk_suf hr
    · simp only [Option.bind_eq_some_iff, Option.map_eq_some_iff] at h
      obtain ⟨y, hy, z, hz, rfl⟩ := h
      exact (ih hz).trans (stepS_suf hy)
theorem exprS_suf {l : List Tok} {x} (h : exprS l = some x) : x.2 <:+ l := by
  simp only [exprS, Option.bind_eq_some_iff] at h
  obtain ⟨r, hr, h⟩ := h
  exact (stepsS_suf h).trans (tk_suf hr)
theorem expr_s (l : List Tok) (hl : TokSm l) : ddl_parser_expr.F (l, ()) = some (res (fun x r => (r, x, ())) (exprS l)) := by
  rw [ddl_parser_expr.eq]
  unfold ddl_parser_expr.B
  simp only [take_s _ l hl.1, Option.bind_some, need_s, exprS]
  cases h : tk (⟨#[91]⟩ : ByteArray) l with
  | none => rfl
  | some r =>
    simp only [Option.isSome_some, cond_true, Option.getD_some, Option.bind_some]
    have hr := hl.suf (tk_suf h)
    rw [loop_f (S := (List tNodeT) × (List tTokT) × Unit) (m := fun x => 200 - x.1.length) (I := fun x => x.1.length ≤ 100 ∧ TokSm x.2.1)
      (f := fun x => match stepsS (100 - x.1.length) x.2.1 with | some y => .inl (y.2, x.1 ++ y.1, ()) | none => .inr 70) ?_ _ ⟨by simp, hr⟩]
    · cases stepsS 100 r <;> rfl
    · rintro ⟨out, q, ⟨⟩⟩ ⟨ho, hq⟩
      simp only at ho hq
      simp only [take_s _ q hq.1, Option.bind_some]
      cases h1 : tk (⟨#[93]⟩ : ByteArray) q with
      | some r1 =>
        right
        simp only [Option.isSome_some, Bool.not_true, cond_false, Option.getD_some]
        rw [stepsS_eq, h1]
        simp
      | none =>
        simp only [Option.isSome_none, Bool.not_false, cond_true, Option.getD_none, step_s q hq]
        rw [stepsS_eq, h1]
        cases h2 : stepS q with
        | none =>
          right
          simp only [res_none, Option.bind_some]
          cases h3 : 100 - out.length with
          | zero => rfl
          | succ n => rfl
        | some x =>
          have d1 : Nat.ble (out.length + [(x.1.1, (x.1.2.1, (x.1.2.2.1, (x.1.2.2.2.1, x.1.2.2.2.2))))].length) 2932031007402 = true := by rw [Nat.ble_eq]; simp; omega
          simp only [res_some, Option.bind_some]
          rw [d1]
          simp only [cond_true, need_s, Option.bind_some]
          cases h3 : 100 - out.length with
          | zero =>
            right
            have : decide (((out ++ [(x.1.1, (x.1.2.1, (x.1.2.2.1, (x.1.2.2.2.1, x.1.2.2.2.2))))]).length : Int) ≤ (100 : Int)) = false := by simp; omega
            simp only [this, cond_false]
          | succ n =>
            left
            have : decide (((out ++ [(x.1.1, (x.1.2.1, (x.1.2.2.1, (x.1.2.2.2.1, x.1.2.2.2.2))))]).length : Int) ≤ (100 : Int)) = true := by simp; omega
            simp only [this, cond_true]
            refine ⟨_, rfl, ⟨by simp; omega, hq.suf (stepS_suf h2)⟩, by simp; omega, ?_⟩
            simp only [List.length_append, List.length_singleton]
            rw [show 100 - (out.length + 1) = n by omega]
            cases stepsS n x.2 <;> simp
theorem flag_suf (s : ByteArray) (l : List Tok) : (flag s l).2 <:+ l := by
  unfold flag
  cases h : tk s l with
  | none => exact List.suffix_refl _
  | some r => exact tk_suf h
theorem refS_suf {l : List Tok} {x} (h : refS l = some x) : x.2 <:+ l := by
  unfold refS at h
  split at h
  · cases h; exact List.suffix_refl _
  · rename_i r hr
    simp only [Option.bind_eq_some_iff, Option.map_eq_some_iff] at h
    obtain ⟨y, hy, z, hz, rfl⟩ := h
    exact ((oneS_suf hz).trans (nameS_suf hy)).trans (tk_suf hr)
theorem columnS_suf {l : List Tok} {x} (h : columnS l = some x) : x.2 <:+ l := by
  simp only [columnS, Option.bind_eq_some_iff, Option.map_eq_some_iff] at h
  obtain ⟨y, hy, z, hz, u, hu, rfl⟩ := h
  exact ((((refS_suf hu).trans (flag_suf _ _)).trans (flag_suf _ _)).trans (oneS_suf hz)).trans (nameS_suf hy)
theorem oneS_le : ∀ {ws : List ByteArray} {i : Int} {l : List Tok} {x}, oneS i ws l = some x → i ≤ x.1 ∧ x.1 < i + ws.length := by
  intro ws
  induction ws with
  | nil => intro i l x h; cases h
  | cons w ws ih =>
    intro i l x h
    simp only [oneS] at h
    split at h
    · cases h; simp; omega
    · have := ih h
      simp; omega
theorem flag_eq (s : ByteArray) (l : List Tok) : ((tk s l).isSome, (tk s l).getD l, ()) = ((flag s l).1, (flag s l).2, ()) := by
  unfold flag
  cases tk s l <;> rfl
theorem flag_none {s : ByteArray} {l : List Tok} (h : tk s l = none) : flag s l = (false, l) := by unfold flag; rw [h]
theorem flag_some {s : ByteArray} {l r : List Tok} (h : tk s l = some r) : flag s l = (true, r) := by unfold flag; rw [h]
theorem columnOf_s (l : List Tok) (hl : TokSm l) : ddl_parser_columnOf.F (l, ()) = some (res (fun x r => (x.1, x.2.1, x.2.2.1, x.2.2.2.1, x.2.2.2.2.1, x.2.2.2.2.2, r, ())) (columnS l)) := by
  rw [ddl_parser_columnOf.eq]
  unfold ddl_parser_columnOf.B
  simp only [name_s l hl.1, Option.bind_some, columnS]
  cases h1 : nameS l with
  | none => rfl
  | some y =>
    have hy := hl.suf (nameS_suf h1)
    simp only [res_some, Option.bind_some, one_s _ (show [(⟨#[98, 111, 111, 108]⟩ : ByteArray), (⟨#[105, 110, 116]⟩ : ByteArray), (⟨#[116, 101, 120, 116]⟩ : ByteArray)].length < 1000 by decide) y.2 hy.1]
    cases h2 : oneS 0 kinds y.2 with
    | none => rfl
    | some z =>
      have hz := hy.suf (oneS_suf h2)
      have hb := oneS_le h2
      have hb2 : z.1 < 0 + 3 := hb.2
      have hw : IntKind.i64.wrap ((1 : Int) + z.1) = 1 + z.1 := by rw [i64_wrap] <;> omega
      have hu := hz.suf (flag_suf (⟨#[110, 117, 108, 108]⟩ : ByteArray) z.2)
      have hv := hu.suf (flag_suf (⟨#[117, 110, 105, 113, 117, 101]⟩ : ByteArray) (flag (⟨#[110, 117, 108, 108]⟩ : ByteArray) z.2).2)
      simp only [res_some, hw, take_s _ z.2 hz.1, flag_eq, Option.bind_some, take_s _ _ hu.1, take_s _ _ hv.1]
      unfold refS
      cases h3 : tk (⟨#[114, 101, 102]⟩ : ByteArray) (flag (⟨#[117, 110, 105, 113, 117, 101]⟩ : ByteArray) (flag (⟨#[110, 117, 108, 108]⟩ : ByteArray) z.2).2).2 with
      | none =>
        have hf : flag (⟨#[114, 101, 102]⟩ : ByteArray) (flag (⟨#[117, 110, 105, 113, 117, 101]⟩ : ByteArray) (flag (⟨#[110, 117, 108, 108]⟩ : ByteArray) z.2).2).2 = (false, (flag (⟨#[117, 110, 105, 113, 117, 101]⟩ : ByteArray) (flag (⟨#[110, 117, 108, 108]⟩ : ByteArray) z.2).2).2) := by
          exact flag_none h3
        simp only [hf]
        rfl
      | some r =>
        have hr := hv.suf (tk_suf h3)
        have hf : flag (⟨#[114, 101, 102]⟩ : ByteArray) (flag (⟨#[117, 110, 105, 113, 117, 101]⟩ : ByteArray) (flag (⟨#[110, 117, 108, 108]⟩ : ByteArray) z.2).2).2 = (true, r) := by
          exact flag_some h3
        simp only [hf, cond_true, name_s r hr.1, Option.bind_some]
        cases h4 : nameS r with
        | none => rfl
        | some a =>
          have ha := hr.suf (nameS_suf h4)
          simp only [res_some, one_s _ (show [(⟨#[114, 101, 115, 116, 114, 105, 99, 116]⟩ : ByteArray), (⟨#[99, 97, 115, 99, 97, 100, 101]⟩ : ByteArray), (⟨#[115, 101, 116, 110, 117, 108, 108]⟩ : ByteArray)].length < 1000 by decide) a.2 ha.1, Option.bind_some]
          cases oneS 0 acts a.2 <;> rfl
/-- behind the first one: what is parted by commas -/
def tailS {α : Type} (p : List Tok → Option (α × List Tok)) (n : Nat) (l : List Tok) : Option (List α × List Tok) := match tk (⟨#[44]⟩ : ByteArray) l with
  | none => some ([], l)
  | some r => match n with
    | 0 => none
    | n + 1 => sepS p n r
theorem sepS_eq {α : Type} (p : List Tok → Option (α × List Tok)) (n : Nat) (l : List Tok) : sepS p n l = (p l).bind fun x => (tailS p n x.2).map fun y => (x.1 :: y.1, y.2) := by
  cases n with
  | zero =>
    rw [sepS]
    cases p l with
    | none => rfl
    | some x => simp only [Option.bind_some, tailS]; cases tk (⟨#[44]⟩ : ByteArray) x.2 <;> rfl
  | succ n =>
    rw [sepS]
    cases p l with
    | none => rfl
    | some x => simp only [Option.bind_some, tailS]; cases tk (⟨#[44]⟩ : ByteArray) x.2 <;> rfl
theorem sepS_suf {α : Type} {p : List Tok → Option (α × List Tok)} (hp : ∀ {l x}, p l = some x → x.2 <:+ l) : ∀ {n : Nat} {l : List Tok} {x}, sepS p n l = some x → x.2 <:+ l := by
  intro n
  induction n with
  | zero =>
    intro l x h
    rw [sepS] at h
    simp only [Option.bind_eq_some_iff] at h
    obtain ⟨y, hy, h⟩ := h
    split at h
    · cases h; exact hp hy
    · cases h
  | succ n ih =>
    intro l x h
    rw [sepS] at h
    simp only [Option.bind_eq_some_iff] at h
    obtain ⟨y, hy, h⟩ := h
    split at h
    · cases h; exact hp hy
    · rename_i r hr
      simp only [Option.map_eq_some_iff] at h
      obtain ⟨z, hz, rfl⟩ := h
      exact ((ih hz).trans (tk_suf hr)).trans (hp hy)
theorem tailS_suf {α : Type} {p : List Tok → Option (α × List Tok)} (hp : ∀ {l x}, p l = some x → x.2 <:+ l) {n : Nat} {l : List Tok} {x} (h : tailS p n l = some x) : x.2 <:+ l := by
  unfold tailS at h
  split at h
  · cases h; exact List.suffix_refl _
  · rename_i r hr
    cases n with
    | zero => cases h
    | succ n => exact (sepS_suf hp h).trans (tk_suf hr)
/-- the loop over commas -/
theorem comma_loop {α S R : Type} {body : S → Option (S ⊕ R)} (p : List Tok → Option (α × List Tok)) (hp : ∀ {l x}, p l = some x → x.2 <:+ l) (mk : Int → List α → List Tok → S) (fin : List α → List Tok → Option R) (bad : R)
    (h0 : ∀ (k : Nat) acc l, k ≤ 40 → acc.length ≤ k → TokSm l → tk (⟨#[44]⟩ : ByteArray) l = none → body (mk k acc l) = Option.map Sum.inr (fin acc l))
    (h1 : ∀ acc l r, acc.length ≤ 40 → TokSm l → tk (⟨#[44]⟩ : ByteArray) l = some r → body (mk 40 acc l) = some (.inr bad))
    (h2 : ∀ (k : Nat) acc l r, k < 40 → acc.length ≤ k → TokSm l → tk (⟨#[44]⟩ : ByteArray) l = some r → p r = none → body (mk k acc l) = some (.inr bad))
    (h3 : ∀ (k : Nat) acc l r x, k < 40 → acc.length ≤ k → TokSm l → tk (⟨#[44]⟩ : ByteArray) l = some r → p r = some x → body (mk k acc l) = some (.inl (mk (k + 1 : Nat) (acc ++ [x.1]) x.2))) :
    ∀ (n k : Nat), n + k = 40 → ∀ acc l, acc.length ≤ k → TokSm l → loopM body (mk k acc l) = match tailS p n l with
      | some y => fin (acc ++ y.1) y.2
      | none => some bad := by
  intro n
  induction n with
  | zero =>
    intro k hk acc l ha hl
    have : k = 40 := by omega
    subst this
    rw [loopM_q]
    unfold tailS
    cases h : tk (⟨#[44]⟩ : ByteArray) l with
    | none =>
      rw [h0 40 acc l (by omega) ha hl h]
      simp only [List.append_nil]
      cases fin acc l <;> rfl
    | some r =>
      have := h1 acc l r ha hl h
      rw [show ((40 : Nat) : Int) = 40 from rfl, this]
  | succ n ih =>
    intro k hk acc l ha hl
    rw [loopM_q]
    unfold tailS
    cases h : tk (⟨#[44]⟩ : ByteArray) l with
    | none =>
      rw [h0 k acc l (by omega) ha hl h]
      simp only [List.append_nil]
      cases fin acc l <;> rfl
    | some r =>
      simp only
      rw [sepS_eq]
      cases hx : p r with
      | none => rw [h2 k acc l r (by omega) ha hl h hx]; rfl
      | some x =>
        rw [h3 k acc l r x (by omega) ha hl h hx]
        simp only [Option.bind_some]
        rw [ih (k + 1) (by omega) _ _ (by simp; omega) (hl.suf ((hp hx).trans (tk_suf h)))]
        cases tailS p n x.2 with
        | none => rfl
        | some y => simp
theorem checksS_eq (n : Nat) (l : List Tok) : checksS n l = match tk (⟨#[99, 104, 101, 99, 107]⟩ : ByteArray) l with
    | none => some ([], l)
    | some r => match n with
      | 0 => none
      | n + 1 => (exprS r).bind fun x => (checksS n x.2).map fun y => (x.1 :: y.1, y.2) := by rw [checksS.eq_def]; cases n <;> rfl
theorem checksS_suf : ∀ {n : Nat} {l : List Tok} {x}, checksS n l = some x → x.2 <:+ l := by
  intro n
  induction n with
  | zero =>
    intro l x h
    rw [checksS_eq] at h
    split at h
    · cases h; exact List.suffix_refl _
    · cases h
  | succ n ih =>
    intro l x h
    rw [checksS_eq] at h
    split at h
    · cases h; exact List.suffix_refl _
    · rename_i r hr
      simp only [Option.bind_eq_some_iff, Option.map_eq_some_iff] at h
      obtain ⟨y, hy, z, hz, rfl⟩ := h
      exact ((ih hz).trans (exprS_suf hy)).trans (tk_suf hr)
theorem table_s (l : List Tok) (hl : TokSm l) : ddl_parser_table.F (l, ()) = some (res (fun x r => (x.1, r, x.2.1, x.2.2, ())) (tableS l)) := by
  rw [ddl_parser_table.eq]
  unfold ddl_parser_table.B
  simp only [agreeL_one, agreeL_two, agreeL_three, name_s l hl.1, Option.bind_some, tableS]
  cases h1 : nameS l with
  | none => rfl
  | some y =>
    have hy := hl.suf (nameS_suf h1)
    simp only [res_some, Option.bind_some, take_s _ y.2 hy.1, need_s]
    cases h2 : tk (⟨#[40]⟩ : ByteArray) y.2 with
    | none => rfl
    | some r =>
      have hr := hy.suf (tk_suf h2)
      simp only [Option.isSome_some, cond_true, Option.getD_some, Option.bind_some, columnOf_s r hr]
      rw [sepS_eq]
      cases h3 : columnS r with
      | none => rfl
      | some c =>
        have hc := hr.suf (columnS_suf h3)
        have d1 : Nat.ble [(c.1.1, (c.1.2.1, (c.1.2.2.1, (c.1.2.2.2.1, (c.1.2.2.2.2.1, c.1.2.2.2.2.2)))))].length 2513169434916 = true := by rw [Nat.ble_eq]; simp
        simp only [res_some, Option.bind_some]
        rw [d1]
        simp only [cond_true, Option.bind_some]
        refine (comma_loop columnS columnS_suf (mk := fun n acc l => (n, y.1, acc, [], l, ())) (fin := fun acc l => some (res (fun x r => (y.1, r, acc, x, ())) ((tk (⟨#[41]⟩ : ByteArray) l).bind fun l => checksS 40 l))) (bad := .inr 70) ?_ ?_ ?_ ?_ 39 1 rfl [c.1] c.2 (by simp) hc).trans ?_
        · intro k acc q hk ha hq hn
          simp only [take_s _ q hq.1, Option.bind_some, hn, Option.isSome_none, cond_false, Option.getD_none]
          cases h5 : tk (⟨#[41]⟩ : ByteArray) q with
          | none => rfl
          | some v =>
            have hv := hq.suf (tk_suf h5)
            simp only [Option.isSome_some, cond_true, Option.getD_some, Option.bind_some]
            rw [loop_f (S := (List tTokT) × ByteArray × (List tColumnT) × (List (List tNodeT)) × Unit) (m := fun x => 200 - x.2.2.2.1.length) (I := fun x => x.2.1 = y.1 ∧ x.2.2.1 = acc ∧ x.2.2.2.1.length ≤ 40 ∧ TokSm x.1)
              (f := fun x => match checksS (40 - x.2.2.2.1.length) x.1 with | some z => .inl (z.2, y.1, acc, x.2.2.2.1 ++ z.1, ()) | none => .inr (.inr 70)) ?_ _ ⟨rfl, rfl, by simp, hv⟩]
            · simp only [List.length_nil, Option.bind_some]
              cases checksS 40 v <;> rfl
            · rintro ⟨q', n', c', out, ⟨⟩⟩ ⟨hn', hc', ho, hq'⟩
              simp only at hn' hc' ho hq'
              subst hn'
              subst hc'
              simp only [take_s _ q' hq'.1, Option.bind_some]
              rw [checksS_eq]
              cases h6 : tk (⟨#[99, 104, 101, 99, 107]⟩ : ByteArray) q' with
              | none =>
                right
                simp
              | some r' =>
                have hr' := hq'.suf (tk_suf h6)
                simp only [Option.isSome_some, cond_true, Option.getD_some, expr_s r' hr', Option.bind_some]
                cases h7 : exprS r' with
                | none =>
                  right
                  simp only [res_none, Option.bind_some]
                  cases h3 : 40 - out.length with
                  | zero => rfl
                  | succ n => rfl
                | some e =>
                  have d2 : Nat.ble (out.length + [e.1].length) 5864062014805 = true := by rw [Nat.ble_eq]; simp; omega
                  simp only [res_some]
                  rw [d2]
                  simp only [cond_true, Option.bind_some]
                  cases h3 : 40 - out.length with
                  | zero =>
                    right
                    have : decide (((out ++ [e.1]).length : Int) ≤ (40 : Int)) = false := by simp; omega
                    simp only [this, cond_false]
                  | succ n =>
                    left
                    have : decide (((out ++ [e.1]).length : Int) ≤ (40 : Int)) = true := by simp; omega
                    simp only [this, cond_true]
                    refine ⟨_, rfl, ⟨rfl, rfl, by simp; omega, hr'.suf (exprS_suf h7)⟩, by simp; omega, ?_⟩
                    simp only [List.length_append, List.length_singleton]
                    rw [show 40 - (out.length + 1) = n by omega]
                    cases checksS n e.2 <;> simp
        · intro acc q r hk ha hq
          simp only [take_s _ q ha.1, Option.bind_some, hq, Option.isSome_some, cond_true]
          rfl
        · intro k acc q r hk ha hq hr hx
          have hq2 := hq.suf (tk_suf hr)
          have d2 : decide (((k + 1 : Nat) : Int) ≤ (40 : Int)) = true := by simp; omega
          simp only [take_s _ q hq.1, Option.bind_some, hr, Option.isSome_some, cond_true, Option.getD_some, wrap_s (show k < 40 by omega) (by decide), d2, columnOf_s r hq2, hx, res_none]
        · intro k acc q r x hk ha hq hr hx
          have hq2 := hq.suf (tk_suf hr)
          have d2 : decide (((k + 1 : Nat) : Int) ≤ (40 : Int)) = true := by simp; omega
          have d3 : Nat.ble (acc.length + [(x.1.1, (x.1.2.1, (x.1.2.2.1, (x.1.2.2.2.1, (x.1.2.2.2.2.1, x.1.2.2.2.2.2)))))].length) 2513169434916 = true := by rw [Nat.ble_eq]; simp; omega
          simp only [take_s _ q hq.1, Option.bind_some, hr, Option.isSome_some, cond_true, Option.getD_some, wrap_s (show k < 40 by omega) (by decide), d2, columnOf_s r hq2, hx, res_some]
          rw [d3]
          rfl
        · cases tailS columnS 39 c.2 with
          | none => rfl
          | some u =>
            simp only [Option.map_some, Option.bind_some, List.cons_append, List.nil_append]
            cases tk (⟨#[41]⟩ : ByteArray) u.2 with
            | none => rfl
            | some v => simp only [Option.bind_some]; cases checksS 40 v <;> rfl
end Go.Proofs.Ytnogebfcpicghaa
