import Derived.Test.YtnogebfcpicghaaGreatDoorL11
set_option linter.all false
set_option linter.unusedVariables false
set_option linter.unusedSimpArgs false
set_option linter.unusedSectionVars false
set_option maxRecDepth 100000
namespace Go.Proofs.Ytnogebfcpicghaa
open Go Lv Go.Proofs Go.RowKit Go.Shelf Dl
theorem len_of {t b n : Nat} (hb : PP.bytesOf t = b) (h0 : 0 < b) (h : n * PP.bytesOf t ≤ reachBytes) : n < 1000000000000000 := by
  rw [hb] at h
  have : n * 1 ≤ n * b := Nat.mul_le_mul_left n h0
  unfold reachBytes at h
  omega
theorem i64_in {n : Int} (h : (Lit.int .i64 n).wf = true) : I64 n := by
  simp only [Lit.wf, Bool.and_eq_true, decide_eq_true_eq] at h
  have hm : IntKind.i64.min = -9223372036854775808 := by decide
  have hM : IntKind.i64.max = 9223372036854775807 := by decide
  constructor <;> omega
theorem in_ln {d : Dl.Def} (h : In PP tDef d) : DLn d := by
  simp only [In] at h
  obtain ⟨h1, ⟨h2, ⟨h3, _⟩, h4, h4'⟩, h5, h6, h7, h8, ⟨h9, _⟩, ⟨h10, _⟩, _, h12, _⟩ := h
  exact ⟨len_of (b := 56) (by kernel_rfl) (by decide) h3, len_of (b := 24) (by kernel_rfl) (by decide) h4, fun e he => len_of (b := 48) (by kernel_rfl) (by decide) (h4' e he).1, len_of (b := 48) (by kernel_rfl) (by decide) h9, len_of (b := 8) (by kernel_rfl) (by decide) h10, len_of (b := 16) (by kernel_rfl) (by decide) h12⟩
theorem big3_len {e : List tNodeT} (h : big3 e = false) : e.length ≤ 120 := by
  simp only [big3, Bool.or_eq_false_iff, decide_eq_false_iff_not] at h
  omega
theorem in_fit {d : Dl.Def} (h : In PP tDef d) (hs : Sm d) : Fit d := by
  simp only [In] at h
  obtain ⟨h1, ⟨h2, ⟨h3, h3'⟩, h4, h4'⟩, h5, h6, h7, h8, ⟨h9, h9'⟩, ⟨h10, h10'⟩, _, h12, h12'⟩ := h
  have ef : ∀ e : List tNodeT, big3 e = false → (∀ x ∈ e, (Lit.int .i64 x.1).wf = true ∧ (Lit.int .i64 x.2.1).wf = true ∧ (Lit.int .i64 x.2.2.1).wf = true ∧ (Lit.int .i64 x.2.2.2.1).wf = true ∧ x.2.2.2.2.size ≤ reachBytes) → EFit e := fun e hb hx =>
    ⟨big3_len hb, fun x hm => ⟨i64_in (hx x hm).1, i64_in (hx x hm).2.1, i64_in (hx x hm).2.2.2.1⟩⟩
  exact ⟨hs.cols, hs.checks, hs.pick, hs.aggs, fun e he => ef e (hs.each e he) (h4' e he).2, ef _ hs.whr h9', fun c hc => ⟨(hs.names c hc).1, (hs.names c hc).2, i64_in (h3' c hc).2.1⟩, hs.n1, hs.n2, hs.n3, hs.n4, i64_in h8.1, i64_in h8.2, fun n hn => i64_in (h10' n hn), fun a ha => i64_in (h12' a ha).2⟩
theorem pure4 (x : ArgT [(tDef, true), (.str, false)]) (h : argIn PP _ x) : L07_DdlBack.F (argX 0 _ x) = some (true, ()) := by
  obtain ⟨d, s, u⟩ := x
  obtain ⟨hd, _⟩ := h
  exact back_law d.1 d.2.1.1 d.2.1.2.1 d.2.1.2.2 d.2.2.1 d.2.2.2.1 d.2.2.2.2.1 d.2.2.2.2.2.1.1 d.2.2.2.2.2.1.2 d.2.2.2.2.2.2.1 d.2.2.2.2.2.2.2.1 d.2.2.2.2.2.2.2.2.1 d.2.2.2.2.2.2.2.2.2 s (in_ln hd) (in_fit hd)
theorem pure5 (x : ArgT [(.str, false), (.int .i64, false)]) (h : argIn PP _ x) : L07_DdlBlanks.F (argX 0 _ x) = some (true, ()) := blanks_law x.1 x.2.1
theorem pure6 (x : ArgT [(.str, false)]) (h : argIn PP _ x) : L07_DdlParts.F (argX 0 _ x) = some (true, ()) := parts_law x.1
theorem pure7 (x : ArgT [(tDef, true), (tDef, true)]) (h : argIn PP _ x) : L07_DdlUnlike.F (argX 0 _ x) = some (true, ()) := by
  obtain ⟨d, q, u⟩ := x
  obtain ⟨hd, hq, _⟩ := h
  exact unlike_law d.1 d.2.1.1 d.2.1.2.1 d.2.1.2.2 d.2.2.1 d.2.2.2.1 d.2.2.2.2.1 d.2.2.2.2.2.1.1 d.2.2.2.2.2.1.2 d.2.2.2.2.2.2.1 d.2.2.2.2.2.2.2.1 d.2.2.2.2.2.2.2.2.1 d.2.2.2.2.2.2.2.2.2 q.1 q.2.1.1 q.2.1.2.1 q.2.1.2.2 q.2.2.1 q.2.2.2.1 q.2.2.2.2.1 q.2.2.2.2.2.1.1 q.2.2.2.2.2.1.2 q.2.2.2.2.2.2.1 q.2.2.2.2.2.2.2.1 q.2.2.2.2.2.2.2.2.1 q.2.2.2.2.2.2.2.2.2 (in_ln hd) (in_ln hq) (in_fit hd) (in_fit hq)
end Go.Proofs.Ytnogebfcpicghaa
