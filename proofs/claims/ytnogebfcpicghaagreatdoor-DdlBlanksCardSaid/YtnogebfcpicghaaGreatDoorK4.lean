import Derived.Test.YtnogebfcpicghaaGreatDoorK2
set_option linter.all false
set_option linter.unusedVariables false
set_option linter.unusedSimpArgs false
set_option linter.unusedSectionVars false
set_option maxRecDepth 100000
namespace Go.Proofs.Ytnogebfcpicghaa
open Go Lv Go.Proofs Go.RowKit Go.Shelf
theorem r0_wp (w : World) (a b : Int) (s : ByteArray) (Q : Exit → Act → World → Prop)
    (h : Q .normal ⟨#[.agg #[.int .i64 a, .int .i64 b, .string s], .pointer (some ⟨w.heap.size, 0, none⟩), .string ⟨#[]⟩, undef, undef, undef, undef, undef, undef, undef, undef, undef, undef, undef, undef, undef, undef, undef, undef, undef, undef, undef, undef, undef, undef], []⟩ (w.alloc (.cells #[.int .i64 a, .int .i64 b, .string s] 51))) :
    cR0.wp Tryz.prog Q ⟨#[.agg #[.int .i64 a, .int .i64 b, .string s], undef, undef, undef, undef, undef, undef, undef, undef, undef, undef, undef, undef, undef, undef, undef, undef, undef, undef, undef, undef, undef, undef, undef, undef], []⟩ w := by
  dsimp only [cR0, sndC, fstC, cc, Tryz.f75, Option.getD]
  go_wp2
  exact h
noncomputable def cst (a b : Int) (s : ByteArray) : St := ⟨fun t => if t = 1 then some (.v false [.ptr 1000 0]) else none, fun l => if l = 1000 then some (.box 51 [.int .i64 a, .int .i64 b, .str s]) else none, 1001, []⟩
def csi : Sh := ⟨[(0, .v true [.int .i64, .int .i64, .str])], [], [], 0, []⟩
def cso : Sh := ⟨[(0, .v false [.str])], [], [], 1000, []⟩
noncomputable def cfin (cx : Cx) (o : Out) : Option (TS cso) := match o with
  | .normal st => evF.fin cx Tryz.f75.results.toList cso st
  | .ret st => evF.fin cx Tryz.f75.results.toList cso st
  | .exit _ _ => none
  | .pan _ _ => none
theorem c_writes : allBlt 25 (writes cRS) = true := by kernel_rfl
theorem const_ok {cx : Cx} (hcx : CxOk Tryz.prog cx) (hdr : DrawnOk Tryz.prog cx) (h : H) (F : TS csi → Option (TS cso))
    (hret : ∀ a b s y e, F (a, b, s, ()) = some y → e ∈ ents.toList → e.val = .agg #[.int .i64 a, .int .i64 b, .string s] → e.key = .string y.1)
    (hrest : ∀ a b s y, F (a, b, s, ()) = some y → (∀ e ∈ ents.toList, e.val ≠ .agg #[.int .i64 a, .int .i64 b, .string s]) → evC cx inl0 (TS cso) cRS h (cst a b s) (cfin cx) = some y) :
    SpecOk Tryz.prog 75 ⟨1, csi, cso, F⟩ := by
  rintro ⟨a, b, s, ⟨⟩⟩ y hxy ρ ok w args hn hH hE
  have hn : args.size = 1 := hn
  obtain ⟨v, hv, hV⟩ := hE 0 (.v true [.int .i64 a, .int .i64 b, .str s]) rfl
  obtain ⟨vs, rfl, hA⟩ := hV
  have hargs : args = #[.agg #[.int .i64 a, .int .i64 b, .string s]] := by
    have hvs : vs = [.int .i64 a, .int .i64 b, .string s] := by
      rcases hA with _ | ⟨h1, hA⟩
      rcases hA with _ | ⟨h2, hA⟩
      rcases hA with _ | ⟨h3, hA⟩
      rcases hA with _ | _
      have h1 : _ = _ := h1
      have h2 : _ = _ := h2
      have h3 : _ = _ := h3
      rw [h1, h2, h3]
    rw [hvs] at hv
    apply Array.ext
    · rw [hn]; rfl
    · intro i hi _
      have : i = 0 := by omega
      subst this
      have := (Array.getElem?_eq_some_iff.1 hv).2
      simpa using this
  subst hargs
  have hbody : Tryz.f75.body = some cc := by kernel_rfl
  refine calls_of_wp Tryz.func75 hbody ?_
  have hnt : (#[.agg #[.int .i64 a, .int .i64 b, .string s]] : Array Value) ++ Array.replicate (Tryz.f75.ntmps - (#[.agg #[.int .i64 a, .int .i64 b, .string s]] : Array Value).size) undef = #[.agg #[.int .i64 a, .int .i64 b, .string s], undef, undef, undef, undef, undef, undef, undef, undef, undef, undef, undef, undef, undef, undef, undef, undef, undef, undef, undef, undef, undef, undef, undef, undef] := by kernel_rfl
  rw [hnt, cc_eq]
  have hH0 : ∀ l o, hpOut csi id (a, b, s, ()) l = some o → False := fun l o h => by cases h
  refine wp_seq (r0_wp w a b s _ ?_)
  show (Code.seq cLP cRS).wp _ _ _ _
  refine wp_seq (loop_wp w a b s _ ?_ ?_)
  · intro act w1 a1 a2 a3 hB hb hne
    show cRS.wp _ _ _ _
    have hev := hrest a b s y hxy hne
    let ρ' : Nat → Value := fun l => if l = 1000 then .pointer (some ⟨w.heap.size, 0, none⟩) else ρ l
    have hS : Same ok ok w w1 := fun b h => ⟨h, hB.block b (hH.okl b h)⟩
    have hp1 : ∀ l o, (cst a b s).hp l = some o → l = 1000 ∧ o = .box 51 [.int .i64 a, .int .i64 b, .str s] := fun l o h => by
      simp only [cst] at h
      split at h
      · rename_i hl; cases h; exact ⟨hl, rfl⟩
      · cases h
    have hr1 : ρ' 1000 = .pointer (some ⟨w.heap.size, 0, none⟩) := by simp [ρ']
    have hH1 : RepH ρ' ok w1 (cst a b s).hp (cst a b s).nx := by
      refine ⟨fun l o ho => ?_, fun b hb => Nat.lt_of_lt_of_le (hH.okl b hb) hB.size, fun l o b ho _ hbl => ?_, fun l m o p b ho hp _ _ _ _ => ?_, hH.gl.move hS⟩
      · obtain ⟨rfl, rfl⟩ := hp1 l o ho
        refine ⟨by show 1000 < 1001; decide, w.heap.size, [.int .i64 a, .int .i64 b, .string s], hr1, hb, ?_⟩
        exact .cons rfl (.cons rfl (.cons rfl .nil))
      · obtain ⟨rfl, rfl⟩ := hp1 l o ho
        rw [hr1] at hbl
        cases hbl
        exact fun hok => absurd (hH.okl _ hok) (Nat.lt_irrefl _)
      · rw [(hp1 l o ho).1, (hp1 m p hp).1]
    have hG : Goes ρ ok w (hpOut csi id (a, b, s, ())) 1000 [] ρ' ok w1 (cst a b s).hp (cst a b s).nx := by
      refine ⟨hB.os, hB.tape, ⟨hB.output, fun e => by cases e⟩, hB.size, by show 1000 ≤ 1001; decide, fun b hb _ => hB.block b hb, fun l hl => ?_, fun _ h => h, fun _ h => .inl h, fun l hl _ => ?_, fun l hl o ho => ?_, fun l o b hl ho _ hbl => ?_⟩
      · have : l ≠ 1000 := by omega
        simp [ρ', this]
      · have : l ≠ 1000 := by omega
        have e1 : hpOut csi id (a, b, s, ()) l = none := by rfl
        rw [e1]
        simp [cst, this]
      · have := (hp1 l o ho).1; omega
      · obtain ⟨rfl, rfl⟩ := hp1 l o ho
        rw [hr1] at hbl
        cases hbl
        exact .inl (Nat.le_refl _)
    have hE1 : RepE ρ' ok w1 (cst a b s).nx (cst a b s).env act.tmps := by
      intro t sl hsl
      simp only [cst] at hsl
      split at hsl
      · rename_i ht
        cases hsl
        subst ht
        exact ⟨_, a2, _, rfl, by show 1000 < 1001; decide, w.heap.size, hr1, rfl⟩
      · cases hsl
    refine evC_ok hcx (inl0_ok _ _) hdr cRS (TS cso) h (cst a b s) (cfin cx) y hev ρ' ok w1 act hH1 hE1 (fun t ht => by rw [a1]; exact allBlt_iff.1 c_writes t ht) _ ?_ ?_
    · intro o e a' w' k1 k2 ⟨ρ2, ok2, D, g1, g2, g3, g4, g5⟩
      have fin : ∀ st', evF.fin cx Tryz.f75.results.toList cso st' = some y → o.st = st' → a'.defers = [] ∧ ∃ v, (results Tryz.f75 a'.tmps).run Tryz.prog w' = .ok v w' ∧ ∃ u ρ' ok', Ending.returned v = .returned u ∧ RepH ρ' ok' w' (hpOut cso id y) cso.nn ∧ RepE ρ' ok' w' cso.nn (envOut cso id y) #[u] ∧ Exits (hpOut csi id (a, b, s, ())) ρ ok w (hpOut cso id y) ρ' ok' w' := by
        intro st' hk ho
        subst ho
        obtain ⟨sl, hs⟩ := fin_res hk
        obtain ⟨v, r1, r2⟩ := res_ok (P := Tryz.prog) (fn := Tryz.f75) hcx.tab g2 g3 hs
        refine ⟨g5.defers.trans a3, v, r1, ?_⟩
        exact fin_ok (so := cso) (by decide) hk g2 (fun s' hs' => by rw [hs] at hs'; cases hs'; exact r2) (hG.trans g4)
      cases o with
      | normal st' =>
        cases k2
        exact fin st' k1 rfl
      | ret st' =>
        cases k2
        exact fin st' k1 rfl
      | exit id st' => cases k1
      | pan n st' => cases k2
    · intro n st' a' w' k1 _
      cases k1
  · intro act w1 e he hval a1 a2 a3 hB
    have hk := hret a b s y e hxy he hval
    refine ⟨a3, .string y.1, ?_, ?_⟩
    · have hres : Tryz.f75.results = #[.tmp 2] := by kernel_rfl
      rw [results_tmp hres act.tmps Tryz.prog w1]
      rw [Array.getD_eq_getD_getElem?, a2, hk]
      rfl
    · exact lib_end (so := cso) rfl hB hH (fun l o h => by cases h) (one_env (fun ρ ok w nx => ⟨_, rfl, rfl⟩))
/-- what constant computes, but for the text of a token -/
noncomputable def constF (M : Int → Int → ByteArray → Option (ByteArray × Unit)) : Int × Int × ByteArray × Unit → Option (ByteArray × Unit) := fun (a, b, s, _) =>
  let e : ByteArray := (⟨#[]⟩ : ByteArray)
  bif (a == (0 : Int)) && (b == (0 : Int)) && (s == e) then some ((⟨#[110, 117, 108, 108]⟩ : ByteArray), ())
  else bif (a == (1 : Int)) && (b == (0 : Int)) && (s == e) then some ((⟨#[102, 97, 108, 115, 101]⟩ : ByteArray), ())
  else bif (a == (1 : Int)) && (b == (1 : Int)) && (s == e) then some ((⟨#[116, 114, 117, 101]⟩ : ByteArray), ())
  else M a b s
theorem beq_of {s : ByteArray} (h : (s == (⟨#[]⟩ : ByteArray)) = true) : s = ⟨#[]⟩ := by
  have h : (s.data == #[]) = true := h
  have h := eq_of_beq h
  cases s; simp at h; rw [h]
theorem agg3 {a b c d : Int} {s t : ByteArray} (h : Value.agg #[.int .i64 a, .int .i64 b, .string s] = .agg #[.int .i64 c, .int .i64 d, .string t]) : a = c ∧ b = d ∧ s = t := by
  simp at h; exact h
theorem const_ok2 {cx : Cx} (hcx : CxOk Tryz.prog cx) (hdr : DrawnOk Tryz.prog cx) (h : H) (M : Int → Int → ByteArray → Option (ByteArray × Unit))
    (hev : ∀ a b s, evC cx inl0 (TS cso) cRS h (cst a b s) (cfin cx) = M a b s) : SpecOk Tryz.prog 75 ⟨1, csi, cso, constF M⟩ := by
  refine const_ok hcx hdr h (constF M) (fun a b s y e hF he hv => ?_) (fun a b s y hF hne => ?_)
  · have m3 : e ∈ [(⟨.string ⟨#[110, 117, 108, 108]⟩, .agg #[.int .i64 0, .int .i64 0, .string ⟨#[]⟩], 0⟩ : MapEntry), ⟨.string ⟨#[102, 97, 108, 115, 101]⟩, .agg #[.int .i64 1, .int .i64 0, .string ⟨#[]⟩], 1⟩, ⟨.string ⟨#[116, 114, 117, 101]⟩, .agg #[.int .i64 1, .int .i64 1, .string ⟨#[]⟩], 2⟩] := he
    simp only [List.mem_cons, List.not_mem_nil, or_false] at m3
    rcases m3 with rfl | rfl | rfl
    · obtain ⟨rfl, rfl, rfl⟩ := agg3 hv
      have : constF M (0, 0, ⟨#[]⟩, ()) = some ((⟨#[110, 117, 108, 108]⟩ : ByteArray), ()) := rfl
      have hh := this.symm.trans hF
      cases hh; rfl
    · obtain ⟨rfl, rfl, rfl⟩ := agg3 hv
      have : constF M (1, 0, ⟨#[]⟩, ()) = some ((⟨#[102, 97, 108, 115, 101]⟩ : ByteArray), ()) := rfl
      have hh := this.symm.trans hF
      cases hh; rfl
    · obtain ⟨rfl, rfl, rfl⟩ := agg3 hv
      have : constF M (1, 1, ⟨#[]⟩, ()) = some ((⟨#[116, 114, 117, 101]⟩ : ByteArray), ()) := rfl
      have hh := this.symm.trans hF
      cases hh; rfl
  · rw [hev]
    have no : ∀ (x y : Int) (k : ByteArray) (n : Nat), (⟨.string k, .agg #[.int .i64 x, .int .i64 y, .string ⟨#[]⟩], n⟩ : MapEntry) ∈ ents.toList → ((a == x) && (b == y) && (s == (⟨#[]⟩ : ByteArray))) = false := by
      intro x y k n hm
      cases hb : ((a == x) && (b == y) && (s == (⟨#[]⟩ : ByteArray))) with
      | false => rfl
      | true =>
        simp only [Bool.and_eq_true, beq_iff_eq] at hb
        have h3 := beq_of hb.2
        exact absurd (by rw [hb.1.1, hb.1.2, h3]) (hne _ hm)
    have n1 := no 0 0 _ _ (show (⟨.string ⟨#[110, 117, 108, 108]⟩, .agg #[.int .i64 0, .int .i64 0, .string ⟨#[]⟩], 0⟩ : MapEntry) ∈ ents.toList by simp [ents])
    have n2 := no 1 0 _ _ (show (⟨.string ⟨#[102, 97, 108, 115, 101]⟩, .agg #[.int .i64 1, .int .i64 0, .string ⟨#[]⟩], 1⟩ : MapEntry) ∈ ents.toList by simp [ents])
    have n3 := no 1 1 _ _ (show (⟨.string ⟨#[116, 114, 117, 101]⟩, .agg #[.int .i64 1, .int .i64 1, .string ⟨#[]⟩], 2⟩ : MapEntry) ∈ ents.toList by simp [ents])
    unfold constF at hF
    simp only [n1, n2, n3, cond_false] at hF
    exact hF
end Go.Proofs.Ytnogebfcpicghaa
