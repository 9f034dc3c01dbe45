import Derived.Test.YtnogebfcpicghaaGreatDoorEvZ
import Derived.Shelf.Strings.Builder1
import Derived.Shelf.Strings.OnBuilder
set_option linter.all false
set_option linter.unusedVariables false
set_option linter.unusedSimpArgs false
set_option linter.unusedSectionVars false
namespace Lv
open Go Go.Proofs Go.RowKit Go.Shelf
set_option maxHeartbeats 2000000 in
set_option maxRecDepth 100000 in
theorem bld_string {P : Program} {ρ : Shelf.Ren} (L : Lays.n169 P ρ) (X : Builder.Extra P ρ) {b g cap : Nat} {p : Value} {cur : Array Value} {l : List UInt8} {w : World} (hbk : w.heap[b]? = some (.cells #[p, .slice (some ⟨g, 0, none⟩) l.length cap] (ρ.t 72) (0, 0)))
    (hg : w.heap[g]? = some (.cells cur (ρ.t 5) (0, 0))) (h0 : l ≠ []) (hlc : l.length ≤ cap) (hcs : cap ≤ cur.size) (hcm : cap ≤ maxLen) (hcells : ∀ j x, l[j]? = some x → w.cell? ⟨g, j, none⟩ = some (.int .u8 x.toNat)) :
    Calls P (ρ.f 169) #[.pointer (some ⟨b, 0, none⟩)] w fun e w' => e = .returned (.string ⟨l.toArray⟩) ∧ ∃ k, w' = (w.drewN k).freeze ⟨g, 0, none⟩ l.length := by
  have hl0 : l.length ≠ 0 := by simpa using h0
  have c1 : w.drew.cell? ⟨b, 1, none⟩ = some (.slice (some ⟨g, 0, none⟩) l.length cap) := by
    have : w.drew.heap[b]? = some (.cells #[p, .slice (some ⟨g, 0, none⟩) l.length cap] (ρ.t 72) (0, 0)) := hbk
    rw [Lib.cell_of_heap this]; rfl
  have hSD : (Builtin.unsafeSliceData_ #[(ρ.t 37)] (ρ.t 127) #[.slice (some ⟨g, 0, none⟩) l.length cap]).run P w.drew = .ok (.pointer (some ⟨g, 0, none⟩)) w.drew :=
    Lib.run_unsafeSliceData_row _ _ _ _ _ _ (by omega)
  have hUS : (Builtin.unsafeString_ #[(ρ.t 127), (ρ.t 3)] (ρ.t 9) #[.pointer (some ⟨g, 0, none⟩), .int .i64 l.length]).run P w.drew = .ok (.string ⟨l.toArray⟩) (w.drew.freeze ⟨g, 0, none⟩ l.length) :=
    Lib.run_unsafeString_row w.drew (ρ.t 127) (ρ.t 3) (ρ.t 9) (ρ.t 5) L.t127 X.cellsByte g cur.size (by have hg' : w.drew.heap[g]? = some (.cells cur (ρ.t 5) (0, 0)) := hg; simp [World.shape?, hg']) l h0 (by omega) (by unfold maxLen at hcm; omega) fun j x hx => by rw [Addr.add_lit, Nat.zero_add]; exact hcells j x hx
  have mixed := L.mixed
  have t72 := L.t72; have a72 := L.a72; have z72 := L.z72; have v72 := L.v72; have u72 := run_underlying L.t72
  have t70 := L.t70; have a70 := L.a70; have z70 := L.z70; have v70 := L.v70; have u70 := run_underlying L.t70
  have t37 := L.t37; have a37 := L.a37; have z37 := L.z37; have v37 := L.v37; have u37 := run_underlying L.t37
  have t127 := L.t127; have a127 := L.a127; have z127 := L.z127; have v127 := L.v127; have u127 := run_underlying L.t127
  have t3 := L.t3; have a3 := L.a3; have z3 := L.z3; have v3 := L.v3; have u3 := run_underlying L.t3
  have t9 := L.t9; have a9 := L.a9; have z9 := L.z9; have v9 := L.v9; have u9 := run_underlying L.t9
  have t5 := X.t5; have a5 := X.a5; have z5 := X.z5; have v5 := X.v5; have u5 := run_underlying X.t5
  go_enter L.f169, Body.n169_ntmps ρ
  go_wp2
  go_region_o
  all_goals (go_wp2; go_ret; exact ⟨rfl, 1, rfl⟩)

theorem All2.symmOne' {α β : Type} {R : α → β → Prop} {a : α} {bs : List β} (h : All2 R [a] bs) : ∃ b, bs = [b] ∧ R a b := h.one
theorem freeze_other (w : World) (a : Addr) (n k : Nat) (h : k ≠ a.block) : (w.freeze a n).heap[k]? = w.heap[k]? := by
  unfold World.freeze
  split
  · rfl
  · simp only [Array.getElem?_modify]
    rw [if_neg (fun e => h e.symm)]
theorem freeze_parts (w : World) (a : Addr) (n : Nat) : (w.freeze a n).os = w.os ∧ (w.freeze a n).tape = w.tape ∧ (w.freeze a n).output = w.output ∧ (w.freeze a n).heap.size = w.heap.size := by
  unfold World.freeze
  split <;> simp

noncomputable def bytesOf (bs : List Int) : ByteArray := ⟨(bs.map fun i => UInt8.ofNat i.toNat).toArray⟩
theorem u8_back (i : Int) (h0 : 0 ≤ i) (h1 : i < 256) : ((UInt8.ofNat i.toNat).toNat : Int) = i := by
  rw [UInt8.toNat_ofNat']
  omega
theorem rows_u8 {ok : Nat → Prop} {w : World} {bs : List Int} {vs : List Value} (h : Rows ok w (.int .u8) bs vs) : vs = bs.map (.int .u8) := by
  obtain ⟨css, rfl, h⟩ := h
  induction h with
  | nil => rfl
  | cons h _ ih =>
    have h : _ = [_] := h
    subst h
    simp [ih]

theorem bld_string_spec [HasG] (hd : HasG.draw = false) {P : Program} {ρs : Shelf.Ren} (L : Lays.n169 P ρs) (X : Builder.Extra P ρs) {f B e8 : Nat} (hf : ρs.f 169 = f) (hB : ρs.t 72 = B) (h5 : ρs.t 5 = e8) :
    SpecOk P f ⟨1, ⟨[(0, .v false [.ptr 0 0])], [(0, true, .box B [.np 0, .ref 1]), (1, true, .arr e8 (.int .u8))], [], 2, []⟩, ⟨[(0, .v false [.str])], [], [], 1000, []⟩,
      fun (bs, _) => if (∀ x ∈ bs, 0 ≤ x ∧ x < 256) then some (bytesOf bs, ()) else none⟩ := by
  subst hf hB h5
  rintro ⟨bs, ⟨⟩⟩ y hxy ρ ok w args hn hH hE
  have hxy : (if (∀ x ∈ bs, 0 ≤ x ∧ x < 256) then some (bytesOf bs, ()) else none) = some y := hxy
  split at hxy <;> cases hxy
  rename_i hr
  obtain ⟨v, h0, hv⟩ := arg_at (i := 0) (c := .ptr 0 0) hE rfl
  obtain ⟨_, b, h1, rfl⟩ := hv
  obtain ⟨_, b', vs, k1, k2, k3⟩ := hH.ob 0 (.box (ρs.t 72) [.np 0, .ref 1]) rfl
  rw [h1] at k1
  cases k1
  obtain ⟨_, inner, k4, k5⟩ := hH.ob 1 (.arr (ρs.t 5) (.int .u8) bs) rfl
  have hin := rows_u8 k5
  subst hin
  cases k3 with
  | @cons _ p _ vs hp k3 =>
  obtain ⟨v, rfl, hv⟩ := k3.symmOne'
  have hv : v = ρ 1 := hv.2.1
  subst hv
  have hl : (bs.map fun i => UInt8.ofNat i.toNat).length = bs.length := by simp
  have hin : ∀ (c : Cell) (l : Nat) (o : Ob), hpOut (⟨[(0, .v false [.ptr 0 0])], [(0, true, .box (ρs.t 72) [.np 0, .ref 1]), (1, true, .arr (ρs.t 5) (.int .u8))], [], 2, []⟩ : Sh) id (bs, ()) 1 = some (.arr (ρs.t 5) (.int .u8) bs) := fun _ _ _ => rfl
  rw [args1 hn h0]
  have empty : bs = [] → (Calls P (ρs.f 169) #[.pointer (some ⟨b, 0, none⟩)] w fun e w' => e = .returned (.string ⟨#[]⟩) ∧ Below w.heap.size w w') → Calls P (ρs.f 169) #[.pointer (some ⟨b, 0, none⟩)] w fun e w' => ∃ v ρ' ok', e = .returned v ∧ RepH ρ' ok' w' (fun _ => none) 1000 ∧
      RepE ρ' ok' w' 1000 (Lv.put (fun _ => none) 0 (some (.v false [.str (bytesOf bs)]))) #[v] ∧ Exits (hpOut (⟨[(0, .v false [.ptr 0 0])], [(0, true, .box (ρs.t 72) [.np 0, .ref 1]), (1, true, .arr (ρs.t 5) (.int .u8))], [], 2, []⟩ : Sh) id (bs, ())) ρ ok w (fun _ => none) ρ' ok' w' := by
    intro he hc
    subst he
    refine hc.mono ?_
    rintro e w' ⟨rfl, hb⟩
    exact lib_end (so := ⟨[(0, .v false [.str])], [], [], 1000, []⟩) (y := (bytesOf [], ())) hd hb hH (fun l o h => by cases h) (one_env fun _ _ _ _ => ⟨_, rfl, rfl⟩)
  rcases k4.2 with ⟨hn1, hn2⟩ | ⟨g, cap, cur, hg1, _, hg2, hg3, hg4, hg5, hg6⟩
  · have : bs = [] := List.length_eq_zero_iff.1 hn2
    refine empty this (Any.Builder_String_nil L X w.heap.size b p w ?_)
    rw [← hn1]; exact k2
  · by_cases hz : bs = []
    · by_cases hc0 : cap = 0
      · subst hc0
        refine empty hz (Any.Builder_String_noroom L X w.heap.size b g p cur w (Nat.le_refl _) ?_ hg2)
        rw [k2, hg1, hz]; rfl
      · refine empty hz (Any.Builder_String_room L X w.heap.size b g cap p w hc0 ?_)
        rw [k2, hg1, hz]; rfl
    · have hlb : bs.length ≠ 0 := fun e => hz (List.length_eq_zero_iff.1 e)
      refine (bld_string L X (l := bs.map fun i => UInt8.ofNat i.toNat) (cap := cap) (p := p) (cur := cur) (b := b) (g := g) (by rw [k2, hg1, hl]) hg2 (by simpa using hz) (by rw [hl]; exact hg3) (by rw [hg5]; show cap ≤ cap * (Ty.int .u8).n; simp [Ty.n]) hg4 ?_).mono ?_
      · intro j x hx
        rw [List.getElem?_map] at hx
        cases hj : bs[j]? with
        | none => rw [hj] at hx; cases hx
        | some i =>
          rw [hj] at hx
          cases hx
          have hi := hr i (List.mem_of_getElem? hj)
          have hjl : j < bs.length := (List.getElem?_eq_some_iff.1 hj).1
          have h6 : (bs.map (Value.int .u8))[j]? = some (.int .u8 i) := by rw [List.getElem?_map, hj]; rfl
          rw [← hg6, List.getElem?_take] at h6
          split at h6
          · have : cur[j]? = some (.int .u8 i) := by simpa using h6
            simp only [World.cell?, hg2]
            rw [this]
            have h9 := u8_back i hi.1 hi.2
            exact congrArg (fun z => some (Value.int .u8 z)) h9.symm
          · cases h6
      · rintro e w' ⟨rfl, k, rfl⟩
        obtain ⟨f1, f2, f3, f4⟩ := freeze_parts (w.drewN k) ⟨g, 0, none⟩ (bs.map fun i => UInt8.ofNat i.toNat).length
        have hoth : ∀ q, q ≠ g → ((w.drewN k).freeze ⟨g, 0, none⟩ (bs.map fun i => UInt8.ofNat i.toNat).length).heap[q]? = w.heap[q]? := fun q hq => freeze_other _ _ _ q hq
        have hsz : ((w.drewN k).freeze ⟨g, 0, none⟩ (bs.map fun i => UInt8.ofNat i.toNat).length).heap.size = w.heap.size := f4
        have hS : Same ok ok w ((w.drewN k).freeze ⟨g, 0, none⟩ (bs.map fun i => UInt8.ofNat i.toNat).length) := fun q hq => ⟨hq, hoth q fun e => hH.sep 1 _ g rfl rfl (by rw [hg1]; rfl) (e ▸ hq)⟩
        refine ⟨_, ρ, ok, rfl, ⟨fun l o h => (by cases h), fun q hq => (by rw [hsz]; exact hH.okl q hq), fun l o q h => (by cases h), fun l m o p q h => (by cases h), hH.gl.move hS⟩, one_env (s := .v false [.str (bytesOf bs)]) (v := .string (bytesOf bs)) (fun _ _ _ _ => ⟨_, rfl, rfl⟩) _ _ _ _, ?_⟩
        exact ⟨f1, f2, ⟨f3, fun e => (by rw [hd] at e; cases e)⟩, Nat.le_of_eq hsz.symm, fun q hq hne => hoth q (fun e => hne 1 _ rfl rfl (by rw [hg1, e]; rfl)), fun _ h => h, fun _ h => .inl h, fun l o h => (by cases h), fun l o q h => (by cases h)⟩

theorem setCell_other (w : World) (a : Addr) (v : Value) (k : Nat) (h : k ≠ a.block) : (w.setCell a v).heap[k]? = w.heap[k]? := by
  unfold World.setCell
  simp only [Array.getElem?_modify]
  rw [if_neg (fun e => h e.symm)]

theorem bld_check_spec [HasG] (hd : HasG.draw = false) {P : Program} {ρs : Shelf.Ren} (L : Lays.n240 P ρs) (X : Builder.X72 P ρs) {f B e8 : Nat} (hf : ρs.f 240 = f) (hB : ρs.t 72 = B) :
    SpecOk P f ⟨1, ⟨[(0, .v false [.ptr 0 0])], [(0, true, .box B [.np 0, .ref 1]), (1, true, .arr e8 (.int .u8))], [], 2, []⟩,
      ⟨[(0, .tup [])], [(0, true, .box B [.np 0, .ref 1000]), (1000, true, .arr e8 (.int .u8))], [], 1001, []⟩, fun (bs, _) => some (bs, ())⟩ := by
  subst hf hB
  rintro ⟨bs, ⟨⟩⟩ y hxy ρ ok w args hn hH hE
  cases hxy
  obtain ⟨v, h0, hv⟩ := arg_at (i := 0) (c := .ptr 0 0) hE rfl
  obtain ⟨_, b, h1, rfl⟩ := hv
  obtain ⟨_, b', vs, k1, k2, k3⟩ := hH.ob 0 (.box (ρs.t 72) [.np 0, .ref 1]) rfl
  rw [h1] at k1
  cases k1
  obtain ⟨_, inner, k4, k5⟩ := hH.ob 1 (.arr e8 (.int .u8) bs) rfl
  cases k3 with
  | @cons _ p _ vs hp k3 =>
  obtain ⟨v, rfl, hv⟩ := k3.symmOne'
  have hv1 : v = ρ 1 := hv.2.1
  have hvo := hv.2.2
  subst hv1
  rw [args1 hn h0]
  -- another block than the array's
  have hbg : ∀ g, blk (ρ 1) = some g → g ≠ b := fun g hg e => by
    have := hH.dis 0 1 _ _ b rfl rfl rfl rfl (by rw [h1]; rfl) (by rw [hg, e])
    omega
  have fin : ∀ (w' : World) (p' : Value), (p' = .pointer none ∨ p' = .pointer (some ⟨b, 0, none⟩)) → w'.heap[b]? = some (.cells #[p', ρ 1] (ρs.t 72) (0, 0)) → (∀ q, q ≠ b → w'.heap[q]? = w.heap[q]?) → w'.heap.size = w.heap.size → w'.os = w.os → w'.tape = w.tape → w'.output = w.output →
      ∃ v ρ' ok', Ending.returned (.tuple #[]) = .returned v ∧ RepH ρ' ok' w' (hpOut (⟨[(0, .tup [])], [(0, true, .box (ρs.t 72) [.np 0, .ref 1000]), (1000, true, .arr e8 (.int .u8))], [], 1001, []⟩ : Sh) id (bs, ())) 1001 ∧
        RepE ρ' ok' w' 1001 (Lv.put (fun _ => none) 0 (some (.tup []))) #[v] ∧ Exits (hpOut (⟨[(0, .v false [.ptr 0 0])], [(0, true, .box (ρs.t 72) [.np 0, .ref 1]), (1, true, .arr e8 (.int .u8))], [], 2, []⟩ : Sh) id (bs, ())) ρ ok w (hpOut (⟨[(0, .tup [])], [(0, true, .box (ρs.t 72) [.np 0, .ref 1000]), (1000, true, .arr e8 (.int .u8))], [], 1001, []⟩ : Sh) id (bs, ())) ρ' ok' w' := by
    intro w' p' hp' q1 q2 q3 q4 q5 q6
    have hokb : ∀ q, ok q → q ≠ b := fun q hq e => hH.sep 0 _ b rfl rfl (by rw [h1]; rfl) (e ▸ hq)
    have hS : Same ok ok w w' := fun q hq => ⟨hq, q2 q (hokb q hq)⟩
    have hout : ∀ l o, hpOut (⟨[(0, .tup [])], [(0, true, .box (ρs.t 72) [.np 0, .ref 1000]), (1000, true, .arr e8 (.int .u8))], [], 1001, []⟩ : Sh) id (bs, ()) l = some o → (l = 0 ∧ o = .box (ρs.t 72) [.np 0, .ref 1000]) ∨ (l = 1000 ∧ o = .arr e8 (.int .u8) bs) := by
      intro l o h
      have h : Lv.put (Lv.put (fun _ => none) 1000 (some (.arr e8 (.int .u8) bs))) 0 (some (.box (ρs.t 72) [.np 0, .ref 1000])) l = some o := h
      simp only [Lv.put] at h
      split at h
      · rename_i e; cases h; exact .inl ⟨Nat.eq_of_beq_eq_true e, rfl⟩
      · split at h
        · rename_i e; cases h; exact .inr ⟨Nat.eq_of_beq_eq_true e, rfl⟩
        · cases h
    refine ⟨_, fun l => if l = 1000 then ρ 1 else ρ l, ok, rfl, ⟨?_, fun q hq => (by rw [q3]; exact hH.okl q hq), ?_, ?_, hH.gl.move hS⟩, one_env (s := .tup []) (v := .tuple #[]) (fun _ _ _ _ => ⟨[], rfl, .nil⟩) _ _ _ _, ⟨q4, q5, ⟨q6, fun e => (by rw [hd] at e; cases e)⟩, Nat.le_of_eq q3.symm, ?_, fun _ h => h, fun _ h => .inl h, ?_, ?_⟩⟩
    · intro l o h
      rcases hout l o h with ⟨rfl, rfl⟩ | ⟨rfl, rfl⟩
      · refine ⟨by omega, b, [p', ρ 1], by simpa using h1, q1, .cons ⟨by omega, ?_⟩ (.cons ⟨by omega, by simp, hvo⟩ .nil)⟩
        rcases hp' with rfl | rfl
        · exact .inl rfl
        · exact .inr ⟨b, by simpa using h1, rfl⟩
      · refine ⟨by omega, inner, ?_, k5.move hS⟩
        simp only [if_true]
        exact ownsRow_same k4 fun g hg => q2 g (hbg g hg)
    · intro l o q h hw hb hok
      rcases hout l o h with ⟨rfl, rfl⟩ | ⟨rfl, rfl⟩
      · exact hH.sep 0 _ q rfl rfl (by simpa using hb) hok
      · exact hH.sep 1 _ q rfl rfl (by simpa using hb) hok
    · intro l m o p q h h' hw hw' hb hb'
      rcases hout l o h with ⟨rfl, rfl⟩ | ⟨rfl, rfl⟩ <;> rcases hout m p h' with ⟨rfl, rfl⟩ | ⟨rfl, rfl⟩
      · rfl
      · have := hH.dis 0 1 _ _ q rfl rfl rfl rfl (by simpa using hb) (by simpa using hb'); omega
      · have := hH.dis 0 1 _ _ q rfl rfl rfl rfl (by simpa using hb') (by simpa using hb); omega
      · rfl
    · intro q hq hne
      exact q2 q fun e => hne 0 _ rfl rfl (by rw [h1, e]; rfl)
    · intro l o h hl
      rcases hout l o h with ⟨rfl, rfl⟩ | ⟨rfl, rfl⟩
      · exact ⟨by simp, _, rfl, fun _ => rfl⟩
      · omega
    · intro l o q h hl hw hb
      rcases hout l o h with ⟨rfl, rfl⟩ | ⟨rfl, rfl⟩
      · omega
      · exact .inr ⟨1, _, rfl, rfl, by simpa using hb⟩
  have hc0 : w.cell? ⟨b, 0, none⟩ = some p := by simp [World.cell?, k2]
  rcases hp.2 with rfl | ⟨b2, e1, rfl⟩
  · refine (Any.Builder_copyCheck_fresh L X b w hc0 (by simp [World.shape?, k2]) (by simp [World.frozen?, k2])).mono ?_
    rintro e w' ⟨rfl, rfl⟩
    refine fin _ _ (.inr rfl) ?_ (fun q hq => setCell_other w ⟨b, 0, none⟩ _ q hq) (by simp [World.setCell]) rfl rfl rfl
    have hlt := (Array.getElem?_eq_some_iff.1 k2).1
    simp [World.setCell, Array.getElem?_modify, k2]
  · rw [h1] at e1
    cases e1
    refine (Any.Builder_copyCheck_used L X b w hc0).mono ?_
    rintro e w' ⟨rfl, rfl⟩
    exact fin _ _ (.inr rfl) k2 (fun _ _ => rfl) rfl rfl rfl rfl

noncomputable def joinB (xs : List ByteArray) (sep : ByteArray) : ByteArray := ⟨(Lib.join (xs.map (·.data.toList)) sep.data.toList).toArray⟩
theorem join_spec [HasG] (hd : HasG.draw = false) {P : Program} {ρs : Shelf.Ren} (L : Lays.n156 P ρs) (X : Builder.Extra P ρs) {f e : Nat} (hf : ρs.f 156 = f) :
    SpecOk P f ⟨2, ⟨[(0, .v false [.sl e .str]), (1, .v false [.str])], [], [], 0, []⟩, ⟨[(0, .v false [.str])], [], [], 1000, []⟩,
      fun (xs, sep, _) => if xs.length ≤ 140737488355328 ∧ (joinB xs sep).size ≤ 140737488355328 then some (joinB xs sep, ()) else none⟩ := by
  subst hf
  rintro ⟨xs, sep, ⟨⟩⟩ y hxy ρ ok w args hn hH hE
  have hxy : (if xs.length ≤ 140737488355328 ∧ (joinB xs sep).size ≤ 140737488355328 then some (joinB xs sep, ()) else none) = some y := hxy
  split at hxy <;> cases hxy
  rename_i hr
  obtain ⟨v, h0, hv⟩ := arg_at (i := 0) (c := .sl e .str xs) hE rfl
  obtain ⟨u, h1, hu⟩ := arg_at (i := 1) (c := .str sep) hE rfl
  have hu : u = .string sep := hu
  subst hu
  obtain ⟨A, cap, k1, k2, k3⟩ := hv
  cases k1
  rw [args2 hn h0 h1]
  have hlen : (Lib.join (xs.map (·.data.toList)) sep.data.toList).length ≤ 140737488355328 := by
    have := hr.2
    simpa [joinB, ByteArray.size] using this
  have fin : (Calls P (ρs.f 156) #[.slice A xs.length cap, .string sep] w fun e' w' => e' = .returned (.string (joinB xs sep)) ∧ Below w.heap.size w w') → Calls P (ρs.f 156) #[.slice A xs.length cap, .string sep] w fun e' w' => ∃ v ρ' ok', e' = .returned v ∧ RepH ρ' ok' w' (fun _ => none) 1000 ∧
      RepE ρ' ok' w' 1000 (Lv.put (fun _ => none) 0 (some (.v false [.str (joinB xs sep)]))) #[v] ∧ Exits (fun _ => none) ρ ok w (fun _ => none) ρ' ok' w' := by
    intro hc
    refine hc.mono ?_
    rintro e' w' ⟨rfl, hb⟩
    exact lib_end (so := ⟨[(0, .v false [.str])], [], [], 1000, []⟩) (y := (joinB xs sep, ())) hd hb hH (fun l o h => by cases h) (one_env fun _ _ _ _ => ⟨_, rfl, rfl⟩)
  rcases k3 with rfl | ⟨b, o, rfl, hb, hx⟩
  · refine fin ((Any.strings_Join_none L X A cap sep w).mono ?_)
    rintro e' w' ⟨rfl, rfl⟩
    exact ⟨by simp [joinB, Lib.join], Below.refl _ _⟩
  · refine fin ((Any.strings_Join L X b o cap xs sep w ?_ (hH.okl b hb) hr.1 k2 hlen).mono ?_)
    · intro j x hj
      obtain ⟨cs, hc, hcs⟩ := hx j x hj
      cases hc
      have := hcs 0 _ rfl
      simpa [Ty.n] using this
    · rintro e' w' ⟨rfl, hb⟩
      exact ⟨rfl, hb⟩
end Lv
