import Derived.Test.YtnogebfcpicghaaGreatDoorEvY
import Derived.FnData
import Derived.Lib.LaidTab
set_option linter.all false
set_option linter.unusedVariables false
set_option linter.unusedSimpArgs false
set_option linter.unusedSectionVars false
namespace Lv
open Go Go.RowKit

/-! ## Package variables by their names -/
def VarIs (P : Program) (w : World) (v : String × Nat × (Array Value → Prop)) : Prop := P.globalNamed v.1 = some v.2.1 ∧ ∃ cs, w.var? P v.1 = some cs ∧ v.2.2 cs
theorem var_same {P : Program} {w w' : World} {n : String} {g : Nat} (hg : P.globalNamed n = some g) (h : w'.heap[g]? = w.heap[g]?) : w'.var? P n = w.var? P n := by
  simp only [World.var?, hg, Option.bind_some, h]
/-- the instance of a program's variables -/
@[reducible] def varG (P : Program) (l : List (String × Nat × (Array Value → Prop))) (d : Bool) : HasG where
  bs := l.map (·.2.1)
  hold := fun w => ∀ v ∈ l, VarIs P w v
  draw := d
  stable := fun w w' h hs v hv => by
    obtain ⟨h1, cs, h2, h3⟩ := h v hv
    exact ⟨h1, cs, (var_same h1 (hs v.2.1 (List.mem_map.2 ⟨v, hv, rfl⟩))).trans h2, h3⟩

variable [HasG]
/-- how a function of the library ends: the world grew -/
theorem lib_end {so : Sh} {y : TS so} {w w' : World} {ρ : Nat → Value} {ok : Nat → Prop} {hin : Heap} {nx : Nat} {v : Value} (hd : HasG.draw = false) (hb : Below w.heap.size w w') (hH : RepH ρ ok w hin nx) (hout : ∀ l o, hpOut so id y l = some o → False)
    (hE : ∀ ρ ok w nx, RepE ρ ok w nx (envOut so id y) #[v]) : ∃ u ρ' ok', Ending.returned v = .returned u ∧ RepH ρ' ok' w' (hpOut so id y) so.nn ∧ RepE ρ' ok' w' so.nn (envOut so id y) #[u] ∧ Exits hin ρ ok w (hpOut so id y) ρ' ok' w' := by
  have hS : Same ok ok w w' := fun b h => ⟨h, hb.block b (hH.okl b h)⟩
  refine ⟨v, ρ, ok, rfl, ⟨fun l o h => (hout l o h).elim, fun b h => Nat.lt_of_lt_of_le (hH.okl b h) hb.size, fun l o b h => (hout l o h).elim, fun l m o p b h => (hout l o h).elim, hH.gl.move hS⟩, hE _ _ _ _,
    ⟨hb.os, hb.tape, ⟨hb.output, fun e => by rw [hd] at e; cases e⟩, hb.size, fun b h _ => hb.block b h, fun _ h => h, fun _ h => .inl h, fun l o h => (hout l o h).elim, fun l o b h => (hout l o h).elim⟩⟩

theorem one_env {s : Slot} {v : Value} (h : ∀ ρ ok w nx, SlotR ρ ok w nx s v) : ∀ (ρ : Nat → Value) (ok : Nat → Prop) (w : World) (nx : Nat), RepE ρ ok w nx (Lv.put (fun _ => none) 0 (some s)) #[v] := by
  intro ρ ok w nx t u hu
  simp only [Lv.put] at hu
  split at hu
  · rename_i ht
    cases hu
    rw [Nat.eq_of_beq_eq_true ht]
    exact ⟨v, rfl, h _ _ _ _⟩
  · cases hu

/-- arguments' values -/
theorem arg_at {ρ ok w nx} {env : Env} {args : Array Value} {c : Cell} {i : Nat} (hE : RepE ρ ok w nx env args) (h : env i = some (.v false [c])) : ∃ v, args[i]? = some v ∧ CellR ρ ok w nx c v := by
  obtain ⟨v, h1, d, e, h2⟩ := hE i _ h
  cases e
  exact ⟨v, h1, h2⟩
theorem args1 {args : Array Value} {a : Value} (hn : args.size = 1) (h0 : args[0]? = some a) : args = #[a] := by
  obtain ⟨l⟩ := args
  match l, hn, h0 with
  | [x], _, h0 => simp at h0; subst h0; rfl
theorem args2 {args : Array Value} {a b : Value} (hn : args.size = 2) (h0 : args[0]? = some a) (h1 : args[1]? = some b) : args = #[a, b] := by
  obtain ⟨l⟩ := args
  match l, hn, h0, h1 with
  | [x, y], _, h0, h1 => simp at h0 h1; subst h0 h1; rfl
theorem args3 {args : Array Value} {a b c : Value} (hn : args.size = 3) (h0 : args[0]? = some a) (h1 : args[1]? = some b) (h2 : args[2]? = some c) : args = #[a, b, c] := by
  obtain ⟨l⟩ := args
  match l, hn, h0, h1, h2 with
  | [x, y, z], _, h0, h1, h2 => simp at h0 h1 h2; subst h0 h1 h2; rfl

/-- a number to a text -/
theorem i2s_spec {P : Program} {f : Nat} (hd : HasG.draw = false) {F : Int → ByteArray} {lo hi : Int} (h : ∀ (n : Int) (w : World), lo ≤ n → n ≤ hi → HasG.hold w → Calls P f #[.int .i64 n] w fun e w' => e = .returned (.string (F n)) ∧ Below w.heap.size w w') :
    SpecOk P f ⟨1, ⟨[(0, .v false [.int .i64])], [], [], 0, []⟩, ⟨[(0, .v false [.str])], [], [], 1000, []⟩, fun (n, _) => if lo ≤ n ∧ n ≤ hi then some (F n, ()) else none⟩ := by
  rintro ⟨n, ⟨⟩⟩ y hxy ρ ok w args hn hH hE
  have hxy : (if lo ≤ n ∧ n ≤ hi then some (F n, ()) else none) = some y := hxy
  split at hxy <;> cases hxy
  rename_i hr
  obtain ⟨v, h0, hv⟩ := arg_at (i := 0) (c := .int .i64 n) hE rfl
  have hv : v = .int .i64 n := hv
  subst hv
  rw [args1 hn h0]
  refine (h n w hr.1 hr.2 hH.gl.2).mono ?_
  rintro e w' ⟨rfl, hb⟩
  exact lib_end hd hb hH (fun l o h => by cases h) (one_env fun _ _ _ _ => ⟨_, rfl, rfl⟩)

/-- two texts to a truth value -/
theorem ss2b_spec {P : Program} {f : Nat} (hd : HasG.draw = false) {F : ByteArray → ByteArray → Bool} {C : ByteArray → ByteArray → Prop} [∀ a b, Decidable (C a b)] (h : ∀ (a b : ByteArray) (w : World), C a b → HasG.hold w → Calls P f #[.string a, .string b] w fun e w' => e = .returned (.bool (F a b)) ∧ Below w.heap.size w w') :
    SpecOk P f ⟨2, ⟨[(0, .v false [.str]), (1, .v false [.str])], [], [], 0, []⟩, ⟨[(0, .v false [.bool])], [], [], 1000, []⟩, fun (a, b, _) => if C a b then some (F a b, ()) else none⟩ := by
  rintro ⟨a, b, ⟨⟩⟩ y hxy ρ ok w args hn hH hE
  have hxy : (if C a b then some (F a b, ()) else none) = some y := hxy
  split at hxy <;> cases hxy
  rename_i hr
  obtain ⟨v, h0, hv⟩ := arg_at (i := 0) (c := .str a) hE rfl
  obtain ⟨u, h1, hu⟩ := arg_at (i := 1) (c := .str b) hE rfl
  have hv : v = .string a := hv
  have hu : u = .string b := hu
  subst hv hu
  rw [args2 hn h0 h1]
  refine (h a b w hr hH.gl.2).mono ?_
  rintro e w' ⟨rfl, hb⟩
  exact lib_end hd hb hH (fun l o h => by cases h) (one_env fun _ _ _ _ => ⟨_, rfl, rfl⟩)

/-- three texts to a text -/
theorem sss2s_spec {P : Program} {f : Nat} (hd : HasG.draw = false) {F : ByteArray → ByteArray → ByteArray → ByteArray} {C : ByteArray → ByteArray → ByteArray → Prop} [∀ a b c, Decidable (C a b c)] (h : ∀ (a b c : ByteArray) (w : World), C a b c → HasG.hold w → Calls P f #[.string a, .string b, .string c] w fun e w' => e = .returned (.string (F a b c)) ∧ Below w.heap.size w w') :
    SpecOk P f ⟨3, ⟨[(0, .v false [.str]), (1, .v false [.str]), (2, .v false [.str])], [], [], 0, []⟩, ⟨[(0, .v false [.str])], [], [], 1000, []⟩, fun (a, b, c, _) => if C a b c then some (F a b c, ()) else none⟩ := by
  rintro ⟨a, b, c, ⟨⟩⟩ y hxy ρ ok w args hn hH hE
  have hxy : (if C a b c then some (F a b c, ()) else none) = some y := hxy
  split at hxy <;> cases hxy
  rename_i hr
  obtain ⟨v, h0, hv⟩ := arg_at (i := 0) (c := .str a) hE rfl
  obtain ⟨u, h1, hu⟩ := arg_at (i := 1) (c := .str b) hE rfl
  obtain ⟨z, h2, hz⟩ := arg_at (i := 2) (c := .str c) hE rfl
  have hv : v = .string a := hv
  have hu : u = .string b := hu
  have hz : z = .string c := hz
  subst hv hu hz
  rw [args3 hn h0 h1 h2]
  refine (h a b c w hr hH.gl.2).mono ?_
  rintro e w' ⟨rfl, hb⟩
  exact lib_end hd hb hH (fun l o h => by cases h) (one_env fun _ _ _ _ => ⟨_, rfl, rfl⟩)

/-- a text to a number, and whether there is no error -/
theorem s2ie_spec {P : Program} {f : Nat} (hd : HasG.draw = false) {F : ByteArray → Int × Bool} {C : ByteArray → Prop} [∀ a, Decidable (C a)] (h : ∀ (a : ByteArray) (w : World), C a → HasG.hold w → Calls P f #[.string a] w fun e w' => ∃ v, e = .returned (.tuple #[.int .i64 (F a).1, v]) ∧ (((F a).2 = true ∧ v = .nilIface) ∨ ((F a).2 = false ∧ ∃ t u, v = .iface t u)) ∧ Below w.heap.size w w') :
    SpecOk P f ⟨1, ⟨[(0, .v false [.str])], [], [], 0, []⟩, ⟨[(0, .tup [(false, [.int .i64]), (false, [.ifc])])], [], [], 1000, []⟩, fun (a, _) => if C a then some ((F a).1, (F a).2, ()) else none⟩ := by
  rintro ⟨a, ⟨⟩⟩ y hxy ρ ok w args hn hH hE
  have hxy : (if C a then some ((F a).1, (F a).2, ()) else none) = some y := hxy
  split at hxy <;> cases hxy
  rename_i hr
  obtain ⟨v, h0, hv⟩ := arg_at (i := 0) (c := .str a) hE rfl
  have hv : v = .string a := hv
  subst hv
  rw [args1 hn h0]
  refine (h a w hr hH.gl.2).mono ?_
  rintro e w' ⟨v, rfl, hv, hb⟩
  exact lib_end hd hb hH (fun l o h => by cases h) (one_env fun _ _ _ _ => ⟨[.int .i64 (F a).1, v], rfl, .cons ⟨_, rfl, rfl⟩ (.cons ⟨_, rfl, hv⟩ .nil)⟩)
end Lv
